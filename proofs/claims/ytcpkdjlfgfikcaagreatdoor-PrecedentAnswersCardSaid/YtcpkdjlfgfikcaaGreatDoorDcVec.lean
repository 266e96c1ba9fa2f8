/- Part Dc.Vec of a proof: lemmas. -/
import Derived.Test.YtcpkdjlfgfikcaaGreatDoorDcArr
import Derived.Test.YtcpkdjlfgfikcaaGreatDoorDcClo
/-! Arrays of numbers, however long, as variables. -/
namespace Go.Dc
variable {P : Program} {E : Env} {N : Nat} {Γ : List (Nat × RP)} {Ω : List OB} {ty : TypeId}

/-- an element of an array of n numbers -/
def vidxM (n : Nat) (d : List Int) (i : Int) : Option Int := if d.length = n then idxM d i else none
theorem vidx_len {n : Nat} {d : List Int} {i y : Int} (h : vidxM n d i = some y) : d.length = n := by
  unfold vidxM at h; split at h
  · assumption
  · cases h
theorem vidx_idx {n : Nat} {d : List Int} {i y : Int} (h : vidxM n d i = some y) : idxM d i = some y := by
  have hl := vidx_len h
  unfold vidxM at h; rwa [if_pos hl] at h
theorem map_iv (k : IntKind) (d : List Int) : d.map (iv k) = d.flatMap (rI k).cp := by
  induction d with
  | nil => rfl
  | cons x d ih => rw [List.map_cons, List.flatMap_cons, ih]; rfl
theorem r_vload {e : TypeId} {x : Operand} {b j : Nat} {k : IntKind} {d : List Int} {n : Int} {y : Int} (hy : idxM d n = some y) (hg : ∀ w, (isAgg e).run P w = .ok false w)
    (hx : lkO Γ x = some (pv (ptr b (0 + n.toNat)))) (hj : Ω[j]? = some (oc b (d.map (iv k)))) : Rd P E N (.load e x) ty Γ Ω [j] (iv k y) :=
  r_acload (ρ := rI k) (off := 0) hy hg hx hj (by rw [← map_iv, List.drop_zero, List.take_of_length_le (by simp)]) rfl rfl
theorem s_vstore {e : TypeId} {x v : Operand} {b j : Nat} {k : IntKind} {d : List Int} {n : Int} {y u : Int} (hy : idxM d n = some y) (hn : ∀ w, (Go.sizeOf e).run P w = .ok 1 w)
    (hx : lkO Γ x = some (pv (ptr b (0 + n.toNat)))) (hj : Ω[j]? = some (oc b (d.map (iv k)))) (hv : PartOk E N Γ Ω v [iv k u]) : St P E N (.store e x v) ty Γ Ω [j] (fun _ : Unit => pv undef) (fun _ => Ω.set j (oc b ((d.set n.toNat u).map (iv k)))) :=
  s_acstore (off := 0) hy hn hx hj hv (Nat.ble_eq_true_of_le (by simp)) fun i hi e => by
    subst e
    simp only [Int.toNat_natCast, Nat.zero_add]
    rw [List.map_set]
    have hlt : i < (d.map (iv k)).length := by simpa using hi
    rw [List.set_eq_take_append_cons_drop, if_pos hlt]
    simp

/-- the address of an element of an owned slice is not nil -/
theorem r_onilc {α : Type} {ρ : Rep α} {x : Operand} {d : List α} {n : Int} {y : α} {hv : Value} {S : List Nat} {j : Nat} (hy : idxM d n = some y) (hx : lkO Γ x = some (pv (elA hv ρ.size n))) (hj : Ω[j]? = some (oa ρ hv S d)) :
    Rd P E N (.nilCheck x) ty Γ Ω [] (pv (elA hv ρ.size n)) := .mk fun a w hs => by
  obtain ⟨h0, h1, hlt, hd⟩ := idxM_some hy
  have h2 : a.eval x = elA hv ρ.size n := hs.op hx
  obtain ⟨ad, c, rfl, hc, hat⟩ := hs.objAt hj
  rcases hat with ⟨rfl, _, rfl⟩ | ⟨b, off, cells, ty', rfl, hS, hb, hsz, hH⟩
  · omega
  · exact ⟨_, rfl, fun w' o ho _ => by simp [execOp, ho, h2, elA]⟩
end Go.Dc
