/- Part Dc.Vec of a proof: lemmas. -/
import Derived.Test.YtcpkdjlfgfikcaaDoorDcArr
import Derived.Test.YtcpkdjlfgfikcaaDoorDcClo
/-! Arrays of numbers, however long, as variables. -/
namespace Go.Dc
variable {P : Program} {E : Env} {N : Nat} {Γ : List (Nat × RP)} {Ω : List OB} {ty : TypeId}

/-- an element of an array of n numbers -/
def vidxM (n : Nat) (d : List Int) (i : Int) : Option Int := if d.length = n then idxM d i else none
theorem vidx_len {n : Nat} {d : List Int} {i y : Int} (h : vidxM n d i = some y) : d.length = n := by
  unfold vidxM at h; split at h
  · assumption
  · cases h
theorem vidx_idx {n : Nat} {d : List Int} {i y : Int} (h : vidxM n d i = some y) : idxM d i = some y := by
  have hl := vidx_len h
  unfold vidxM at h; rwa [if_pos hl] at h
theorem map_iv (k : IntKind) (d : List Int) : d.map (iv k) = d.flatMap (rI k).cp := by
  induction d with
  | nil => rfl
  | cons x d ih => rw [List.map_cons, List.flatMap_cons, ih]; rfl
theorem r_vload {e : TypeId} {x : Operand} {b j : Nat} {k : IntKind} {d : List Int} {n : Int} {y : Int} (hy : idxM d n = some y) (hg : ∀ w, (isAgg e).run P w = .ok false w)
    (hx : lkO Γ x = some (pv (ptr b (0 + n.toNat)))) (hj : Ω[j]? = some (oc b (d.map (iv k)))) : Rd P E N (.load e x) ty Γ Ω [j] (iv k y) :=
  r_acload (ρ := rI k) (off := 0) hy hg hx hj (by rw [← map_iv, List.drop_zero, List.take_of_length_le (by simp)]) rfl rfl
theorem s_vstore {e : TypeId} {x v : Operand} {b j : Nat} {k : IntKind} {d : List Int} {n : Int} {y u : Int} (hy : idxM d n = some y) (hn : ∀ w, (Go.sizeOf e).run P w = .ok 1 w)
    (hx : lkO Γ x = some (pv (ptr b (0 + n.toNat)))) (hj : Ω[j]? = some (oc b (d.map (iv k)))) (hv : PartOk E N Γ Ω v [iv k u]) : St P E N (.store e x v) ty Γ Ω [j] (fun _ : Unit => pv undef) (fun _ => Ω.set j (oc b ((d.set n.toNat u).map (iv k)))) :=
  s_acstore (off := 0) hy hn hx hj hv (Nat.ble_eq_true_of_le (by simp)) fun i hi e => by
    subst e
    simp only [Int.toNat_natCast, Nat.zero_add]
    rw [List.map_set]
    have hlt : i < (d.map (iv k)).length := by simpa using hi
    rw [List.set_eq_take_append_cons_drop, if_pos hlt]
    simp

/-- an element of one cell of an array value -/
theorem r_aindex1 {α : Type} {ρ : Rep α} {t e bytes : Nat} {x i : Operand} {k : IntKind} {n : Int} {es : List α} {y : α} {len : Nat} {φs : List RP} (hy : idxM es n = some y) (hu : P.underlying t = some (.array len e)) (h : ElT P e ρ bytes) (hx : lkO Γ x = some (ag φs)) (hi : lkO Γ i = some (iv k n))
    (hl : es.length = len) (hφ : φs = es.flatMap ρ.cp) (ha : ρ.agg = false) : Rd P E N (.index t x i) ty Γ Ω [] (sh ρ y) := .mk fun a w hs => by
  obtain ⟨h0, hlt, hil, hd⟩ := idxM_some hy
  obtain ⟨cs, hv, hall⟩ := hs.op hx
  have h2 : a.eval i = .int k n := hs.op hi
  have h1 := ρ.one ha
  have hlen : ∀ l : List α, ∀ k (hk : k < l.length), (l.flatMap ρ.cp)[k]? = some (sh ρ l[k]) := fun l => by
    induction l with
    | nil => intro k hk; simp at hk
    | cons z l ih =>
      intro k hk
      obtain ⟨φ, hφ⟩ : ∃ φ, ρ.cp z = [φ] := List.length_eq_one_iff.1 (by rw [ρ.len, h1])
      have hsh : sh ρ z = φ := by unfold sh; rw [ha, hφ]; rfl
      cases k with
      | zero => simp [hφ, hsh]
      | succ k => simp [hφ]; simpa using ih k (by simpa using hk)
  have h3 := hlen es n.toNat hil
  rw [← hφ] at h3
  obtain ⟨v, hv2, hh⟩ := hall.get h3
  rw [hd] at hh
  have hg := h.agg
  rw [ha] at hg
  have hz := h.sizeOf
  rw [h1] at hz
  refine ⟨v, hh, fun w' o hop _ => ?_⟩
  have hlt' : n < (len : Int) := by rw [← hl]; exact hlt
  have hv3 : cs[n.toNat]? = some v := by simpa using hv2
  simp [execOp, hop, Instr.index, hv, h2, asIntOf, run_underlying hu, h0, hlt', part, hg, hz, hv3]
end Go.Dc
