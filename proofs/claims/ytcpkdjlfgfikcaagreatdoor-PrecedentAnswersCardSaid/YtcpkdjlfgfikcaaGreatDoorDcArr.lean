/- Part Dc.Arr of a proof: lemmas. -/
import Derived.Test.YtcpkdjlfgfikcaaGreatDoorDcConv
/-! Arrays. -/
namespace Go.Dc
variable {P : Program} {E : Env} {N : Nat} {Γ : List (Nat × RP)} {Ω : List OB} {ty : TypeId} {α : Type} {ρ : Rep α}

theorem r_buildA {t e : TypeId} {ps : List (Nat × Operand)} {rs : List (Nat × List RP)} {len sz : Nat} {zs : List RP} (hu : P.underlying t = some (.array len e)) (hs : ∀ w, (Go.sizeOf e).run P w = .ok sz w)
    (hi : ∃ i z, P.info? t = some i ∧ i.zero = some z)
    (hz : ∀ i z, P.info? t = some i → i.zero = some z → ∀ F w, AllP F w zs z.cells.toList)
    (hp : PartsOk E N Γ Ω ps rs) (hfit : fitRP (fun i => some (i * sz, sz)) zs.length rs = true) {out : List RP} (ho : fillRP (fun i => some (i * sz, sz)) zs rs = out) :
    Rd P E N (.build t ps.toArray) ty Γ Ω [] (ag out) := .mk fun a w hs' => by
  obtain ⟨i, z, hi, hzz⟩ := hi
  have hzc := hz i z hi hzz (fr E Ω) w
  obtain ⟨h1, h2⟩ := hp.all hs'
  obtain ⟨cells, hfill, hall⟩ := fill_ok (F := fr E Ω) (w := w) (place := fun i => some (i * sz, sz)) a.eval h1 h2 hzc hfit
  refine ⟨.agg cells, ⟨cells, rfl, ho ▸ hall⟩, fun w' o hop _ => ?_⟩
  have hzv : (zeroValue t).run P w' = .ok z w' := by simp [zeroValue, typeInfo, hi, hzz]
  simp [execOp, hop, Instr.build, hzv, run_underlying hu, hs, hfill]

theorem r_aaddrV {t e len : Nat} {x i : Operand} {b off : Nat} {k : IntKind} {n : Int} {es : List α} {y : α} (hy : idxM es n = some y) (hl : es.length = len) (hu : P.underlying t = some (.array len e))
    (hn : ∀ w, (Go.sizeOf e).run P w = .ok 1 w) (hx : lkO Γ x = some (pv (ptr b off))) (hi : lkO Γ i = some (iv k n)) :
    Rd P E N (.indexAddr t x i) ty Γ Ω [] (pv (ptr b (off + n.toNat))) := by
  obtain ⟨h0, h1, _⟩ := idxM_some hy
  have := r_aaddr (P := P) (E := E) (N := N) (Ω := Ω) (ty := ty) (sz := 1) (n := n) ⟨h0, by rw [← hl]; exact h1⟩ hu hn hx hi
  rwa [Nat.mul_one] at this

theorem r_acload {e : TypeId} {x : Operand} {b off j : Nat} {φs : List RP} {es : List α} {n : Int} {y : α} (hy : idxM es n = some y) (hg : ∀ w, (isAgg e).run P w = .ok false w) (hx : lkO Γ x = some (pv (ptr b (off + n.toNat)))) (hj : Ω[j]? = some (oc b φs))
    (hφ : (φs.drop off).take es.length = es.flatMap ρ.cp) (h1 : ρ.size = 1) (ha : ρ.agg = false) : Rd P E N (.load e x) ty Γ Ω [j] (sh ρ y) := by
  obtain ⟨h0, hlt, hi, hd⟩ := idxM_some hy
  refine r_cload hg hx hj ?_
  have hlen : ∀ l : List α, ∀ k (hk : k < l.length), (l.flatMap ρ.cp)[k]? = some (sh ρ l[k]) := fun l => by
    induction l with
    | nil => intro k hk; simp at hk
    | cons z l ih =>
      intro k hk
      obtain ⟨φ, hφ⟩ : ∃ φ, ρ.cp z = [φ] := List.length_eq_one_iff.1 (by rw [ρ.len, h1])
      have hsh : sh ρ z = φ := by unfold sh; rw [ha, hφ]; rfl
      cases k with
      | zero => simp [hφ, hsh]
      | succ k => simp [hφ]; simpa using ih k (by simpa using hk)
  have h3 := hlen es n.toNat hi
  rw [← hφ, List.getElem?_take_of_lt (by omega), List.getElem?_drop, hd] at h3
  exact h3

/-- the element j of an array behind a store of v at n -/
def aset {α : Type} (n j : Int) (v e : α) : α := bif n == j then v else e

theorem s_acstore {e : TypeId} {x v : Operand} {b off j : Nat} {φs out : List RP} {φ : RP} {es : List α} {n : Int} {y : α} (hy : idxM es n = some y) (hn : ∀ w, (Go.sizeOf e).run P w = .ok 1 w)
    (hx : lkO Γ x = some (pv (ptr b (off + n.toNat)))) (hj : Ω[j]? = some (oc b φs)) (hv : PartOk E N Γ Ω v [φ]) (hfit : Nat.ble (off + es.length) φs.length = true)
    (ho : ∀ i : Nat, i < es.length → n = (i : Int) → φs.take (off + i) ++ [φ] ++ φs.drop (off + i + 1) = out) : St P E N (.store e x v) ty Γ Ω [j] (fun _ : Unit => pv undef) (fun _ => Ω.set j (oc b out)) := by
  obtain ⟨h0, hlt, hi, hd⟩ := idxM_some hy
  have hf := Nat.le_of_ble_eq_true hfit
  exact s_cstore hn hx hj hv rfl (Nat.ble_eq_true_of_le (by omega)) (ho n.toNat hi (by omega))

/-! a struct that holds owned slices is stored -/
def AtO (Ω : List OB) : List RP → Prop
  | [] => True
  | φ :: r => (φ.At ∨ ∃ (α : Type) (ρ : Rep α) (hv : Value) (S : List Nat) (d : List α) (j : Nat), φ = pv hv ∧ Ω[j]? = some (oa ρ hv S d)) ∧ AtO Ω r

theorem AtO.all {a : Act} {w : World} (hs : Sat E N Γ Ω a w) : ∀ {φs : List RP} {cs : List Value}, AtO Ω φs → AllP (fr E Ω) w φs cs → ∀ v ∈ cs, v.oneCell' = true
  | [], [], _, _, v, hv => by simp at hv
  | φ :: _, u :: _, ⟨h0, h0'⟩, ⟨h1, h2⟩, v, hv => by
    rcases List.mem_cons.1 hv with e | e
    · rw [e]
      rcases h0 with h0 | ⟨α, ρ, hv, S, d, j, rfl, hj⟩
      · exact h0 h1
      · obtain ⟨ad, c, rfl, _⟩ := hs.objAt hj
        rw [show u = _ from h1]; rfl
    · exact AtO.all hs h0' h2 v e
  | [], _ :: _, _, h, _, _ => h.elim
  | _ :: _, [], _, h, _, _ => h.elim

theorem part_agO {ψs : List RP} {x : Operand} (h : lkO Γ x = some (ag ψs)) (hat : AtO Ω ψs) : PartOk E N Γ Ω x ψs := fun a w hs => by
  obtain ⟨cs, h1, h2⟩ := hs.op h
  rw [h1]
  exact ⟨h2, hat.all hs h2⟩
end Go.Dc
