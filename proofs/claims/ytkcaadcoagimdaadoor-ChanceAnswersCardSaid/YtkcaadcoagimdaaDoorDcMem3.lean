/- Part Dc.Mem3 of a proof: lemmas. -/
import Derived.Test.YtkcaadcoagimdaaDoorDcMem2
/-! Variables, composite values, stores. -/
namespace Go.Dc

variable {P : Program} {E : Env} {N : Nat} {Γ : List (Nat × RP)} {Ω : List OB} {ty : TypeId}

/-! ### the cells of an operand -/
def PartOk (E : Env) (N : Nat) (Γ : List (Nat × RP)) (Ω : List OB) (x : Operand) (ψs : List RP) : Prop :=
  ∀ a w, Sat E N Γ Ω a w → AllP (fr E Ω) w ψs (a.eval x).cells.toList ∧ ∀ v ∈ (a.eval x).cells.toList, v.oneCell' = true

theorem iv_at {k : IntKind} {n : Int} : (iv k n).At := pv_at rfl
theorem bv_at {b : Bool} : (bv b).At := pv_at rfl
theorem slv_at {α : Type} {ρ : Rep α} {d : List α} : (slv ρ d).At := (rSl ρ).at_ d _ (by simp [rSl, one])

theorem part_at {x : Operand} {φ : RP} (h : lkO Γ x = some φ) (hat : φ.At) : PartOk E N Γ Ω x [φ] := fun a w hs => by
  have h1 := hs.op h
  have h2 := hat h1
  rw [cells_one h2]
  exact ⟨⟨h1, trivial⟩, by simpa using h2⟩

theorem part_own {α : Type} {ρ : Rep α} {d : List α} {x : Operand} {hv : Value} {S : List Nat} {j : Nat} (h : lkO Γ x = some (pv hv)) (hj : Ω[j]? = some (oa ρ hv S d)) :
    PartOk E N Γ Ω x [pv hv] := fun a w hs => by
  have h1 : a.eval x = hv := hs.op h
  obtain ⟨ad, c, rfl, _⟩ := hs.objAt hj
  rw [h1]
  exact ⟨⟨rfl, trivial⟩, by simp [Value.cells, Value.oneCell']⟩

def PartsOk (E : Env) (N : Nat) (Γ : List (Nat × RP)) (Ω : List OB) : List (Nat × Operand) → List (Nat × List RP) → Prop
  | [], [] => True
  | (i, x) :: xs, (k, ψs) :: rs => i = k ∧ PartOk E N Γ Ω x ψs ∧ PartsOk E N Γ Ω xs rs
  | _, _ => False

/-! ### filling cells -/
theorem fold_set : ∀ (vs : List Value) (off k : Nat) (cs : Array Value), off + k + vs.length ≤ cs.size →
    ((vs.zipIdx k).foldl (fun cs (x : Value × Nat) => cs.setIfInBounds (off + x.2) x.1) cs).toList = cs.toList.take (off + k) ++ vs ++ cs.toList.drop (off + k + vs.length)
  | [], off, k, cs, _ => by simp
  | v :: vs, off, k, cs, h => by
    simp only [List.length_cons] at h
    rw [List.zipIdx_cons, List.foldl_cons]
    have ih := fold_set vs off (k + 1) (cs.setIfInBounds (off + k) v) (by simp; omega)
    rw [ih]
    have hlt : off + k < cs.toList.length := by rw [Array.length_toList]; omega
    rw [Array.toList_setIfInBounds]
    have e1 : (cs.toList.set (off + k) v).take (off + (k + 1)) = cs.toList.take (off + k) ++ [v] := by
      rw [← Nat.add_assoc, List.take_add_one, List.take_set_of_le (Nat.le_refl _), List.getElem?_set_self hlt]; rfl
    have e2 : (cs.toList.set (off + k) v).drop (off + (k + 1) + vs.length) = cs.toList.drop (off + k + (v :: vs).length) := by
      rw [List.drop_set_of_lt (by omega)]; congr 1; simp; omega
    rw [e1, e2]; simp

/-- what stands in the cells behind the parts have been filled in -/
def fillRP (place : Nat → Option (Nat × Nat)) : List RP → List (Nat × List RP) → List RP
  | φs, [] => φs
  | φs, (i, ψs) :: r => match place i with
    | none => φs
    | some (off, size) => fillRP place (φs.take off ++ ψs ++ φs.drop (off + size)) r

def fitRP (place : Nat → Option (Nat × Nat)) (n : Nat) : List (Nat × List RP) → Bool
  | [] => true
  | (i, ψs) :: r => (match place i with
    | none => false
    | some (off, size) => Nat.beq ψs.length size && Nat.ble (off + size) n) && fitRP place n r

theorem fill_ok {F : FP} {w : World} {place : Nat → Option (Nat × Nat)} (g : Operand → Value) : ∀ {ps : List (Nat × Operand)} {rs : List (Nat × List RP)} {φs : List RP} {cells : Array Value},
    (∀ i x ψs, (i, x, ψs) ∈ (ps.zip rs).map (fun p => (p.1.1, p.1.2, p.2.2)) → AllP F w ψs (g x).cells.toList) → (ps.map (·.1) = rs.map (·.1)) → AllP F w φs cells.toList → fitRP place φs.length rs = true →
    ∃ out, Instr.fill place cells (ps.map fun p => (p.1, g p.2)) = some out ∧ AllP F w (fillRP place φs rs) out.toList
  | [], [], φs, cells, _, _, hc, _ => ⟨cells, rfl, hc⟩
  | (i, x) :: ps, (k, ψs) :: rs, φs, cells, hp, hk, hc, hf => by
    simp only [List.map_cons, List.cons.injEq] at hk
    obtain ⟨rfl, hk⟩ := hk
    have hx := hp i x ψs (by simp)
    have hl := hx.length
    have hcl := hc.length
    simp only [fitRP, Bool.and_eq_true] at hf
    obtain ⟨hf1, hf2⟩ := hf
    cases hpl : place i with
    | none => simp [hpl] at hf1
    | some q =>
      obtain ⟨off, size⟩ := q
      simp only [hpl, Bool.and_eq_true] at hf1
      have h1 : ψs.length = size := Nat.eq_of_beq_eq_true hf1.1
      have h2 : off + size ≤ φs.length := Nat.le_of_ble_eq_true hf1.2
      have hvs : (g x).cells.size = size := by rw [← Array.length_toList, hl, h1]
      have hcs : cells.size = φs.length := by rw [← Array.length_toList, hcl]
      simp only [List.map_cons, Instr.fill, hpl, fillRP]
      rw [if_neg (by simp [hvs, hcs]; omega)]
      have hfold : ((g x).cells.zipIdx.foldl (fun cs (c, j) => cs.setIfInBounds (off + j) c) cells).toList = cells.toList.take off ++ (g x).cells.toList ++ cells.toList.drop (off + size) := by
        have := fold_set (g x).cells.toList off 0 cells (by rw [Array.length_toList]; omega)
        rw [← Array.foldl_toList, Array.toList_zipIdx]
        simp only [Nat.add_zero, Array.length_toList, hvs] at this
        exact this
      refine fill_ok g (fun i' x' ψ' hm => hp i' x' ψ' (by simp only [List.zip_cons_cons, List.map_cons]; exact List.mem_cons_of_mem _ hm)) hk ?_ ?_
      · rw [hfold]; exact ((hc.take off).append hx).append (hc.drop (off + size))
      · have : (φs.take off ++ ψs ++ φs.drop (off + size)).length = φs.length := by simp; omega
        rw [this]; exact hf2
  | [], _ :: _, _, _, _, hk, _, _ => by simp at hk
  | _ :: _, [], _, _, _, hk, _, _ => by simp at hk

theorem PartsOk.all {a : Act} {w : World} (hs : Sat E N Γ Ω a w) : ∀ {ps : List (Nat × Operand)} {rs : List (Nat × List RP)}, PartsOk E N Γ Ω ps rs →
    (∀ i x ψs, (i, x, ψs) ∈ (ps.zip rs).map (fun p => (p.1.1, p.1.2, p.2.2)) → AllP (fr E Ω) w ψs (a.eval x).cells.toList) ∧ ps.map (·.1) = rs.map (·.1)
  | [], [], _ => ⟨by simp, rfl⟩
  | (i, x) :: ps, (k, ψs) :: rs, ⟨h1, h2, h3⟩ => by
    obtain ⟨h4, h5⟩ := h3.all hs
    refine ⟨fun i' x' ψ' hm => ?_, by simp [h1, h5]⟩
    simp only [List.zip_cons_cons, List.map_cons, List.mem_cons, Prod.mk.injEq] at hm
    rcases hm with ⟨_, rfl, rfl⟩ | hm
    · exact (h2 a w hs).1
    · exact h4 i' x' ψ' hm
  | [], _ :: _, h => h.elim
  | _ :: _, [], h => h.elim

/-- the fields of a struct type: offset and size -/
def StT (P : Program) (t : TypeId) (n : Nat) (places : List (Nat × Nat)) : Prop :=
  ∃ fields, P.underlying t = some (.struct fields) ∧ (∃ i z, P.info? t = some i ∧ i.zero = some z ∧ z.cells.size = n) ∧ ∀ w, (fields.mapM (fun (f : Go.Field) => do pure (f.offset, ← Go.sizeOf f.type)) : Sem (Array (Nat × Nat))).run P w = .ok places.toArray w

/-- T{..} -/
theorem r_build {t : TypeId} {ps : List (Nat × Operand)} {rs : List (Nat × List RP)} {n : Nat} {places : List (Nat × Nat)} {zs : List RP} (hT : StT P t n places)
    (hz : ∀ i z, P.info? t = some i → i.zero = some z → ∀ F w, AllP F w zs z.cells.toList)
    (hp : PartsOk E N Γ Ω ps rs) (hfit : fitRP (fun i => places[i]?) zs.length rs = true) {out : List RP} (ho : fillRP (fun i => places[i]?) zs rs = out) :
    Rd P E N (.build t ps.toArray) ty Γ Ω [] (ag out) := .mk fun a w hs => by
  obtain ⟨fields, hu, ⟨i, z, hi, hzz, _⟩, hpl⟩ := hT
  have hzc := hz i z hi hzz (fr E Ω) w
  obtain ⟨h1, h2⟩ := hp.all hs
  obtain ⟨cells, hfill, hall⟩ := fill_ok (F := fr E Ω) (w := w) (place := fun i => places[i]?) a.eval h1 h2 hzc hfit
  refine ⟨.agg cells, ⟨cells, rfl, ho ▸ hall⟩, fun w' o hop _ => ?_⟩
  have hfill' : Instr.fill (fun i => places.toArray[i]?) z.cells (ps.map fun p => (p.1, a.eval p.2)) = some cells := by simpa using hfill
  have hzv : (zeroValue t).run P w' = .ok z w' := by simp [zeroValue, typeInfo, hi, hzz]
  simp [execOp, hop, Instr.build, hzv, run_underlying hu] at hpl hfill' ⊢
  simp [hpl, hfill']

end Go.Dc
