/- Part Dc.Conv of a proof: lemmas. -/
import Derived.Test.YtejhbimlekcllaaDoorDcGlue
/-! Operations that can fail, and some more. -/
namespace Go.Dc
variable {P : Program} {E : Env} {N : Nat} {Γ : List (Nat × RP)} {Ω : List OB} {ty : TypeId}

def iremM (k : IntKind) (x y : Int) : Option Int := if y = 0 then none else some (irem k x y)
def iquoM (k : IntKind) (x y : Int) : Option Int := if y = 0 then none else some (iquo k x y)
def ishlM (k : IntKind) (x y : Int) : Option Int := if y < 0 then none else some (ishl k x y)
def ishrM (k : IntKind) (x y : Int) : Option Int := if y < 0 then none else some (ishr k x y)

section
variable {t yt : TypeId} {x y c : Operand} {k k' : IntKind} {m n v : Int}
theorem r_remM (hd : iremM k m n = some v) (hx : lkO Γ x = some (iv k m)) (hy : lkO Γ y = some (iv k n)) : Rd P E N (.binOp .rem t x y yt) ty Γ Ω [] (iv k v) := by
  unfold iremM at hd; split at hd
  · cases hd
  · cases hd; exact r_rem hx hy (by assumption)
theorem r_shlM (hd : ishlM k m n = some v) (hx : lkO Γ x = some (iv k m)) (hy : lkO Γ y = some (iv k' n)) : Rd P E N (.binOp .shl t x y yt) ty Γ Ω [] (iv k v) := by
  unfold ishlM at hd; split at hd
  · cases hd
  · cases hd; exact r_shl hx hy (by omega)
/-- min(x, y) and max(x, y) of ints -/
def imin (x y : Int) : Int := if y < x then y else x
def imax (x y : Int) : Int := if y > x then y else x
theorem r_min {t1 t2 : TypeId} (hx : lkO Γ x = some (iv k m)) (hy : lkO Γ y = some (iv k n)) : Rd P E N (.call ⟨.builtin .min, #[x, y], #[t1, t2]⟩) ty Γ Ω [] (iv k (imin m n)) := .mk fun a w hs => by
  have h1 : a.eval x = .int k m := hs.op hx
  have h2 : a.eval y = .int k n := hs.op hy
  refine ⟨_, rfl, fun w' o ho _ => ?_⟩
  simp [execOp, ho, resolve, invoke, builtin, Builtin.min_, Builtin.min2, h1, h2, imin]
end

end Go.Dc

/-! Some more operations on slices. -/
namespace Go.Dc
variable {P : Program} {E : Env} {N : Nat} {Γ : List (Nat × RP)} {Ω : List OB} {ty : TypeId}

section
variable {α : Type} {e t yt : TypeId} {ρ : Rep α} {bytes : Nat} {x : Operand}

theorem run_isnil {a : Option Addr} {n c : Nat} (hu : P.underlying t = some (.slice e)) (w : World) : (Op.equal t (.slice a n c) (.slice none 0 0)).run P w = .ok a.isNone w := by
  unfold Op.equal
  rw [show Op.maxDepth = 9999 + 1 from rfl, Op.equalIn, Sem.run_bind, run_underlying hu]
  cases a <;> rfl

/-- x == nil -/
theorem s_isnil {d : List α} (hu : P.underlying t = some (.slice e)) (hx : lkO Γ x = some (slv ρ d)) :
    St P E N (.binOp .eql t x (.const (.slice none 0 0)) yt) ty Γ Ω [] (fun b : { b : Bool // b = true → d = [] } => bv b.1) (fun _ => Ω) := by
  intro a w hs o ho ht
  obtain ⟨ad, c, hv, hc, hat⟩ := hs.op hx
  have hg : (eqGuard .eql t x (.const (.slice none 0 0)) (.slice ad d.length c) (.slice none 0 0)).run P w = .ok () w := by unfold eqGuard; rfl
  have hb : binOp .eql t (.slice ad d.length c) (.slice none 0 0) = (do pure (.bool (← Op.equal t (.slice ad d.length c) (.slice none 0 0)))) := rfl
  have hr : (execOp a.eval o).run P w = .ok (.value (.bool ad.isNone)) w := by
    have he : a.eval (.const (.slice none 0 0)) = .slice none 0 0 := rfl
    simp [execOp, ho, hv, he, hg, hb, run_isnil hu]
  rw [hr]
  refine ⟨⟨ad.isNone, fun h => ?_⟩, hs, rfl, Nat.le_refl _, fun _ _ _ => rfl, fun _ _ h => h⟩
  refine Classical.byContradiction fun hd => ?_
  obtain ⟨b, off, _, _, _, h1, _⟩ := hat hd
  rw [h1] at h; cases h

end

theorem b_to {R : Type} {m : Option R} {Γ' : List (Nat × RP)} {Ω' : List OB} {B : R → Act → World → Prop} (h : RefB E N m Γ' Ω' B) (hw : ∀ a w, Sat E N Γ Ω a w → Sat E N Γ' Ω' a w) : RefB E N m Γ Ω B :=
  b_of hw h

theorem ref_condE {R : Type} {m : Option R} {K : KT R} {c : Operand} {thn els : Code} {b : Bool} (hc : lkO Γ c = some (bv b))
    (h1 : b = true → Ref P E N m thn Γ Ω K) (h2 : b = false → Ref P E N m els Γ Ω K) : Ref P E N m (.cond c thn els) Γ Ω K := by
  cases b with
  | true => exact ref_condT hc rfl (h1 rfl)
  | false => exact ref_condF hc rfl (h2 rfl)
end Go.Dc

/-! Fields of elements of slices. -/
namespace Go.Dc
variable {R S : Type} {P : Program} {E : Env} {N : Nat} {Γ Γ' : List (Nat × RP)} {Ω Ω' : List OB} {ty : TypeId} {α β : Type} {ρ : Rep α} {ρ' : Rep β} {y : α} {z : β} {bytes : Nat} {e : TypeId}

theorem drop_take_get {γ : Type} {l : List γ} {a k j : Nat} (hj : j < k) : ((l.drop a).take k)[j]? = l[a + j]? := by
  rw [List.getElem?_take_of_lt hj, List.getElem?_drop]

/-- a field of data in shared memory -/
theorem r_fea {t f fo : Nat} {x : Operand} {fields : Array Go.Field} {fd : Go.Field} (hu : P.underlying t = some (.struct fields)) (hf : fields[f]? = some fd) (ho : fd.offset = fo) {n : Nat}
    (hn : ∀ w, (Go.sizeOf fd.type).run P w = .ok (n + 1) w) (hx : lkO Γ x = some (ea ρ y)) (hz : ((ρ.cp y).drop fo).take ρ'.size = ρ'.cp z) (hs : Nat.ble (fo + ρ'.size) ρ.size = true) :
    Rd P E N (.fieldAddr t x f) ty Γ Ω [] (ea ρ' z) := .mk fun a w hs' => by
  obtain ⟨b, off, cells, ty', fz, es, hv, hF, hb, hes, hcs⟩ := hs'.op hx
  have hle := Nat.le_of_ble_eq_true hs
  refine ⟨.pointer (some ⟨b, off + fo, none⟩), ⟨b, off + fo, cells, ty', fz, (es.drop fo).take ρ'.size, rfl, hF, hb, hz ▸ (hes.drop fo).take _, fun j hj => ?_⟩, fun w' o hop _ => ?_⟩
  · rw [drop_take_get hj, ← hcs (fo + j) (by omega), Nat.add_assoc]
  · simp [execOp, hop, hv, Instr.fieldAt, run_underlying hu, hf, Instr.sureAddr, fieldPlace, hn, addr_add, ho]

/-- the address of a field of an element of an owned slice -/
def elF (hv : Value) (sz : Nat) (n : Int) (fo : Nat) : Value :=
  match hv with
  | .slice (some a) _ _ => .pointer (some ((a.add (n.toNat * sz)).add fo))
  | _ => .pointer none

variable {d : List α} {n : Int} {hv : Value} {Sx : List Nat} {j : Nat}
theorem r_foea {t f fo : Nat} {x : Operand} {fields : Array Go.Field} {fd : Go.Field} (hy : idxM d n = some y) (hu : P.underlying t = some (.struct fields)) (hf : fields[f]? = some fd) (ho : fd.offset = fo) {m : Nat}
    (hn : ∀ w, (Go.sizeOf fd.type).run P w = .ok (m + 1) w) (hx : lkO Γ x = some (pv (elA hv ρ.size n))) (hj : Ω[j]? = some (oa ρ hv Sx d)) :
    Rd P E N (.fieldAddr t x f) ty Γ Ω [] (pv (elF hv ρ.size n fo)) := .mk fun a w hs => by
  obtain ⟨h0, h1, hlt, hd⟩ := idxM_some hy
  have hv' : a.eval x = elA hv ρ.size n := hs.op hx
  obtain ⟨ad, c, rfl, hc, hat⟩ := hs.objAt hj
  rcases hat with ⟨rfl, _, rfl⟩ | ⟨b, off, cells, ty', rfl, hS, hb, hsz, hH⟩
  · omega
  · refine ⟨_, rfl, fun w' o hop _ => ?_⟩
    simp [execOp, hop, hv', elA, elF, Instr.fieldAt, run_underlying hu, hf, Instr.sureAddr, fieldPlace, hn, addr_add, ho]
theorem r_foload {x : Operand} {fo : Nat} (hy : idxM d n = some y) (h : ElT P e ρ' bytes) (hx : lkO Γ x = some (pv (elF hv ρ.size n fo))) (hj : Ω[j]? = some (oa ρ hv Sx d))
    (hz : ((ρ.cp y).drop fo).take ρ'.size = ρ'.cp z) (hsz : Nat.ble (fo + ρ'.size) ρ.size = true) : Rd P E N (.load e x) ty Γ Ω [j] (sh ρ' z) := fun a w hs => by
  obtain ⟨h0, h1, hlt, hd⟩ := idxM_some hy
  have hle := Nat.le_of_ble_eq_true hsz
  have hv' : a.eval x = elF hv ρ.size n fo := hs.op hx
  have hob := hs.objAt hj
  obtain ⟨ad, c, rfl, hc, hat⟩ := hob
  rcases hat with ⟨rfl, _, rfl⟩ | ⟨b, off, cells, ty', rfl, hS, hb, hsz, hH⟩
  · omega
  · obtain ⟨es, hes, hcs⟩ := hH n.toNat hlt
    rw [hd] at hes
    have hes2 : AllP (fr E Ω) w (ρ'.cp z) ((es.drop fo).take ρ'.size) := hz ▸ (hes.drop fo).take _
    refine ⟨mkV ρ'.agg ((es.drop fo).take ρ'.size), [b], sh_iff.2 ⟨_, hes2, rfl⟩, ?_, fun w' hw' o ho _ => ?_⟩
    · intro b' hb'; rw [List.mem_singleton.1 hb']; exact ⟨size_of_get hb, .inr ⟨j, by simp, _, hj, by rw [show (oa ρ _ Sx d).S = Sx from rfl, hS]; simp⟩⟩
    · have hb2 : w'.heap[b]? = some (.cells cells ty' (0, 0)) := by rw [hw' b (by simp)]; exact hb
      have := h.load (off := off + n.toNat * ρ.size + fo) hb2 (by rw [hes2.length, ρ'.len]) (fun i hi => by rw [drop_take_get hi, ← hcs (fo + i) (by omega)]; congr 1; omega)
      simp [execOp, ho, hv', elF, addr_add, Instr.loadAt, Instr.sureAddr, this]

theorem s_fostore {x v : Operand} {fo : Nat} {u : α} {φs : List RP} (hy : idxM d n = some y) (hsz : ∀ w, (Go.sizeOf e).run P w = .ok φs.length w) (hx : lkO Γ x = some (pv (elF hv ρ.size n fo))) (hj : Ω[j]? = some (oa ρ hv Sx d))
    (hp : PartOk E N Γ Ω v φs) (hu : ρ.cp u = (ρ.cp y).take fo ++ φs ++ (ρ.cp y).drop (fo + φs.length)) (hle : Nat.ble (fo + φs.length) ρ.size = true) :
    St P E N (.store e x v) ty Γ Ω [j] (fun _ : Unit => pv undef) (fun _ => Ω.set j (oa ρ hv Sx (d.set n.toNat u))) := by
  intro a w hs
  obtain ⟨h0, h1, hlt, hd⟩ := idxM_some hy
  have hle' := Nat.le_of_ble_eq_true hle
  have hv' : a.eval x = elF _ ρ.size n fo := hs.op hx
  obtain ⟨hall, hat⟩ := hp a w hs
  obtain ⟨ad, c, rfl, hc, hob⟩ := hs.objAt hj
  rcases hob with ⟨rfl, _, rfl⟩ | ⟨b, off, cells, ct, rfl, rfl, hb, hcs, hH⟩
  · omega
  · have hvl : (a.eval v).cells.size = φs.length := by rw [← Array.length_toList, hall.length]
    have hlm : (n.toNat + 1) * ρ.size ≤ c * ρ.size := Nat.mul_le_mul_right _ (by omega)
    rw [Nat.succ_mul] at hlm
    have hst := run_storeVar (P := P) (e := e) (off := off + n.toNat * ρ.size + fo) (w := w) hsz hb hvl (by omega) hat
    intro o hop ht
    have hr : (execOp a.eval o).run P w = .ok .skip (w.setRow b (cells.toList.take (off + n.toNat * ρ.size + fo) ++ (a.eval v).cells.toList ++ cells.toList.drop (off + n.toNat * ρ.size + fo + φs.length)).toArray) := by
      simp only [execOp, hop, Instr.storeAt, hv', elF, addr_add, Instr.sureAddr]
      simp [hst]
    rw [hr]
    refine ⟨(), ?_, rfl, by simp, fun b' hb' hn' => setRow_other w b b' _ fun e => hn' j (by simp) _ hj (by rw [e]; simp [oa]), own_set hj fun b hb => .inl hb⟩
    refine hs.upd hj ⟨rfl, rfl, rfl, by first | exact Nat.le_refl _ | exact Nat.le_add_right _ _⟩ (by simp) (fun b' _ hn' => setRow_other w b b' _ fun e => hn' (by rw [e]; simp [oa])) (fun b' hb' => .inl hb') (by simp [oa]) ?_
    have hag : Ag (fr E Ω) (fr E (Ω.set j (oa ρ (.slice (some ⟨b, off, none⟩) d.length c) [b] (d.set n.toNat u)))) w
        (w.setRow b (cells.toList.take (off + n.toNat * ρ.size + fo) ++ (a.eval v).cells.toList ++ cells.toList.drop (off + n.toNat * ρ.size + fo + φs.length)).toArray) :=
      ⟨fun b' _ hf => fr_set hj hf fun hm => hf.2 (Sat.notin hj (b := b') hm), fun b' _ hf => setRow_other w b b' _ fun e => hf.2 (Sat.notin hj (b := b') (by rw [e]; simp [oa]))⟩
    refine ⟨some ⟨b, off, none⟩, c, by rw [List.length_set], by rw [List.length_set]; exact hc, .inr ⟨b, off, _, ct, rfl, rfl, setRow_heap w b cells _ ct (0, 0) hb, ?_, ?_⟩⟩
    · simp only [List.size_toArray, List.length_append, List.length_take, List.length_drop, Array.length_toList, hvl]; omega
    · intro i hi
      rw [List.length_set] at hi
      have hle2 : (i + 1) * ρ.size ≤ c * ρ.size := Nat.mul_le_mul_right _ (by omega)
      rw [Nat.succ_mul] at hle2
      have hll : cells.toList.length = cells.size := Array.length_toList
      have hvl' : (a.eval v).cells.toList.length = φs.length := by rw [Array.length_toList, hvl]
      have htk : (cells.toList.take (off + n.toNat * ρ.size + fo)).length = off + n.toNat * ρ.size + fo := by rw [List.length_take]; omega
      obtain ⟨es, hes, hcc⟩ := hH i hi
      by_cases hin : i = n.toNat
      · subst hin
        rw [hd] at hes
        have hel : es.length = ρ.size := by rw [hes.length, ρ.len]
        refine ⟨es.take fo ++ (a.eval v).cells.toList ++ es.drop (fo + φs.length), ?_, fun k hk => ?_⟩
        · rw [List.getElem_set_self, hu]
          exact AllP.append (AllP.append ((hes.take fo).mono hag) (hall.mono hag)) ((hes.drop _).mono hag)
        · have h1l : (es.take fo).length = fo := by rw [List.length_take]; omega
          rw [List.getElem?_toArray, List.append_assoc, List.append_assoc]
          by_cases k1 : k < fo
          · rw [List.getElem?_append_left (by omega), List.getElem?_append_left (by omega), List.getElem?_take_of_lt (by omega), List.getElem?_take_of_lt k1, ← hcc k hk]; simp
          · rw [List.getElem?_append_right (l₁ := cells.toList.take (off + n.toNat * ρ.size + fo)) (by omega), List.getElem?_append_right (l₁ := es.take fo) (by omega), htk, h1l,
              show off + n.toNat * ρ.size + k - (off + n.toNat * ρ.size + fo) = k - fo from by omega]
            by_cases k2 : k < fo + φs.length
            · rw [List.getElem?_append_left (by omega), List.getElem?_append_left (by omega)]
            · rw [List.getElem?_append_right (by omega), List.getElem?_append_right (by omega), List.getElem?_drop, List.getElem?_drop, hvl', show fo + φs.length + (k - fo - φs.length) = k from by omega, ← hcc k hk, ← Array.getElem?_toList]
              congr 1; omega
      · refine ⟨es, by rw [List.getElem_set_ne (Ne.symm hin)]; exact hes.mono hag, fun k hk => ?_⟩
        rw [← hcc k hk, List.getElem?_toArray, List.append_assoc]
        rcases Nat.lt_or_gt_of_ne hin with hlt2 | hgt2
        · have : (i + 1) * ρ.size ≤ n.toNat * ρ.size := Nat.mul_le_mul_right _ hlt2
          rw [Nat.succ_mul] at this
          rw [List.getElem?_append_left (by omega), List.getElem?_take, if_pos (by omega)]
          simp
        · have : (n.toNat + 1) * ρ.size ≤ i * ρ.size := Nat.mul_le_mul_right _ hgt2
          rw [Nat.succ_mul] at this
          rw [List.getElem?_append_right (by omega), List.getElem?_append_right (by omega), List.getElem?_drop, htk, hvl']
          simp
          congr 1; omega
end Go.Dc

/-! Slices that stand in structs and in variables become common. -/
namespace Go.Dc
variable {R : Type} {P : Program} {E : Env} {N : Nat} {Γ Γ' : List (Nat × RP)} {Ω Ω' : List OB} {K : KT R} {m : Option R}

def UpL (hv : Value) (χ : RP) : List RP → List RP → Prop
  | [], [] => True
  | φ :: φs, ψ :: ψs => (φ = ψ ∨ (φ = pv hv ∧ ψ = χ)) ∧ UpL hv χ φs ψs
  | _, _ => False
def Up (hv : Value) (χ : RP) (φ ψ : RP) : Prop := (φ = pv hv ∧ ψ = χ) ∨ ∃ φs ψs, φ = ag φs ∧ ψ = ag ψs ∧ UpL hv χ φs ψs

theorem UpL.all {hv : Value} {χ : RP} {F F' : FP} {w : World} (hF : ∀ b, b < w.heap.size → F b → F' b) (hχ : χ.h F' w hv) : ∀ {φs ψs : List RP} {vs : List Value}, UpL hv χ φs ψs → AllP F w φs vs → AllP F' w ψs vs
  | [], [], _, _, h => by match h with | h => exact AllP.mono (.refl hF) h
  | φ :: φs, ψ :: ψs, v :: vs, ⟨h1, h2⟩, ⟨h3, h4⟩ => by
    refine ⟨?_, UpL.all hF hχ h2 h4⟩
    rcases h1 with rfl | ⟨rfl, rfl⟩
    · exact φ.mono (.refl hF) h3
    · rw [show v = hv from h3]; exact hχ
  | _ :: _, _ :: _, [], _, h => h.elim
  | [], _ :: _, _, h, _ => h.elim
  | _ :: _, [], _, h, _ => h.elim

theorem Up.to {hv : Value} {χ φ ψ : RP} {F F' : FP} {w : World} (hF : ∀ b, b < w.heap.size → F b → F' b) (hχ : χ.h F' w hv) {v : Value} (h : Up hv χ φ ψ) (hv' : φ.h F w v) : ψ.h F' w v := by
  rcases h with ⟨rfl, rfl⟩ | ⟨φs, ψs, rfl, rfl, h⟩
  · rw [show v = hv from hv']; exact hχ
  · obtain ⟨cs, rfl, h1⟩ := hv'
    exact ⟨cs, rfl, h.all hF hχ h1⟩

/-- slots that are turned -/
def OkS (hv : Value) (χ : RP) (Γ : List (Nat × RP)) : List (Nat × RP) → Prop
  | [] => True
  | (t, ψ) :: l => (∃ φ, lk Γ t = some φ ∧ Up hv χ φ ψ) ∧ OkS hv χ Γ l

theorem lk_app {l Γ : List (Nat × RP)} {t : Nat} {φ : RP} (h : lk (l ++ Γ) t = some φ) : (t, φ) ∈ l ∨ lk Γ t = some φ := by
  induction l with
  | nil => exact .inr h
  | cons x l ih =>
    obtain ⟨s, ψ⟩ := x
    by_cases e : s = t
    · subst e
      rw [List.cons_append, lk_cons_eq] at h; cases h
      exact .inl (by simp)
    · rw [List.cons_append, lk_cons_ne e] at h
      exact (ih h).imp (fun h => List.mem_cons_of_mem _ h) id

theorem OkS.mem {hv : Value} {χ : RP} : ∀ {l : List (Nat × RP)}, OkS hv χ Γ l → ∀ t ψ, (t, ψ) ∈ l → ∃ φ, lk Γ t = some φ ∧ Up hv χ φ ψ
  | [], _, t, ψ, h => by simp at h
  | (s, χ') :: l, ⟨h1, h2⟩, t, ψ, h => by
    rcases List.mem_cons.1 h with e | e
    · cases e; exact h1
    · exact OkS.mem h2 t ψ e

theorem cvS {hv : Value} {χ : RP} {a : Act} {w : World} {l : List (Nat × RP)} (hs : Sat E N Γ Ω a w) (hχ : χ.h (fr E Ω) w hv) (hl : OkS hv χ Γ l) : Sat E N (l ++ Γ) Ω a w :=
  ⟨hs.sz, hs.df, fun t φ h => by
    rcases lk_app h with h1 | h1
    · obtain ⟨φ', h2, h3⟩ := hl.mem t φ h1
      exact h3.to (fun _ _ h => h) hχ (hs.sl t φ' h2)
    · exact hs.sl t φ h1, hs.ob, hs.nd, hs.bd, hs.kp, hs.fs⟩

/-- variables that are turned -/
def setO (Ω : List OB) : List (Nat × Nat × List RP) → List OB
  | [] => Ω
  | (k, b, ψs) :: l => setO (Ω.set k (oc b ψs)) l
def OkO (hv : Value) (χ : RP) (Ω : List OB) : List (Nat × Nat × List RP) → Prop
  | [] => True
  | (k, b, ψs) :: l => (∃ φs, Ω[k]? = some (oc b φs) ∧ UpL hv χ φs ψs) ∧ OkO hv χ (Ω.set k (oc b ψs)) l

theorem ow_set_same {j : Nat} {o o' : OB} (hj : Ω[j]? = some o) (h : o'.S = o.S) : ow (Ω.set j o') = ow Ω := by
  obtain ⟨A, B, rfl, rfl⟩ := ow_split hj
  rw [set_split, ow_mid, ow_mid, h]

theorem cvO {hv : Value} {χ : RP} {a : Act} {w : World} : ∀ {l : List (Nat × Nat × List RP)} {Ω : List OB}, Sat E N Γ Ω a w → χ.h (fr E Ω) w hv → OkO hv χ Ω l → Sat E N Γ (setO Ω l) a w
  | [], _, hs, _, _ => hs
  | (k, b, ψs) :: l, Ω, hs, hχ, ⟨⟨φs, h1, h2⟩, h3⟩ => by
    have e : ow (Ω.set k (oc b ψs)) = ow Ω := ow_set_same h1 rfl
    have ef : fr E (Ω.set k (oc b ψs)) = fr E Ω := by funext x; simp only [fr, e]
    refine cvO (l := l) (Ω := Ω.set k (oc b ψs)) ?_ (by rw [ef]; exact hχ) h3
    refine ⟨hs.sz, hs.df, by rw [ef]; exact hs.sl, ?_, by rw [e]; exact hs.nd, by rw [e]; exact hs.bd, hs.kp, hs.fs⟩
    rw [ef]
    intro o ho
    rcases List.mem_or_eq_of_mem_set ho with h | rfl
    · exact hs.ob o h
    · obtain ⟨cells, ty, hc, hall⟩ := hs.objAt h1
      exact ⟨cells, ty, hc, h2.all (fun _ _ h => h) hχ hall⟩

section
variable {α : Type} {ρ : Rep α} {j : Nat} {hv : Value} {S : List Nat} {d : List α}
theorem frz_chi (hj : Ω[j]? = some (oa ρ hv S d)) {a : Act} {w : World} (hs : Sat E N Γ Ω a w) (hF : ∀ b ∈ S, E.Fr b) : (slv ρ d).h (fr E (Ω.set j dead)) w hv := by
  refine oa_sl (hs.objAt hj) (fun b hb ⟨h1, h2⟩ => ⟨h1, fun hm => h2 ?_⟩) (fun b hb => ⟨hF b hb, mem_ow_set hj hs.nd hb (by simp [dead])⟩)
  obtain ⟨A, B, rfl, rfl⟩ := ow_split hj
  rw [set_split] at hm
  rw [ow_mid] at hm ⊢
  simp [dead] at hm
  simp only [List.mem_append]
  exact hm.imp id .inr

theorem frzGL (l : List (Nat × RP)) (lo : List (Nat × Nat × List RP)) (hj : Ω[j]? = some (oa ρ hv S d)) (hl : OkS hv (slv ρ d) Γ l) (ho : OkO hv (slv ρ d) (Ω.set j dead) lo) :
    ∀ a w, Sat E N Γ Ω a w → Sat E N (l ++ Γ) (setO (Ω.set j dead) lo) a w := by
  intro a w hs
  have hχ := frz_chi hj hs fun b hb => hs.mine (Sat.notin hj hb)
  exact cvO (cvS (hs.freeze hj) hχ hl) hχ ho

end

/-! ### operations whose guard was not carried out itself -/
section
variable {ops : Array Oper} {rest : List Oper}
theorem yielded_un {a : Act} {w : World} (hs : Sat E N Γ Ω a w) {i t : Nat} (hi : (ops[i]?).bind (·.dst) = some t) (ht : lk Γ t = some (pv undef)) : yielded ops a.tmps i = none := by
  have hv := id (hs.sl t _ ht)
  unfold yielded
  rw [hi]
  simp only [Option.bind_some]
  cases h : a.tmps[t]? with
  | none => rfl
  | some v =>
    have : a.tmps.getD t undef = v := by simp [Array.getD_eq_getD_getElem?, h]
    rw [this] at hv
    rw [show v = undef from hv]
    rfl

theorem s_offU {op : Op} {ty : TypeId} {d : Nat} {pos : String} {aft : Array Edge} {i t : Nat} {b : Bool} (hi : (ops[i]?).bind (·.dst) = some t)
    (ht : lk Γ t = some (pv undef)) (hd : Nat.blt d N = true)
    (h : RefL P E N m ops rest ((d, pv undef) :: Γ) Ω K) : RefL P E N m ops (⟨some d, op, ty, pos, aft, some (i, b)⟩ :: rest) Γ Ω K := by
  intro r hm a w hs
  have hlt : d < N := by simpa [Nat.blt_eq] using hd
  have h1 := h r hm _ _ (hs.put (v := undef) hlt rfl)
  have hw : Region.wanted ⟨some d, op, ty, pos, aft, some (i, b)⟩ (yielded ops a.tmps) = false := by simp [Region.wanted, yielded_un hs hi ht]
  unfold wpList
  rw [if_neg (by simp [hw])]
  exact h1

variable {fl : List Nat} (hok : okDraw ops fl = true) {l : Array Bool} {pend : List (Nat × List Nat)}
include hok
theorem a_offU {i : Nat} {op : Op} {ty : TypeId} {pos : String} {aft : Array Edge} {d g t : Nat} {b : Bool} (hi : ops[i]? = some ⟨some d, op, ty, pos, aft, some (g, b)⟩)
    (hg : (ops[g]?).bind (·.dst) = some t) (ht : lk Γ t = some (pv undef)) (hrd : hasN (Region.ready .any ops l) i = true) (hf : hasN fl i = true)
    (hd : Nat.blt d N = true) (h : RefA P E N m ops fl (l.setIfInBounds i true) ((i, []) :: pend) ((d, pv undef) :: Γ) Ω K) : RefA P E N m ops fl l pend Γ Ω K := by
  intro r hm aV w hs lA aA hc
  obtain ⟨hil, o, ho, hpre⟩ := (ready_iff hc.s1).1 (hasN_iff.1 hrd)
  rw [hi] at ho; cases ho
  have hlt : d < N := by simpa [Nat.blt_eq] using hd
  have hlk : ∀ t, t ∈ (⟨some d, op, ty, pos, aft, some (g, b)⟩ : Oper).looksAt ops → (aV.put (some d) undef).tmps.getD t undef = aV.tmps.getD t undef := fun t ht => put_other fun e => okDraw_self hok hi hf (e ▸ rfl) ht
  have hw : Region.wanted ⟨some d, op, ty, pos, aft, some (g, b)⟩ (yielded ops aV.tmps) = false := by simp [Region.wanted, yielded_un hs hg ht]
  refine h r hm _ w (hs.put (v := undef) hlt rfl) lA aA (hc.take hok hi hf rfl hpre hil ⟨_, d, hi, rfl, .inl ⟨?_, ?_⟩⟩)
  · rw [yield_same (ops := ops) put_size hlk]; exact hw
  · rw [put_self (by rw [hs.sz]; exact hlt)]

end
end Go.Dc
