/- Part Dc.Text of a proof: lemmas. -/
import Derived.Test.YtcpkdjlfgfikcaaGreatDoorDcCut4
import Derived.Test.YtcpkdjlfgfikcaaGreatDoorDcMem7
/-! Bytes of strings; strings put together; slices whose capacity is full; copying within one slice. -/
namespace Go.Dc
variable {P : Program} {E : Env} {N : Nat} {Γ : List (Nat × RP)} {Ω : List OB} {ty : TypeId}

/-- s[i] -/
def sidxM (s : ByteArray) (i : Int) : Option Int := if 0 ≤ i then (s[i.toNat]?).map fun b => (b.toNat : Int) else none

theorem r_sidx {t : TypeId} {x i : Operand} {k : IntKind} {s : ByteArray} {n y : Int} (h : sidxM s n = some y) (hu : P.underlying t = some .string) (hx : lkO Γ x = some (sv s)) (hi : lkO Γ i = some (iv k n)) :
    Rd P E N (.index t x i) ty Γ Ω [] (iv .u8 y) := .mk fun a w hs => by
  have h1 : a.eval x = .string s := hs.op hx
  have h2 : a.eval i = .int k n := hs.op hi
  unfold sidxM at h
  by_cases h0 : 0 ≤ n
  · rw [if_pos h0] at h
    cases hb : s[n.toNat]? with
    | none => rw [hb] at h; cases h
    | some b =>
      rw [hb] at h
      cases h
      exact ⟨_, rfl, fun w' o ho _ => by simp [execOp, ho, h1, h2, Instr.index, asIntOf, run_underlying hu, h0, hb]⟩
  · rw [if_neg h0] at h; cases h

/-- a + b -/
def sconM (a b : ByteArray) : Option ByteArray := if ((a.size + b.size : Nat) : Int) > IntKind.i64.max then none else some (a ++ b)

theorem r_sadd {t yt : TypeId} {x y : Operand} {s u r : ByteArray} (h : sconM s u = some r) (hx : lkO Γ x = some (sv s)) (hy : lkO Γ y = some (sv u)) : Rd P E N (.binOp .add t x y yt) ty Γ Ω [] (sv r) := .mk fun a w hs => by
  have h1 : a.eval x = .string s := hs.op hx
  have h2 : a.eval y = .string u := hs.op hy
  unfold sconM at h
  by_cases h0 : ((s.size + u.size : Nat) : Int) > IntKind.i64.max
  · rw [if_pos h0] at h; cases h
  · rw [if_neg h0] at h
    cases h
    have hg : ∀ w', (eqGuard .add t x y (.string s) (.string u)).run P w' = .ok () w' := fun w' => by unfold eqGuard; rfl
    have hb : binOp .add t (.string s) (.string u) = Op.stringOp .add s u := rfl
    exact ⟨_, rfl, fun w' o ho _ => by
      have hm : IntKind.i64.max = 9223372036854775807 := by decide
      simp [execOp, ho, h1, h2, hg, hb, Op.stringOp]
      omega⟩

section
variable {α : Type} {e t : TypeId} {ρ : Rep α} {bytes : Nat} {x y : Operand} {hv : Value} {S : List Nat} {d : List α} {j : Nat}

/-- a slice whose capacity is its length -/
def slf {α : Type} (ρ : Rep α) (d : List α) : RP :=
  ⟨fun F w v => ∃ a, v = .slice a d.length d.length ∧ SlAt ρ F w a d, fun ag ⟨a, h1, h3⟩ => ⟨a, h1, h3.mono ag⟩⟩

/-- the nil slice as a part -/
theorem part_nil0 {α : Type} (ρ : Rep α) {x : Operand} (h : lkO Γ x = some (pv (.slice none 0 0))) : PartOk E N Γ Ω x [slv ρ ([] : List α)] := fun a w hs => by
  have h1 : a.eval x = .slice none 0 0 := hs.op h
  rw [h1]
  refine ⟨⟨⟨none, 0, rfl, Nat.le_refl _, fun h => absurd rfl h⟩, trivial⟩, fun v hv => ?_⟩
  have : v = .slice none 0 0 := by simpa [Value.cells] using hv
  rw [this]; rfl

/-- what copy(d[l:m], d[l2:m2]) makes of d -/
def cpO {α : Type} (d : List α) (l m l2 m2 : Int) : List α := d.take l.toNat ++ ((d.take m2.toNat).drop l2.toNat).take (m.toNat - l.toNat) ++ d.drop (l.toNat + min ((d.take m2.toNat).drop l2.toNat).length (m.toNat - l.toNat))

theorem subV_slice {ad : Option Addr} {n c l m : Nat} : subV (.slice ad n c) ρ.size l m = .slice (if c = l then ad else ad.map (·.add (l * ρ.size))) (m - l) (c - l) := rfl

theorem s_copyW {l m l2 m2 : Int} {d1 d2 : List α} (h1 : slM d l m = some d1) (h2 : slM d l2 m2 = some d2) (hu : P.underlying t = some (.slice e)) (h : ElT P e ρ bytes)
    (hx : lkO Γ x = some (pv (subV hv ρ.size l.toNat m.toNat))) (hj : Ω[j]? = some (oa ρ hv S d)) (hy : lkO Γ y = some (pv (subV hv ρ.size l2.toNat m2.toNat))) :
    St P E N (.call ⟨.builtin .copy, #[x, y], #[t, t]⟩) ty Γ Ω [j] (fun _ : Unit => iv .i64 ((min d2.length d1.length : Nat) : Int)) (fun _ => Ω.set j (oa ρ hv S (cpO d l m l2 m2))) := by
  obtain ⟨a0, a1, a2, rfl⟩ := slM_some h1
  obtain ⟨b0, b1, b2, rfl⟩ := slM_some h2
  have e1 : ((d.take m.toNat).drop l.toNat).length = m.toNat - l.toNat := by simp; omega
  rw [e1]
  by_cases hc : l.toNat < m.toNat ∧ l2.toNat < m2.toNat
  · exact s_copyO hc.1 (by omega) hc.2 (by omega) hu h hx hj hy hj
  · have hz : Nat.min (m2.toNat - l2.toNat) (m.toNat - l.toNat) = 0 := by
      generalize m2.toNat = p at *; generalize l2.toNat = q at *; generalize m.toNat = r at *; generalize l.toNat = s at *
      simp only [Nat.min_def]; split <;> omega
    intro a w hs
    have hvx : a.eval x = _ := hs.op hx
    have hvy : a.eval y = _ := hs.op hy
    obtain ⟨ad, c, rfl, hdc, hob⟩ := hs.objAt hj
    rw [subV_slice] at hvx hvy
    obtain ⟨i, hi, his, _⟩ := h.info
    have e2 : ((d.take m2.toNat).drop l2.toNat).length = m2.toNat - l2.toNat := by simp; omega
    have hn : min ((d.take m2.toNat).drop l2.toNat).length (m.toNat - l.toNat) = 0 := by rw [e2]; exact hz
    have hdd : cpO d l m l2 m2 = d := by
      unfold cpO
      rw [hn, Nat.add_zero]
      have : ((d.take m2.toNat).drop l2.toNat).take (m.toNat - l.toNat) = [] := List.eq_nil_of_length_eq_zero (by rw [List.length_take, e2, Nat.min_comm]; exact hz)
      rw [this, List.append_nil, List.take_append_drop]
    have hfc : ∀ ya yc, (Builtin.firstCells i.size 0 (.slice ya (m2.toNat - l2.toNat) yc)).run P w = .ok #[] w := fun ya yc => by
      have := run_fc (P := P) (size := i.size) (m := 0) (yc := yc) (ya := ya) (news := []) (w := w) (by simp) (.inl (by simp))
      cases ya <;> exact this
    have hr : (Builtin.copy_ #[t, t] ty #[.slice (if c = l.toNat then ad else ad.map (·.add (l.toNat * ρ.size))) (m.toNat - l.toNat) (c - l.toNat), .slice (if c = l2.toNat then ad else ad.map (·.add (l2.toNat * ρ.size))) (m2.toNat - l2.toNat) (c - l2.toNat)]).run P w = .ok (goInt 0) w := by
      simp only [Builtin.copy_]
      cases hq : (if c = l.toNat then ad else ad.map (·.add (l.toNat * ρ.size))) with
      | none => simp [run_underlying hu, Builtin.lenOf, sizeOf, typeInfo, hi, hz, hfc]
      | some q => simp [run_underlying hu, Builtin.lenOf, sizeOf, typeInfo, hi, hz, hfc, storeCells]
    refine opwp_val (fun o ho ht => run_copy_call ho hvx hvy (by rw [ht]; exact hr)) ⟨(), ?_, ?_, Nat.le_refl _, fun _ _ _ => rfl, fun b hb hm => ?_⟩
    · rw [hdd, set_same hj]; exact hs
    · rw [hn]; rfl
    · rw [hdd, set_same hj] at hm; exact hm
end
end Go.Dc
