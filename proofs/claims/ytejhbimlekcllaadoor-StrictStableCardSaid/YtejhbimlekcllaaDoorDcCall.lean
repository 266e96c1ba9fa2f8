/- Part Dc.Call of a proof: lemmas. -/
import Derived.Test.YtejhbimlekcllaaDoorDcDraw
/-! Calls that change objects of ours; calls that look at owned slices. -/
namespace Go.Dc

variable {P : Program} {E : Env} {N : Nat} {Γ : List (Nat × RP)} {Ω : List OB} {ty : TypeId}

/-- the objects js of Ω -/
def Picks : List OB → List Nat → List OB → Prop
  | _, [], [] => True
  | Ω, j :: js, o :: os => Ω[j]? = some o ∧ Picks (Ω.set j dead) js os
  | _, _, _ => False
def delL : List OB → List Nat → List OB
  | Ω, [] => Ω
  | Ω, j :: js => delL (Ω.set j dead) js
def putL : List OB → List Nat → List OB → List OB
  | Ω, j :: js, o :: os => putL (Ω.set j o) js os
  | Ω, _, _ => Ω
def Puts : List OB → List Nat → List OB → Prop
  | _, [], [] => True
  | Ω, j :: js, o :: os => Ω[j]? = some dead ∧ Puts (Ω.set j o) js os
  | _, _, _ => False

theorem ow_perm {j : Nat} {o o' : OB} (hj : Ω[j]? = some o) : (ow Ω ++ o'.S).Perm (ow (Ω.set j o') ++ o.S) := by
  obtain ⟨A, B, rfl, rfl⟩ := ow_split hj
  rw [set_split, ow_mid, ow_mid]
  refine List.perm_iff_count.2 fun x => ?_
  simp only [List.count_append]; omega

theorem Picks.perm : ∀ {js : List Nat} {Ω os : List OB}, Picks Ω js os → (ow Ω).Perm (ow (delL Ω js) ++ ow os)
  | [], Ω, [], _ => by simp [delL, ow]
  | j :: js, Ω, o :: os, ⟨h1, h2⟩ => by
    have e1 := ow_perm (o' := dead) h1
    simp only [dead, List.append_nil] at e1
    refine e1.trans ?_
    have e2 := h2.perm
    rw [show ow (o :: os) = o.S ++ ow os from by simp [ow]]
    refine (e2.append_right _).trans ?_
    simp only [delL]
    refine List.perm_iff_count.2 fun x => ?_
    simp only [List.count_append]; omega
  | [], _, _ :: _, h => h.elim
  | _ :: _, _, [], h => h.elim

theorem Puts.perm : ∀ {js : List Nat} {Ω os : List OB}, Puts Ω js os → (ow (putL Ω js os)).Perm (ow Ω ++ ow os)
  | [], Ω, [], _ => by simp [putL, ow]
  | j :: js, Ω, o :: os, ⟨h1, h2⟩ => by
    have e1 := ow_perm (o' := o) h1
    simp only [dead, List.append_nil] at e1
    have e2 := h2.perm
    rw [show ow (o :: os) = o.S ++ ow os from by simp [ow]]
    simp only [putL]
    refine e2.trans ?_
    refine List.perm_iff_count.2 fun x => ?_
    have e3 := e1.count_eq x
    simp only [List.count_append] at e3 ⊢; omega
  | [], _, _ :: _, h => h.elim
  | _ :: _, _, [], h => h.elim

theorem Picks.mem : ∀ {js : List Nat} {Ω os : List OB}, Picks Ω js os → ∀ b ∈ ow os, ∃ j ∈ js, ∃ ob, Ω[j]? = some ob ∧ b ∈ ob.S
  | [], Ω, [], _, b, hb => by simp [ow] at hb
  | j :: js, Ω, o :: os, ⟨h1, h2⟩, b, hb => by
    rw [show ow (o :: os) = o.S ++ ow os from by simp [ow], List.mem_append] at hb
    rcases hb with hb | hb
    · exact ⟨j, by simp, o, h1, hb⟩
    · obtain ⟨k, hk, ob, hob, hbS⟩ := h2.mem b hb
      by_cases e : j = k
      · subst e
        rw [List.getElem?_set_self ((List.getElem?_eq_some_iff.1 h1).1)] at hob
        cases hob
        simp [dead] at hbS
      · rw [List.getElem?_set_ne e] at hob
        exact ⟨k, List.mem_cons_of_mem _ hk, ob, hob, hbS⟩
  | [], _, _ :: _, h, _, _ => h.elim
  | _ :: _, _, [], h, _, _ => h.elim

theorem Picks.os : ∀ {js : List Nat} {Ω os : List OB}, Picks Ω js os → ∀ o ∈ os, o ∈ Ω ∨ o = dead
  | [], Ω, [], _, o, ho => by simp at ho
  | j :: js, Ω, o' :: os, ⟨h1, h2⟩, o, ho => by
    rcases List.mem_cons.1 ho with e | e
    · exact .inl (e ▸ List.mem_of_getElem? h1)
    · rcases h2.os o e with h3 | h3
      · rcases List.mem_or_eq_of_mem_set h3 with h4 | h4
        · exact .inl h4
        · exact .inr h4
      · exact .inr h3
  | [], _, _ :: _, h, _, _ => h.elim
  | _ :: _, _, [], h, _, _ => h.elim

theorem delL_mem : ∀ {js : List Nat} {Ω : List OB} {o : OB}, o ∈ delL Ω js → o ∈ Ω ∨ o = dead
  | [], _, _, h => .inl h
  | j :: js, Ω, o, h => by
    rcases delL_mem (js := js) h with h1 | h1
    · exact List.mem_or_eq_of_mem_set h1
    · exact .inr h1

theorem putL_mem : ∀ {js : List Nat} {Ω os : List OB} {o : OB}, o ∈ putL Ω js os → o ∈ Ω ∨ o ∈ os
  | [], _, _, _, h => by simp only [putL] at h; exact .inl h
  | _ :: _, _, [], _, h => by simp only [putL] at h; exact .inl h
  | j :: js, Ω, o' :: os, o, h => by
    simp only [putL] at h
    rcases putL_mem h with h1 | h1
    · rcases List.mem_or_eq_of_mem_set h1 with h2 | h2
      · exact .inl h2
      · exact .inr (by simp [h2])
    · exact .inr (List.mem_cons_of_mem _ h1)

theorem capsOk {F : List OB → Env → FP} {args : List Operand} {caps : List Value} {φs : List RP} {a : Act} {w : World} (hs : Sat E N Γ Ω a w)
    (ha : ArgsOk E N Γ Ω F (args ++ caps.map .const) φs) : AllP (F Ω E) w φs (args.map a.eval ++ caps) := by
  have h := ha.all hs
  have e : (args ++ caps.map Operand.const).map a.eval = args.map a.eval ++ caps := by
    rw [List.map_append, List.map_map]
    congr 1
    exact List.map_id'' (fun _ => rfl) caps
  rw [e] at h; exact h

/-- a call that is handed the objects js -/
theorem s_callO {X : Type} {f : FuncId} {x : Operand} {args : List Operand} {caps : List Value} {ats : Array TypeId} {φs : List RP} {js : List Nat} {Ω0 : List OB} {res : X → List RP} {Ω1 os ex : X → List OB} {ψ : X → RP}
    (hcall : ∀ args w, (callFunc f args).run P w = .ok (.enter f args) w) (hx : lkO Γ x = some (pv (.func (.func f) #[] caps.toArray)))
    (hf : FnOk P f φs Ω0 res Ω1) (hpick : Picks Ω js Ω0) (hex : ∀ x, Ω1 x = os x ++ ex x) (hput : ∀ x, Puts (delL Ω js) js (os x)) (ha : ArgsOk E N Γ Ω frF (args ++ caps.map .const) φs)
    (hψ : ∀ x F w v, resH F w (res x) v → (ψ x).h F w v) :
    St P E N (.call ⟨.value x, args.toArray, ats⟩) ty Γ Ω js ψ (fun x => putL (delL Ω js) js (os x) ++ ex x) := by
  intro a w hs o ho ht
  rw [run_call hcall (show _ = _ from hs.op hx) o ho]
  simp only [resW, List.append_toArray]
  have hperm := hpick.perm
  have hnd := (hperm.nodup_iff).1 hs.nd
  obtain ⟨nR, n0, d0⟩ := List.nodup_append.1 hnd
  have hmem : ∀ b, b ∈ ow Ω ↔ b ∈ ow (delL Ω js) ∨ b ∈ ow Ω0 := fun b => by rw [hperm.mem_iff, List.mem_append]
  have hF0 : ∀ b, ((E.Fr b ∧ b ∉ ow (delL Ω js)) ∧ b ∉ ow Ω0) ↔ fr E Ω b := fun b => by
    unfold fr; rw [hmem b]; constructor
    · rintro ⟨⟨h1, h2⟩, h3⟩; exact ⟨h1, fun h => h.elim h2 h3⟩
    · rintro ⟨h1, h2⟩; exact ⟨⟨h1, fun h => h2 (.inl h)⟩, fun h => h2 (.inr h)⟩
  refine (hf (fun b => E.Fr b ∧ b ∉ ow (delL Ω js)) w (args.map a.eval ++ caps) ?_ (fun b hb => ⟨hs.mine ((hmem b).2 (.inr hb)), fun h => d0 b h b hb rfl⟩) (fun b hb => (hs.bd b ((hmem b).2 (.inr hb))).1) n0 ?_ ?_).mono ?_
  · exact fun b hb => ⟨hs.fs b (Nat.le_trans hs.kp.size hb), fun hm => by have := (hs.bd b ((hmem b).2 (.inl hm))).1; omega⟩
  · intro o ho
    rcases hpick.os o ho with h1 | h1
    · exact o.mono (.refl fun b _ hb => (hF0 b).2 hb) (fun _ _ => rfl) (hs.ob o h1)
    · rw [h1]; trivial
  · exact (capsOk hs ha).mono (.refl fun b _ hb => (hF0 b).2 hb)
  · rintro e w' ⟨x, v, rfl, hk, hbd, hnd1, hob, hres⟩
    have how : (ow (putL (delL Ω js) js (os x) ++ ex x)).Perm (ow (delL Ω js) ++ ow (Ω1 x)) := by
      rw [hex x, ow_append, ow_append, ← List.append_assoc]
      exact (hput x).perm.append_right _
    have hmem' : ∀ b, b ∈ ow (putL (delL Ω js) js (os x) ++ ex x) ↔ b ∈ ow (delL Ω js) ∨ b ∈ ow (Ω1 x) := fun b => by rw [how.mem_iff, List.mem_append]
    have hF1 : ∀ b, ((E.Fr b ∧ b ∉ ow (delL Ω js)) ∧ b ∉ ow (Ω1 x)) → fr E (putL (delL Ω js) js (os x) ++ ex x) b := fun b ⟨⟨h1, h2⟩, h3⟩ =>
      ⟨h1, fun h => ((hmem' b).1 h).elim h2 h3⟩
    have hblk : ∀ b, b < w.heap.size → b ∉ ow Ω0 → w'.heap[b]? = w.heap[b]? := fun b hb h => hk.blk b hb h
    refine ⟨v, rfl, x, ?_, (ψ x).mono (.refl fun b _ => hF1 b) (hψ x _ _ _ hres), hk.size, ?_, ?_⟩
    · refine hs.world ⟨hk.os, hk.tape, hk.output, hk.drawn⟩ hk.size (fun b hb hn => hblk b hb fun h => hn ((hmem b).2 (.inr h))) ?_ ?_ ?_
      · intro b hb
        rcases (hmem' b).1 hb with h1 | h1
        · exact .inl ((hmem b).2 (.inl h1))
        · obtain ⟨h2, h3⟩ := hbd b h1
          rcases h3 with h3 | h3
          · exact .inr ⟨h3, h2⟩
          · exact .inl ((hmem b).2 (.inr h3))
      · refine (how.nodup_iff).2 (List.nodup_append.2 ⟨nR, hnd1, fun p hp q hq e => ?_⟩)
        subst e
        obtain ⟨h2, h3⟩ := hbd p hq
        rcases h3 with h3 | h3
        · have := (hs.bd p ((hmem p).2 (.inl hp))).1; omega
        · exact d0 p hp p h3 rfl
      · have old : ∀ o, o ∈ Ω → (∀ b ∈ o.S, b ∈ ow (delL Ω js)) → o.h (fr E (putL (delL Ω js) js (os x) ++ ex x)) w' := fun o ho hS =>
          o.mono ⟨fun b hb hf => hF1 b ⟨((hF0 b).2 hf).1, fun h => by
            obtain ⟨_, h3⟩ := hbd b h
            rcases h3 with h3 | h3
            · omega
            · exact ((hF0 b).2 hf).2 h3⟩, fun b hb hf => hblk b hb ((hF0 b).2 hf).2⟩ (fun b hb => hblk b (hs.bd b (List.mem_flatMap.2 ⟨o, ho, hb⟩)).1 fun h => d0 b (hS b hb) b h rfl) (hs.ob o ho)
        intro o ho
        have new : ∀ o, o ∈ Ω1 x → o.h (fr E (putL (delL Ω js) js (os x) ++ ex x)) w' := fun o ho => o.mono (.refl fun b _ => hF1 b) (fun _ _ => rfl) (hob o ho)
        rcases List.mem_append.1 ho with ho | ho
        · rcases putL_mem ho with h1 | h1
          · rcases delL_mem h1 with h2 | h2
            · exact old o h2 fun b hb => List.mem_flatMap.2 ⟨o, h1, hb⟩
            · rw [h2]; trivial
          · exact new o (by rw [hex x]; exact List.mem_append_left _ h1)
        · exact new o (by rw [hex x]; exact List.mem_append_right _ ho)
    · exact fun b hb hn => hblk b hb fun h => by
        obtain ⟨j, hj, ob, hob, hbS⟩ := hpick.mem b h
        exact hn j hj ob hob hbS
    · intro b hb hm
      rcases (hmem' b).1 hm with h1 | h1
      · exact (hmem b).2 (.inl h1)
      · obtain ⟨_, h3⟩ := hbd b h1
        rcases h3 with h3 | h3
        · omega
        · exact (hmem b).2 (.inr h3)

/-! ### arguments that are only looked at -/
def allF (_ : List OB) (_ : Env) : FP := fun _ => True

/-- a call whose results do not hang on memory: it may look at what is ours -/
theorem s_callB {X : Type} {f : FuncId} {x : Operand} {args : List Operand} {ats : Array TypeId} {φs : List RP} {res : X → List RP} {ψ : X → RP}
    (hcall : ∀ args w, (callFunc f args).run P w = .ok (.enter f args) w) (hx : lkO Γ x = some (pv (.func (.func f) #[] #[])))
    (hf : FnOk P f φs [] res (fun _ => [])) (ha : ArgsOk E N Γ Ω allF args φs) (hψ : ∀ x F F' w v, resH F w (res x) v → (ψ x).h F' w v) :
    St P E N (.call ⟨.value x, args.toArray, ats⟩) ty Γ Ω [] ψ (fun _ => Ω) := by
  intro a w hs o ho ht
  rw [run_call hcall (show _ = _ from hs.op hx) o ho]
  simp only [resW, Array.append_empty]
  refine (hf (fun _ => True) w (args.map a.eval) (fun _ _ => trivial) (fun _ _ => trivial) (by simp [ow]) (by simp [ow]) (by simp) ?_).mono ?_
  · exact (ha.all hs).mono (.refl fun b _ hb => ⟨trivial, by simp [ow]⟩)
  · rintro e w' ⟨x, v, rfl, hk, _, _, _, hres⟩
    have hblk : ∀ b, b < w.heap.size → w'.heap[b]? = w.heap[b]? := fun b hb => hk.blk b hb (by simp [ow])
    exact ⟨v, rfl, x, hs.ext ⟨hk.os, hk.tape, hk.output, hk.drawn⟩ hk.size hblk, hψ x _ _ _ _ hres, hk.size, fun b hb _ => hblk b hb, fun _ _ h => h⟩

end Go.Dc
