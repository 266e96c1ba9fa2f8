/- Part Dc.Lend of a proof: lemmas. -/
import Derived.Test.YtcpkdjlfgfikcaaGreatDoorDcCall
/-! Calls that look at owned slices and give new ones whose elements do not hang on memory. -/
set_option linter.unusedVariables false
namespace Go.Dc
variable {P : Program} {E : Env} {N : Nat} {Γ : List (Nat × RP)} {Ω : List OB} {ty : TypeId}

def Rep.Free {α : Type} (ρ : Rep α) : Prop := ∀ (d : α) (F F' : FP) (w : World) (es : List Value), AllP F w (ρ.cp d) es → AllP F' w (ρ.cp d) es
theorem free_S : rS.Free := fun d F F' w es h => match es, h with | [_], ⟨h, _⟩ => ⟨h, trivial⟩
def AnyF : List OB → Prop
  | [] => True
  | o :: r => (∀ F F' w, o.h F w → o.h F' w) ∧ AnyF r
theorem AnyF.mem : ∀ {l : List OB}, AnyF l → ∀ o ∈ l, ∀ F F' w, o.h F w → o.h F' w
  | o' :: l, ⟨h1, h2⟩, o, ho => by
    rcases List.mem_cons.1 ho with e | e
    · subst e; exact h1
    · exact h2.mem o e
theorem oa_free {α : Type} {ρ : Rep α} (hρ : ρ.Free) {hv : Value} {S : List Nat} {d : List α} : ∀ F F' w, (oa ρ hv S d).h F w → (oa ρ hv S d).h F' w := by
  rintro F F' w ⟨a, c, h1, h2, h3⟩
  refine ⟨a, c, h1, h2, h3.imp id ?_⟩
  rintro ⟨b, off, cells, ty, h4, h5, h6, h7, h8⟩
  exact ⟨b, off, cells, ty, h4, h5, h6, h7, fun i hi => let ⟨es, q1, q2⟩ := h8 i hi; ⟨es, hρ _ _ _ _ _ q1, q2⟩⟩

theorem s_callBO {X : Type} {f : FuncId} {x : Operand} {args : List Operand} {ats : Array TypeId} {φs : List RP} {res : X → List RP} {Ω1 : X → List OB} {ψ : X → RP}
    (hcall : ∀ args w, (callFunc f args).run P w = .ok (.enter f args) w) (hx : lkO Γ x = some (pv (.func (.func f) #[] #[])))
    (hf : FnOk P f φs [] res Ω1) (hΩ : ∀ x, AnyF (Ω1 x)) (ha : ArgsOk E N Γ Ω allF args φs) (hψ : ∀ x F F' w v, resH F w (res x) v → (ψ x).h F' w v) :
    St P E N (.call ⟨.value x, args.toArray, ats⟩) ty Γ Ω [] ψ (fun x => Ω ++ Ω1 x) := by
  intro a w hs o ho ht
  rw [run_call hcall (show _ = _ from hs.op hx) o ho]
  simp only [resW, Array.append_empty]
  refine (hf (fun _ => True) w (args.map a.eval) (fun _ _ => trivial) (fun _ _ => trivial) (by simp [ow]) (by simp [ow]) (by simp) ?_).mono ?_
  · exact (ha.all hs).mono (.refl fun b _ hb => ⟨trivial, by simp [ow]⟩)
  · rintro e w' ⟨x, v, rfl, hk, hbd, hnd1, hob, hres⟩
    have hblk : ∀ b, b < w.heap.size → w'.heap[b]? = w.heap[b]? := fun b hb => hk.blk b hb (by simp [ow])
    have hnew : ∀ b ∈ ow (Ω1 x), w.heap.size ≤ b ∧ b < w'.heap.size := fun b hb => by
      obtain ⟨h1, h2⟩ := hbd b hb
      rcases h2 with h2 | h2
      · exact ⟨h2, h1⟩
      · simp [ow] at h2
    refine ⟨v, rfl, x, ?_, hψ x _ _ _ _ hres, hk.size, fun b hb _ => hblk b hb, fun b hb hm => ?_⟩
    · refine hs.world ⟨hk.os, hk.tape, hk.output⟩ hk.size (fun b hb _ => hblk b hb) (fun b hb => ?_) ?_ (fun o ho => ?_)
      · rw [ow_append, List.mem_append] at hb
        exact hb.imp id (hnew b)
      · rw [ow_append]
        refine List.nodup_append.2 ⟨hs.nd, hnd1, fun p hp q hq e => ?_⟩
        subst e
        have := (hs.bd p hp).1
        have := (hnew p hq).1
        omega
      · rcases List.mem_append.1 ho with ho | ho
        · refine o.mono ⟨fun b hb hf => ⟨hf.1, fun hm => ?_⟩, fun b hb _ => hblk b hb⟩ (fun b hb => hblk b (hs.bd b (List.mem_flatMap.2 ⟨o, ho, hb⟩)).1) (hs.ob o ho)
          rw [ow_append, List.mem_append] at hm
          rcases hm with hm | hm
          · exact hf.2 hm
          · have := (hnew b hm).1; omega
        · exact (hΩ x).mem o ho _ _ _ (hob o ho)
    · rw [ow_append, List.mem_append] at hm
      rcases hm with hm | hm
      · exact hm
      · have := (hnew b hm).1; omega
end Go.Dc
