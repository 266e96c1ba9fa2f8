/- Part P28C.Order of a proof: lemmas. -/
import Derived.Test.YtodnndlcnignbaaP28CRApply
set_option linter.unusedVariables false
set_option linter.unusedSimpArgs false
/-! Legal attacks stand in one order. -/
namespace Go.Dc

/-- whatever the model answers is of Q -/
def PC {α : Type} (m : Option α) (Q : α → Prop) : Prop := ∀ r, m = some r → Q r
section
variable {α β σ ρ : Type} {Q : ρ → Prop}
theorem PC.bind {m : Option α} {f : α → Option ρ} (h : ∀ a, m = some a → PC (f a) Q) : PC (Option.bind m f) Q := fun r hr => by
  cases hm : m with
  | none => rw [hm] at hr; cases hr
  | some a => rw [hm] at hr; exact h a hm r hr
theorem PC.ret {a : ρ} (h : Q a) : PC (some a) Q := fun r hr => by cases hr; exact h
theorem PC.cond {b : Bool} {x y : Option ρ} (h1 : b = true → PC x Q) (h2 : b = false → PC y Q) : PC (bif b then x else y) Q := by
  cases b
  · exact h2 rfl
  · exact h1 rfl
theorem PC.letM {x : α} {k : α → Option ρ} (h : PC (k x) Q) : PC (Dc.letM x k) Q := h
theorem PC.joinP {S : Type} {f : S → Option ρ} {g : (S → Option ρ) → Option ρ} (P : S → Prop) (h1 : ∀ x, P x → PC (f x) Q) (h2 : ∀ k : S → Option ρ, (∀ x, P x → PC (k x) Q) → PC (g k) Q) : PC (joinM f g) Q := h2 f h1
theorem PC.loop {f : σ → Option (Sum ρ σ)} (I : σ → Prop) {s : σ} (h0 : I s) (step : ∀ s, I s → PC (f s) (onO Q I)) : PC (loopC f s) Q := fun r hr => by
  obtain ⟨n, hn⟩ := loopC_iff.1 hr
  clear hr
  induction n generalizing s with
  | zero => simp [loopN] at hn
  | succ n ih =>
    simp only [loopN] at hn
    cases hf : f s with
    | none => rw [hf] at hn; cases hn
    | some o =>
      rw [hf] at hn
      have := step s h0 o hf
      match o, this, hn with
      | .inl r', h, hn => cases hn; exact h
      | .inr s', h, hn => exact ih h hn
end

def ltM (x y : Mv) : Prop := x.Target < y.Target ∨ x.Target = y.Target ∧ x.Node < y.Node

theorem sorted_eq : ∀ {l l' : List Mv}, l.Pairwise ltM → l'.Pairwise ltM → (∀ x, x ∈ l ↔ x ∈ l') → l = l'
  | [], [], _, _, _ => rfl
  | [], y :: t', _, _, hm => by have := (hm y).2 (by simp); cases this
  | x :: t, [], _, _, hm => by have := (hm x).1 (by simp); cases this
  | x :: t, y :: t', h, h', hm => by
    have irr : ∀ z : Mv, ¬ ltM z z := fun z h => by unfold ltM at h; omega
    obtain ⟨hx, ht⟩ := List.pairwise_cons.1 h
    obtain ⟨hy, ht'⟩ := List.pairwise_cons.1 h'
    have hxy : x = y := by
      rcases List.mem_cons.1 ((hm x).1 (by simp)) with e | h1
      · exact e
      · rcases List.mem_cons.1 ((hm y).2 (by simp)) with e | h2
        · exact e.symm
        · have a := hy x h1; have b := hx y h2
          unfold ltM at a b; omega
    subst hxy
    congr 1
    refine sorted_eq ht ht' fun z => ?_
    constructor
    · intro hz
      rcases List.mem_cons.1 ((hm z).1 (List.mem_cons_of_mem _ hz)) with e | h1
      · subst e; exact absurd (hx z hz) (irr z)
      · exact h1
    · intro hz
      rcases List.mem_cons.1 ((hm z).2 (List.mem_cons_of_mem _ hz)) with e | h1
      · subst e; exact absurd (hy z hz) (irr z)
      · exact h1

theorem snoc {l : List Mv} (h : l.Pairwise ltM) {x : Mv} (hx : ∀ y ∈ l, ltM y x) : (l ++ [x]).Pairwise ltM :=
  List.pairwise_append.2 ⟨h, List.pairwise_singleton _ _, fun y hy z hz => by rw [List.mem_singleton.1 hz]; exact hx y hy⟩

theorem part_asc {n : Nat} {b : Nat → Bool} : (part n b).Pairwise (· < ·) := by
  unfold part
  rw [List.pairwise_map]
  exact (List.pairwise_lt_range.filter _).imp fun h => by omega

section
variable {d : Dg} (hd : Dlg d) {tb : T_protocol_table} (ht : TabOk d tb) (hg : GVal d.Graph)
include hd ht hg

theorem legal_sorted : PC (protocol_table_legal_m tb) fun l => l.Pairwise ltM := by
  have hn := hd.n2; have hLn := hd.Ln
  unfold protocol_table_legal_m
  refine PC.bind fun bh _ => PC.bind fun q hq => PC.ret ?_
  refine PC.loop (Q := fun l : List Mv => l.Pairwise ltM) (fun s => 0 ≤ s.1 ∧ s.1 ≤ 1000 ∧ s.2.Pairwise ltM ∧ ∀ x ∈ s.2, x.Target < s.1) ⟨by simp, by simp, .nil, fun x hx => by cases hx⟩ ?_ q hq
  rintro ⟨i, l⟩ ⟨h0, h1, hp, hv⟩
  dsimp only [protocol_table_legal_l1] at *
  refine PC.cond (fun g => ?_) fun g => .ret hp
  rw [ht.td] at g ⊢
  simp only [decide_eq_true_eq] at g
  have e : iadd .i64 i 1 = i + 1 := iadd64 (by omega) (by omega)
  have keep : onO (fun l : List Mv => l.Pairwise ltM) (fun s : Int × List Mv => 0 ≤ s.1 ∧ s.1 ≤ 1000 ∧ s.2.Pairwise ltM ∧ ∀ x ∈ s.2, x.Target < s.1) (.inr (i + 1, l)) := ⟨by dsimp only; omega, by dsimp only; omega, hp, fun x hx => by have := hv x hx; dsimp only; omega⟩
  rw [e]
  refine PC.bind fun t _ => PC.bind fun b _ => PC.cond (fun _ => .ret keep) fun _ => PC.cond (fun _ => .ret keep) fun _ => ?_
  refine PC.bind fun l' hl' => PC.ret ?_
  refine PC.loop (Q := fun l' : List Mv => onO (fun l : List Mv => l.Pairwise ltM) (fun s : Int × List Mv => 0 ≤ s.1 ∧ s.1 ≤ 1000 ∧ s.2.Pairwise ltM ∧ ∀ x ∈ s.2, x.Target < s.1) (.inr (i + 1, l')))
    (fun s => 0 ≤ s.1 ∧ s.1 ≤ 100000 ∧ s.2.Pairwise ltM ∧ ∀ x ∈ s.2, x.Target < i ∨ x.Target = i ∧ ∃ (k : Nat) (hk : k < d.Graph.L.length), (k : Int) < s.1 ∧ (d.Graph.L[k]).From = x.Node ∧ (d.Graph.L[k]).To = t.Node)
    ⟨by simp, by simp, hp, fun x hx => .inl (hv x hx)⟩ ?_ l' hl'
  rintro ⟨j, q⟩ ⟨j0, j1, qp, qv⟩
  dsimp only [protocol_table_legal_l2] at *
  rw [ht.td]
  refine PC.cond (fun g2 => ?_) fun g2 => .ret ⟨by dsimp only; omega, by dsimp only; omega, qp, fun x hx => by rcases qv x hx with h | ⟨h, _⟩ <;> (dsimp only; omega)⟩
  simp only [decide_eq_true_eq] at g2
  have e2 : iadd .i64 j 1 = j + 1 := iadd64 (by omega) (by omega)
  rw [e2]
  have stay : onO (fun l' : List Mv => onO (fun l : List Mv => l.Pairwise ltM) (fun s : Int × List Mv => 0 ≤ s.1 ∧ s.1 ≤ 1000 ∧ s.2.Pairwise ltM ∧ ∀ x ∈ s.2, x.Target < s.1) (.inr (i + 1, l')))
      (fun s : Int × List Mv => 0 ≤ s.1 ∧ s.1 ≤ 100000 ∧ s.2.Pairwise ltM ∧ ∀ x ∈ s.2, x.Target < i ∨ x.Target = i ∧ ∃ (k : Nat) (hk : k < d.Graph.L.length), (k : Int) < s.1 ∧ (d.Graph.L[k]).From = x.Node ∧ (d.Graph.L[k]).To = t.Node) (.inr (j + 1, q)) :=
    ⟨by dsimp only; omega, by dsimp only; omega, qp, fun x hx => (qv x hx).imp id fun ⟨h, k, hk, h2, h3⟩ => ⟨h, k, hk, by dsimp only; omega, h3⟩⟩
  refine PC.bind fun p hpj => ?_
  obtain ⟨_, _, hjl, hjp⟩ := idxM_some hpj
  refine PC.cond (fun _ => .ret stay) fun hto => ?_
  have hto : p.To = t.Node := by simpa using hto
  have app : ∀ bh : Int, PC (Option.bind (appM 32 q [(⟨bh, 2, p.From, i⟩ : Mv)]) fun out => some (Sum.inr (j + 1, out)) : Option (Sum (List Mv) (Int × List Mv))) (onO (fun l' : List Mv => onO (fun l : List Mv => l.Pairwise ltM) (fun s : Int × List Mv => 0 ≤ s.1 ∧ s.1 ≤ 1000 ∧ s.2.Pairwise ltM ∧ ∀ x ∈ s.2, x.Target < s.1) (.inr (i + 1, l')))
      (fun s : Int × List Mv => 0 ≤ s.1 ∧ s.1 ≤ 100000 ∧ s.2.Pairwise ltM ∧ ∀ x ∈ s.2, x.Target < i ∨ x.Target = i ∧ ∃ (k : Nat) (hk : k < d.Graph.L.length), (k : Int) < s.1 ∧ (d.Graph.L[k]).From = x.Node ∧ (d.Graph.L[k]).To = t.Node)) := fun bh => PC.bind fun out ho => by
    obtain ⟨_, rfl⟩ := appM_some ho
    refine .ret ⟨by dsimp only; omega, by dsimp only; omega, snoc qp fun y hy => ?_, fun x hx => ?_⟩
    · rcases qv y hy with h | ⟨h, k, hk, h2, h3, h4⟩
      · exact .inl h
      · refine .inr ⟨h, ?_⟩
        dsimp only
        have hlt : k < j.toNat := by omega
        have := List.pairwise_iff_getElem.1 hg.s k j.toNat hk hjl hlt
        rw [hjp] at this
        rcases this with h5 | ⟨_, h5⟩
        · omega
        · omega
    · rcases List.mem_append.1 hx with h | h
      · exact (qv x h).imp id fun ⟨h, k, hk, h2, h3⟩ => ⟨h, k, hk, by dsimp only; omega, h3⟩
      · rw [List.mem_singleton.1 h]
        exact .inr ⟨rfl, j.toNat, hjl, by dsimp only; omega, by rw [hjp], by rw [hjp]; exact hto⟩
  refine PC.bind fun c _ => PC.cond (fun _ => .ret stay) fun _ => PC.cond (fun _ => PC.bind fun mm _ => PC.cond (fun _ => .ret stay) fun _ => app _) fun _ => app _

theorem attacks_sorted : PC (ref27_attacks_m d) fun l => l.Pairwise ltM := by
  have hn := hd.n2; have hLn := hd.Ln; have h40 := hg.n1
  have hpl := part_len (n := d.Moves.length) (b := bf tb.leading)
  have hasc := part_asc (n := d.Moves.length) (b := bf tb.leading)
  unfold ref27_attacks_m
  rw [rstatus_eq hd ht, some_bind, rleader_eq hd ht, some_bind, rLeading_eq hd ht, some_bind]
  refine PC.bind fun q hq => PC.ret ?_
  refine PC.loop (Q := fun l : List Mv => l.Pairwise ltM) (fun s => 0 ≤ s.1 ∧ s.1 ≤ 1000 ∧ s.2.Pairwise ltM ∧ ∀ x ∈ s.2, ∃ (k : Nat) (hk : k < (part d.Moves.length (bf tb.leading)).length), (k : Int) < s.1 ∧ x.Target = (part d.Moves.length (bf tb.leading))[k]) ⟨by simp, by simp, .nil, fun x hx => by cases hx⟩ ?_ q hq
  rintro ⟨i, l⟩ ⟨h0, h1, hp, hv⟩
  dsimp only [ref27_attacks_l1] at *
  refine PC.cond (fun g => ?_) fun g => .ret hp
  simp only [decide_eq_true_eq] at g
  have e : iadd .i64 i 1 = i + 1 := iadd64 (by omega) (by omega)
  rw [e]
  refine PC.bind fun t hti => ?_
  obtain ⟨_, _, hil, hit⟩ := idxM_some hti
  refine PC.bind fun m _ => PC.cond (fun _ => .ret ⟨by dsimp only; omega, by dsimp only; omega, hp, fun x hx => let ⟨k, hk, h2, h3⟩ := hv x hx; ⟨k, hk, by dsimp only; omega, h3⟩⟩) fun _ => ?_
  refine PC.bind fun l' hl' => PC.ret ?_
  have hlow : ∀ x ∈ l, x.Target < t := fun x hx => by
    obtain ⟨k, hk, h2, h3⟩ := hv x hx
    have := List.pairwise_iff_getElem.1 hasc k i.toNat hk hil (by omega)
    rw [hit] at this
    omega
  have fin : ∀ l' : List Mv, l'.Pairwise ltM → (∀ x ∈ l', x ∈ l ∨ x.Target = t) → onO (fun l : List Mv => l.Pairwise ltM) (fun s : Int × List Mv => 0 ≤ s.1 ∧ s.1 ≤ 1000 ∧ s.2.Pairwise ltM ∧ ∀ x ∈ s.2, ∃ (k : Nat) (hk : k < (part d.Moves.length (bf tb.leading)).length), (k : Int) < s.1 ∧ x.Target = (part d.Moves.length (bf tb.leading))[k]) (.inr (i + 1, l')) := fun l' h1 h2 =>
    ⟨by dsimp only; omega, by dsimp only; omega, h1, fun x hx => by
      rcases h2 x hx with h | h
      · obtain ⟨k, hk, h3, h4⟩ := hv x h; exact ⟨k, hk, by dsimp only; omega, h4⟩
      · exact ⟨i.toNat, hil, by dsimp only; omega, by rw [hit]; exact h⟩⟩
  refine PC.loop (Q := fun l' : List Mv => onO (fun l : List Mv => l.Pairwise ltM) (fun s : Int × List Mv => 0 ≤ s.1 ∧ s.1 ≤ 1000 ∧ s.2.Pairwise ltM ∧ ∀ x ∈ s.2, ∃ (k : Nat) (hk : k < (part d.Moves.length (bf tb.leading)).length), (k : Int) < s.1 ∧ x.Target = (part d.Moves.length (bf tb.leading))[k]) (.inr (i + 1, l')))
    (fun s => 0 ≤ s.1 ∧ s.1 ≤ 1000 ∧ s.2.Pairwise ltM ∧ ∀ x ∈ s.2, x ∈ l ∨ x.Target = t ∧ x.Node < s.1) ⟨by simp, by simp, hp, fun x hx => .inl hx⟩ ?_ l' hl'
  rintro ⟨a, q⟩ ⟨a0, a1, qp, qv⟩
  dsimp only [ref27_attacks_l2] at *
  refine PC.cond (fun g2 => ?_) fun g2 => .ret (fin q qp fun x hx => (qv x hx).imp id fun h => h.1)
  simp only [decide_eq_true_eq] at g2
  have e2 : iadd .i64 a 1 = a + 1 := iadd64 (by omega) (by omega)
  rw [e2]
  refine PC.bind fun mt _ => PC.bind fun ok _ => PC.bind fun q2 _ => ?_
  refine PC.joinP (fun _ => True) (fun j _ => ?_) fun k hk => PC.cond (fun _ => PC.cond (fun _ => hk _ trivial) fun _ => PC.bind fun r _ => hk _ trivial) fun _ => hk _ trivial
  refine PC.cond (fun _ => PC.bind fun out ho => PC.letM (PC.ret ?_)) fun _ => PC.letM (PC.ret ?_)
  · obtain ⟨_, rfl⟩ := appM_some ho
    refine ⟨by dsimp only; omega, by dsimp only; omega, snoc qp fun y hy => ?_, fun x hx => ?_⟩
    · rcases qv y hy with h | ⟨h, h2⟩
      · exact .inl (hlow y h)
      · exact .inr ⟨h, h2⟩
    · rcases List.mem_append.1 hx with h | h
      · exact (qv x h).imp id fun h => ⟨h.1, by dsimp only; omega⟩
      · rw [List.mem_singleton.1 h]; exact .inr ⟨rfl, by dsimp only; omega⟩
  · exact ⟨by dsimp only; omega, by dsimp only; omega, qp, fun x hx => (qv x hx).imp id fun h => ⟨h.1, by dsimp only; omega⟩⟩

/-- the lists of legal attacks are the same -/
theorem legal_same (e : protocol_of_m d = some tb) : ∃ L, protocol_Legal_m d = some L ∧ ref27_Legal_m d = some L ∧ L.length ≤ 8000 := by
  obtain ⟨L, hL, h1, h2, _⟩ := Legal_plain hd e ht
  obtain ⟨M, hM, m1, m2, m3⟩ := rLegal_plain hd ht hg
  have hl2 := lead_12 (sf tb.status)
  have hLM : L = M := by
    by_cases hr : (outF d (sf tb.status) (bf tb.leading)).Reason = 0
    · refine sorted_eq ?_ ?_ fun x => (h1 hr x).trans (m1 hr x).symm
      · have pc : PC (protocol_Legal_m d) fun l => l.Pairwise ltM := by
          unfold protocol_Legal_m
          refine PC.bind fun _ _ => PC.cond (fun _ => .ret .nil) fun _ => PC.bind fun t4 h4 => PC.bind fun l hl => .ret ?_
          rw [e] at h4; cases h4
          exact legal_sorted hd ht hg l hl
        exact pc L hL
      · have pc : PC (ref27_Legal_m d) fun l => l.Pairwise ltM := by
          unfold ref27_Legal_m
          exact PC.bind fun _ _ => PC.cond (fun _ => .ret .nil) fun _ => PC.bind fun l hl => .ret (attacks_sorted hd ht hg l hl)
        exact pc M hM
    · rw [h2 hr, m2 hr]
  subst hLM
  exact ⟨L, hL, hM, m3⟩
end
end Go.Dc
