/- Part Dc.Cpt of a proof: lemmas. -/
import Derived.Test.YtdbmnmbeomlmiaaGreatDoorDcSub
import Derived.Test.YtdbmnmbeomlmiaaGreatDoorDcDrawI
import Derived.Test.YtdbmnmbeomlmiaaGreatDoorMTabW
import Derived.Shelf.Slices.CompactI
set_option linter.unusedSectionVars false
namespace Go.Dc
variable [DrawMode]
variable {P : Program} {E : Env} {N : Nat} {Γ : List (Nat × RP)} {Ω : List OB} {ty : TypeId} {α : Type} {ρ : Rep α} {bytes t e j : Nat} {x y : Operand} {hv : Value} {S : List Nat} {d : List α}

def cpA {α : Type} (d d' : List α) : List α := d'.take d.length ++ d.drop (min d'.length d.length)
theorem s_copyA {d' : List α} (hu : P.underlying t = some (.slice e)) (h : ElT P e ρ bytes) (hx : lkO Γ x = some (pv hv)) (hj : Ω[j]? = some (oa ρ hv S d)) (hy : lkO Γ y = some (slv ρ d')) :
  St P E N (.call ⟨.builtin .copy, #[x, y], #[t, t]⟩) ty Γ Ω [j] (fun _ : Unit => iv .i64 ((min d'.length d.length : Nat) : Int)) (fun _ => Ω.set j (oa ρ hv S (cpA d d'))) := by
 by_cases h0 : 0 < d.length
 ·intro a w hs
  obtain ⟨ad, c, rfl, hdc, hob⟩ := hs.objAt hj
  have e1 : subV (.slice ad d.length c) ρ.size 0 d.length = .slice ad d.length c := by
   rw [subV_slice, if_neg (by omega)]
   congr 1
   cases ad with
   | none => rfl
   | some q => cases q; simp [Addr.add]
  have := s_copyS (P := P) (E := E) (N := N) (ty := ty) (l := 0) (m := d.length) (d' := d') h0 (Nat.le_refl _) hu h (by rw [e1]; exact hx) hj hy a w hs
  simpa [cpA] using this
 ·have hd : d = [] := List.eq_nil_of_length_eq_zero (by omega)
  subst hd
  intro a w hs
  have hvx : a.eval x = hv := hs.op hx
  obtain ⟨ya, yc, hvy, hyc, hyat⟩ := hs.op hy
  obtain ⟨ad, c, rfl, hdc, hob⟩ := hs.objAt hj
  obtain ⟨i, hi, his, _⟩ := h.info
  have hfc : ∀ ya yc, (Builtin.firstCells i.size 0 (.slice ya d'.length yc)).run P w = .ok #[] w := fun ya yc => by
   have := run_fc (P := P) (size := i.size) (m := 0) (yc := yc) (ya := ya) (news := []) (w := w) (by simp) (.inl (by simp))
   cases ya <;> exact this
  have hr : (Builtin.copy_ #[t, t] ty #[.slice ad 0 c, .slice ya d'.length yc]).run P w = .ok (goInt 0) w := by
   simp only [Builtin.copy_]
   cases ad with
   | none => simp [run_underlying hu, Builtin.lenOf, sizeOf, typeInfo, hi, hfc]
   | some q => simp [run_underlying hu, Builtin.lenOf, sizeOf, typeInfo, hi, hfc, storeCells]
  have hdd : cpA ([] : List α) d' = [] := by simp [cpA]
  refine opwp_val (fun o ho ht => run_copy_call ho hvx hvy (by rw [ht]; exact hr)) ⟨(), ?_, ?_, Nat.le_refl _, fun _ _ _ => rfl, fun b hb hm => ?_⟩
  ·rw [hdd, set_same hj]; exact hs
  ·simp; rfl
  ·rw [hdd, set_same hj] at hm; exact hm
end Go.Dc

set_option linter.unusedVariables false
namespace Go.Dc
variable [DrawMode]
variable {P : Program} {E : Env} {N : Nat} {Γ : List (Nat × RP)} {Ω : List OB} {ty : TypeId} {α β : Type} [DecidableEq α] {κ : Rep α} {ν : Rep β}

section
variable {it b j : Nat} {d : List (α × β)} {ix : List Nat} {x : Operand}
end

section
variable {σ X Y R γ : Type} {id : Nat} {Γl : σ → X → List (Nat × RP)} {Ωl : σ → X → List Nat → List OB} {Γb : σ → Y → List (Nat × RP)} {Ωb : σ → Y → List Nat → List OB} {k : σ → Option R} {K : KT R}
end
end Go.Dc

namespace Go.Dc

variable [DrawMode] {P : Program} {f : FuncId} [PTab P]
def conW4 (t : Ty) (m : List t.den → Int → Option (List t.den)) : Con := ⟨[.sl t, .int .i64], [.sl t], fun a => m a.1 a.2, [(false, [.d 0 0]), (false, [.d 1 0])], [], [(false, [.own 0])], [.oa 0 (.d 0 0)], 0, 1⟩
theorem conW4_ok {t : Ty} {m : List t.den → Int → Option (List t.den)} (h : ∀ s n r, m s n = some r → FnOk P f [slv t.rep s, iv .i64 n] [] (fun x : Value × List Nat => [pv x.1]) (fun x => [oa t.rep x.1 x.2 r])) :
  ConOk P f (conW4 t m) := fun a r har hs => by
 refine (h a.1 a.2 r har).re fun x F w hx => ?_
 have h1 : x.1.oneCell' = true := oa_one (hx (oa t.rep x.1 x.2 r) (List.mem_singleton.2 rfl))
 refine ⟨⟨updHd hs 0 ⟨x.1, x.2, 0, h1⟩, fun i hi => ?_⟩, rfl, rfl⟩
 have : i < 0 := hi
 omega
end Go.Dc

namespace Go.Dc
variable [DrawMode]
open Go.Proofs Go.RowKit Go.Sort Go.Shelf
variable {P : Program}

theorem slH_int {F : FP} {w : World} {cells : Array Value} {off : Nat} {d : List Int} {k : IntKind} : SlH (rI k) F w cells off d ↔ ∀ i (hi : i < d.length), cells[off + i]? = some (.int k d[i]) := by
 constructor
 ·intro h i hi
  obtain ⟨es, h1, h2⟩ := h i hi
  have := h2 0 (by simp [rI, one])
  simp only [rI, one, Nat.mul_one, Nat.add_zero] at this h1
  match es, h1 with
  | [u], ⟨hu, _⟩ => rw [this]; simp; exact hu
 ·intro h i hi
  refine ⟨[.int k d[i]], ⟨rfl, trivial⟩, fun j hj => ?_⟩
  have hj0 : j = 0 := by simp [rI, one] at hj; omega
  subst hj0
  simpa [rI, one] using h i hi

theorem cell_of_block {w : World} {b o : Nat} {cells : Array Value} {ty : TypeId} {fz : Nat × Nat} (h : w.heap[b]? = some (.cells cells ty fz)) : w.cell? ⟨b, o, none⟩ = cells[o]? := by
 simp [World.cell?, h]
theorem unfrozen_of_block {w : World} {b o : Nat} {cells : Array Value} {ty : TypeId} (h : w.heap[b]? = some (.cells cells ty (0, 0))) : w.frozen? ⟨b, o, none⟩ = false := by
 simp [World.frozen?, h]

def compactM (l : List Int) : Option (List Int) := if l.length ≤ 1000000000000 then some (Lib.compact l) else none

theorem compact_len (zs : List Int) : (Lib.compact zs).length ≤ zs.length := by
 unfold Lib.compact Lib.compactUpTo
 rw [List.length_map]
 exact Nat.le_trans (List.length_filter_le _ _) (by simp)

theorem compact_fn {fS : Nat}
  (hC : ∀ (w : World) (blk off cap : Nat) (zs : List Int), Holds (Value.int .i64) w blk off zs.toArray → zs.length ≤ 9223372036854775807 → zs.length ≤ cap →
   Calls P fS #[.slice (some ⟨blk, off, none⟩) zs.length cap] w fun e w' => e = .returned (.slice (some ⟨blk, off, none⟩) (Lib.compact zs).length cap) ∧ ∃ q, w' = putRow (Value.int .i64) (Sort.ahead w q) blk off (Lib.compact zs ++ List.replicate (zs.length - (Lib.compact zs).length) 0).toArray)
  (hE : ∀ (a : Option Addr) (cap : Nat) (w : World), Calls P fS #[.slice a 0 cap] w fun e w' => e = .returned (.slice a 0 cap) ∧ w' = w)
  (hlen : ∀ zs : List Int, (Lib.compact zs).length ≤ zs.length)
  {l r : List Int} (hm : compactM l = some r) {h : Value × List Nat} :
  FnOk P fS [pv h.1] [oa (rI .i64) h.1 h.2 l] (fun x : Value × List Nat => [pv x.1]) (fun x : Value × List Nat => [oa (rI .i64) x.1 x.2 r]) := by
 intro F w vs hF hmf hbd hnd hob hargs htb
 unfold compactM at hm
 have hl : l.length ≤ 1000000000000 := Classical.byContradiction fun hx => by rw [if_neg hx] at hm; cases hm
 rw [if_pos hl] at hm
 cases hm
 match vs, hargs with
 | [v0], ⟨hv0, _⟩ =>
  have hv0' : v0 = h.1 := hv0
  subst hv0'
  obtain ⟨hv, S⟩ := h
  obtain ⟨a, c, e1, hc, hat⟩ := hob (oa (rI .i64) hv S l) (by simp)
  simp only at e1 hat ⊢
  subst e1
  rcases hat with ⟨rfl, rfl, rfl⟩ | ⟨b, off, cells, ty, rfl, rfl, hb, hsz, hH⟩
  ·have : l = [] := List.eq_nil_of_length_eq_zero (by omega)
   subst this
   refine Calls.mono (hE none 0 w) ?_
   rintro e' w' ⟨rfl, rfl⟩
   refine ⟨(.slice none 0 0, []), _, rfl, .refl _ _, by simp [ow, oa], by simp [ow, oa], fun o ho => ?_, rfl⟩
   rw [List.mem_singleton.1 ho]
   exact ⟨none, 0, rfl, by simp [Lib.compact, Lib.compactUpTo], .inl ⟨rfl, rfl, rfl⟩⟩
  ·have hI := slH_int.1 hH
   have hsz' : off + c ≤ cells.size := by simpa [rI, one] using hsz
   have hHo : Holds (Value.int .i64) w b off l.toArray := fun j hj => by
    have hj' : j < l.length := by simpa using hj
    refine ⟨?_, unfrozen_of_block hb⟩
    rw [cell_of_block hb, hI j hj']
    simp [getElem!_pos, hj']
   refine Calls.mono (hC w b off c l hHo (by omega) hc) ?_
   rintro e' w' ⟨rfl, q, rfl⟩
   have hbl := size_of_get hb
   have hheap : ∀ k, (putRow (Value.int .i64) (Sort.ahead w q) b off (Lib.compact l ++ List.replicate (l.length - (Lib.compact l).length) 0).toArray).heap[k]? = if k = b then some (.cells (putCells (Value.int .i64) off (Lib.compact l ++ List.replicate (l.length - (Lib.compact l).length) 0).toArray cells) ty (0, 0)) else w.heap[k]? := fun k => by
    unfold putRow mapBlock Sort.ahead
    simp only [Array.getElem?_modify]
    by_cases e : b = k
    ·subst e; rw [if_pos rfl, if_pos rfl, hb]; rfl
    ·rw [if_neg e, if_neg (fun h => e h.symm)]
   have hcl := hlen l
   refine ⟨(.slice (some ⟨b, off, none⟩) (Lib.compact l).length c, [b]), _, rfl, ⟨rfl, rfl, rfl, by simp [putRow, mapBlock, Sort.ahead], by simp [putRow, mapBlock, Sort.ahead], fun k hk hk' => ?_⟩, fun k hk' => ?_, by simp [ow, oa], fun o ho => ?_, rfl⟩
   ·rw [hheap, if_neg (fun e => hk' (by simp [ow, oa, e]))]
   ·have : k = b := by simpa [ow, oa] using hk'
    subst this
    exact ⟨by simp [putRow, mapBlock, Sort.ahead]; exact hbl, .inr (by simp [ow, oa])⟩
   ·rw [List.mem_singleton.1 ho]
    refine ⟨_, c, rfl, by omega, .inr ⟨b, off, _, ty, rfl, rfl, by rw [hheap, if_pos rfl], ?_, slH_int.2 fun i hi => ?_⟩⟩
    ·simp only [putCells, Array.size_mapIdx]; exact hsz
    ·have hi2 : off + i < cells.size := by omega
     simp only [putCells, Array.getElem?_mapIdx, Array.getElem?_eq_getElem hi2, Option.map_some]
     rw [if_pos (by simp; omega)]
     have : off + i - off = i := by omega
     rw [this]
     have hi3 : i < (Lib.compact l ++ List.replicate (l.length - (Lib.compact l).length) (0 : Int)).length := by simp; omega
     rw [getElem!_pos _ _ (by simpa using hi3)]
     simp [List.getElem_append_left hi]
end Go.Dc
