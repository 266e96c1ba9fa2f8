/- Part Dc.Map of a proof: lemmas. -/
import Derived.Test.YtmejeobfjojfeaaDcDrawI
import Derived.ChangeKeysEq
import Derived.Lib.LaidTab
import Derived.LaidHandle
import Derived.Test.YtmejeobfjojfeaaDcMem4
import Derived.Lib.Overlaps
import Derived.MapKept
set_option linter.unusedSectionVars false
namespace Go.Dc
variable [DrawMode]
variable {R : Type} {P : Program} {E : Env} {N : Nat} {Γ : List (Nat × RP)} {Ω : List OB} {ty : TypeId}

def CapsOk (Γ : List (Nat × RP)) : List Operand → List Value → Prop
 | [], [] => True
 | x :: xs, v :: vs => lkO Γ x = some (pv v) ∧ CapsOk Γ xs vs
 | _, _ => False

theorem CapsOk.eval {a : Act} {w : World} (hs : Sat E N Γ Ω a w) : ∀ {xs : List Operand} {vs : List Value}, CapsOk Γ xs vs → xs.map a.eval = vs
 | [], [], _ => rfl
 | x :: xs, v :: vs, ⟨h1, h2⟩ => by rw [List.map_cons, CapsOk.eval hs h2, show a.eval x = v from hs.op h1]
 | [], _ :: _, h => h.elim
 | _ :: _, [], h => h.elim

theorem r_mkfn {f : FuncId} {xs : List Operand} {vs : List Value} (h : CapsOk Γ xs vs) : Rd P E N (.makeFunc (.func f) #[] xs.toArray) ty Γ Ω [] (pv (.func (.func f) #[] vs.toArray)) := by
 intro a w hs
 refine ⟨_, [], rfl, by simp, fun w' _ o ho _ => ?_⟩
 simp [execOp, ho, Instr.makeFunc, h.eval hs]

def keepB : List Bool → List OB → List OB
 | true :: m, o :: os => o :: keepB m os
 | false :: m, _ :: os => keepB m os
 | _, _ => []
def DeadB : List Bool → List OB → Prop
 | true :: m, _ :: os => DeadB m os
 | false :: m, o :: os => o = dead ∧ DeadB m os
 | [], [] => True
 | _, _ => False

theorem keepB_ow : ∀ {m : List Bool} {os : List OB}, DeadB m os → ow (keepB m os) = ow os
 | [], [], _ => rfl
 | true :: m, o :: os, h => by
  show ow (o :: keepB m os) = ow (o :: os)
  rw [show ow (o :: keepB m os) = o.S ++ ow (keepB m os) from by simp [ow], show ow (o :: os) = o.S ++ ow os from by simp [ow], keepB_ow (m := m) h]
 | false :: m, o :: os, ⟨h1, h2⟩ => by
  show ow (keepB m os) = ow (o :: os)
  rw [keepB_ow h2, show ow (o :: os) = o.S ++ ow os from by simp [ow], h1]
  simp [dead]
 | [], _ :: _, h => h.elim
 | true :: _, [], h => h.elim
 | false :: _, [], h => h.elim

theorem keepB_mem : ∀ {m : List Bool} {os : List OB}, DeadB m os → ∀ o ∈ os, o ∈ keepB m os ∨ o = dead
 | [], [], _, o, ho => by simp at ho
 | true :: m, p :: os, h, o, ho => by
  rcases List.mem_cons.1 ho with e | e
  ·exact .inl (by rw [e]; exact List.mem_cons_self)
  ·exact (keepB_mem (m := m) h o e).imp (fun h => List.mem_cons_of_mem _ h) id
 | false :: m, p :: os, ⟨h1, h2⟩, o, ho => by
  rcases List.mem_cons.1 ho with e | e
  ·exact .inr (e.trans h1)
  ·exact keepB_mem h2 o e
 | [], _ :: _, h, _, _ => h.elim
 | true :: _, [], h, _, _ => h.elim
 | false :: _, [], h, _, _ => h.elim

theorem FnOk.undead {X : Type} {f : FuncId} {φs : List RP} {Ω0 : List OB} {res : X → List RP} {Ω1 Ω2 : X → List OB} (hf : FnOk P f φs Ω0 res Ω1) (h1 : ∀ x, ow (Ω1 x) = ow (Ω2 x))
  (h2 : ∀ x, ∀ o ∈ Ω2 x, o ∈ Ω1 x ∨ o = dead) : FnOk P f φs Ω0 res Ω2 := by
 intro F w vs a1 a2 a3 a4 a5 a6 a7
 refine (hf F w vs a1 a2 a3 a4 a5 a6 a7).mono ?_
 rintro e w' ⟨x, v, he, hk, hbd, hnd, hob, hres⟩
 rw [h1 x] at hbd hnd hres hob
 refine ⟨x, v, he, hk, hbd, hnd, fun o ho => ?_, hres⟩
 rcases h2 x o ho with h3 | h3
 ·exact hob o h3
 ·rw [h3]; trivial

section
variable {α : Type} {e t : TypeId} {ρ : Rep α} {bytes : Nat} {x : Operand}
def subV (v : Value) (sz l m : Nat) : Value := match v with
 | .slice ad _ c => .slice (if c = l then ad else ad.map (·.add (l * sz))) (m - l) (c - l)
 | v => v

theorem r_osub {lo hi : Option Operand} {d d' : List α} {l m : Int} {hv : Value} {S : List Nat} {j : Nat} (hd : slM d l m = some d') (hu : P.underlying t = some (.slice e)) (h : ElT P e ρ bytes)
  (hx : lkO Γ x = some (pv hv)) (hj : Ω[j]? = some (oa ρ hv S d)) (hlo : BdOk Γ 0 lo l) (hhi : BdOk Γ d.length hi m) :
  Rd P E N (.slice t x lo hi none) ty Γ Ω [] (pv (subV hv ρ.size l.toNat m.toNat)) := .mk fun a w hs => by
 obtain ⟨h0, h1, h2, rfl⟩ := slM_some hd
 have hvx : a.eval x = hv := hs.op hx
 obtain ⟨ad, c, rfl, hc, hob⟩ := hs.objAt hj
 obtain ⟨l, rfl⟩ := Int.eq_ofNat_of_zero_le h0
 obtain ⟨m, rfl⟩ := Int.eq_ofNat_of_zero_le (Int.le_trans h0 h1)
 have hl := hlo.val hs
 have hm := hhi.val hs
 have e1 : l ≤ m := by omega
 have e2 : m ≤ d.length := by omega
 refine ⟨_, rfl, fun w' o ho _ => ?_⟩
 have hrun := run_slice (P := P) hu h (ad := ad) (n := d.length) (c := c) (lo := lo.map a.eval) (hi := hi.map a.eval) (l := l) (hh := m)
  (hl.imp (fun ⟨e1, e2⟩ => ⟨e1, by omega⟩) id) (hm.imp (fun ⟨e1, e2⟩ => ⟨e1, by omega⟩) id) e1 (by omega) w'
 simp [execOp, ho, hvx, hrun, subV]

theorem zero_get {zs : Array Value} {n i k sz : Nat} (hs : zs.size = sz) (hi : i < n) (hk : k < sz) : (Builtin.zeroCells zs n).toList[i * sz + k]? = zs.toList[k]? := by
 have hlt : i * sz + k < n * sz := by
  have : (i + 1) * sz ≤ n * sz := Nat.mul_le_mul_right _ hi
  rw [Nat.succ_mul] at this; omega
 rw [Array.getElem?_toList, Builtin.zeroCells, Array.getElem?_map, Array.getElem?_range, hs, if_pos hlt]
 have hmod : (i * sz + k) % sz = k := by rw [Nat.mul_comm, Nat.mul_add_mod, Nat.mod_eq_of_lt hk]
 have hk' : k < zs.size := by omega
 simp only [Option.map_some, hmod]
 rw [Array.getElem?_toList, Array.getElem?_eq_getElem hk', getElem!_pos zs k hk']

theorem s_clear {d d' : List α} {l m : Int} {z : α} {hv : Value} {S : List Nat} {j : Nat} (hd : slM d l m = some d') (hu : P.underlying t = some (.slice e)) (h : ElT P e ρ bytes) (hz : ZeroT P e ρ z)
  (hx : lkO Γ x = some (pv (subV hv ρ.size l.toNat m.toNat))) (hj : Ω[j]? = some (oa ρ hv S d)) :
  St P E N (.call ⟨.builtin .clear, #[x], #[t]⟩) ty Γ Ω [j] (fun _ : Unit => pv (.tuple #[])) (fun _ => Ω.set j (oa ρ hv S (d.take l.toNat ++ List.replicate (m.toNat - l.toNat) z ++ d.drop m.toNat))) := by
 intro a w hs
 obtain ⟨h0, h1, h2, rfl⟩ := slM_some hd
 have hvx : a.eval x = subV hv ρ.size l.toNat m.toNat := hs.op hx
 obtain ⟨ad, c, rfl, hc, hob⟩ := hs.objAt hj
 obtain ⟨i, zv, hi, hzz, hzs⟩ := hz
 obtain ⟨i', hi', his, hib, z', hz', hzsz⟩ := h.info
 rw [hi] at hi'; cases hi'
 rw [hzz] at hz'; cases hz'
 obtain ⟨l, rfl⟩ := Int.eq_ofNat_of_zero_le h0
 obtain ⟨m, rfl⟩ := Int.eq_ofNat_of_zero_le (Int.le_trans h0 h1)
 simp only [Int.toNat_natCast] at hvx ⊢
 have e1 : l ≤ m := by omega
 have e2 : m ≤ d.length := by omega
 by_cases hlm : m = l
 ·have hsame : d.take l ++ List.replicate (m - l) z ++ d.drop m = d := by rw [hlm]; simp
  rw [hsame]
  refine opwp_val (v := .tuple #[]) (w' := w) (fun o ho _ => ?_) ⟨(), by rw [set_same hj]; exact hs, rfl, Nat.le_refl _, fun _ _ _ => rfl, fun b _ hb => by rw [set_same hj] at hb; exact hb⟩
  have : (Builtin.clear_ #[t] o.type #[a.eval x]).run P w = .ok (.tuple #[]) w := by
   rw [hvx]
   simp only [subV, hlm, Nat.sub_self]
   unfold Builtin.clear_
   simp [run_underlying hu]
   split <;> simp_all
  simp [execOp, ho, resolve, invoke, builtin, this]
 ·rcases hob with ⟨rfl, _, rfl⟩ | ⟨b, off, cells, ct, rfl, rfl, hb, hsz, hH⟩
  ·omega
  ·have hcl : c ≠ l := by omega
   have hle : m * ρ.size ≤ c * ρ.size := Nat.mul_le_mul_right _ (by omega)
   have hms : (m - l) * ρ.size + l * ρ.size = m * ρ.size := by rw [← Nat.add_mul]; congr 1; omega
   have hzl : (Builtin.zeroCells zv.cells (m - l)).size = (m - l) * ρ.size := by simp [Builtin.zeroCells, hzsz]
   have hat : ∀ u ∈ (Builtin.zeroCells zv.cells (m - l)).toList, u.oneCell' = true := by
    intro u hu
    have hall := hzs (fun _ => True) w
    have hz1 := hall.atoms (ρ.at_ z)
    obtain ⟨q, hq, rfl⟩ := List.mem_iff_getElem.1 hu
    have hq' : q < (m - l) * ρ.size := by simpa [hzl] using hq
    have hp := h.pos
    have hg := zero_get (zs := zv.cells) (n := m - l) (i := q / ρ.size) (k := q % ρ.size) hzsz (Nat.div_lt_of_lt_mul (by rw [Nat.mul_comm]; exact hq')) (Nat.mod_lt _ hp)
    rw [Nat.mul_comm, Nat.div_add_mod, List.getElem?_eq_getElem hq] at hg
    exact hz1 _ (List.mem_of_getElem? hg.symm)
   have hst := run_storeCells_at P b (off + l * ρ.size) ct (Builtin.zeroCells zv.cells (m - l)).toList 0 cells w hb (by simp [hzl]; omega) hat
   simp only [Nat.add_zero, Array.length_toList, hzl] at hst
   intro o hop ht
   have hr : (execOp a.eval o).run P w = .ok (.value (.tuple #[])) (w.setRow b (cells.toList.take (off + l * ρ.size) ++ (Builtin.zeroCells zv.cells (m - l)).toList ++ cells.toList.drop (off + l * ρ.size + (m - l) * ρ.size)).toArray) := by
    have hc1 : (Builtin.clear_ #[t] o.type #[a.eval x]).run P w = .ok (.tuple #[]) (w.setRow b (cells.toList.take (off + l * ρ.size) ++ (Builtin.zeroCells zv.cells (m - l)).toList ++ cells.toList.drop (off + l * ρ.size + (m - l) * ρ.size)).toArray) := by
     rw [hvx]
     obtain ⟨k, hk⟩ : ∃ k, m - l = k + 1 := ⟨m - l - 1, by omega⟩
     simp only [subV, if_neg hcl, Option.map_some, addr_add]
     rw [hk] at hst ⊢
     unfold Builtin.clear_
     simp [run_underlying hu, zeroValue, typeInfo, hi, hzz, hst]
    simp [execOp, hop, resolve, invoke, builtin, hc1]
   rw [hr]
   refine ⟨(), ?_, rfl, by simp, fun b' hb' hn' => setRow_other w b b' _ fun e => hn' j (by simp) _ hj (by rw [e]; simp [oa]), own_set hj fun b hb => .inl hb⟩
   refine hs.upd hj ⟨rfl, rfl, rfl, by first | exact fun _ => Nat.le_refl _ | exact fun _ => Nat.le_add_right _ _⟩ (by simp) (fun b' _ hn' => setRow_other w b b' _ fun e => hn' (by rw [e]; simp [oa])) (fun b' hb' => .inl hb') (by simp [oa]) ?_
   have hlen : (d.take l ++ List.replicate (m - l) z ++ d.drop m).length = d.length := by simp; omega
   have hag : Ag (fr E Ω) (fr E (Ω.set j (oa ρ (.slice (some ⟨b, off, none⟩) d.length c) [b] (d.take l ++ List.replicate (m - l) z ++ d.drop m)))) w
     (w.setRow b (cells.toList.take (off + l * ρ.size) ++ (Builtin.zeroCells zv.cells (m - l)).toList ++ cells.toList.drop (off + l * ρ.size + (m - l) * ρ.size)).toArray) :=
    ⟨fun b' _ hf => fr_set hj hf fun hm => hf.2 (Sat.notin hj (b := b') hm), fun b' _ hf => setRow_other w b b' _ fun e => hf.2 (Sat.notin hj (b := b') (by rw [e]; simp [oa]))⟩
   have hll : cells.toList.length = cells.size := Array.length_toList
   have hzl' : (Builtin.zeroCells zv.cells (m - l)).toList.length = (m - l) * ρ.size := by rw [Array.length_toList, hzl]
   have htk : (cells.toList.take (off + l * ρ.size)).length = off + l * ρ.size := by rw [List.length_take]; omega
   refine ⟨some ⟨b, off, none⟩, c, by rw [hlen], by rw [hlen]; exact hc, .inr ⟨b, off, _, ct, rfl, rfl, setRow_heap w b cells _ ct (0, 0) hb, ?_, ?_⟩⟩
   ·simp only [List.size_toArray, List.length_append, List.length_take, List.length_drop, Array.length_toList, hzl]; omega
   ·intro q hq
    rw [hlen] at hq
    have hle2 : (q + 1) * ρ.size ≤ c * ρ.size := Nat.mul_le_mul_right _ (by omega)
    rw [Nat.succ_mul] at hle2
    by_cases hq1 : q < l
    ·obtain ⟨es, hes, hcs⟩ := hH q hq
     have hl2 : (q + 1) * ρ.size ≤ l * ρ.size := Nat.mul_le_mul_right _ hq1
     rw [Nat.succ_mul] at hl2
     refine ⟨es, ?_, fun k hk => ?_⟩
     ·have : (d.take l ++ List.replicate (m - l) z ++ d.drop m)[q] = d[q] := by
       rw [List.getElem_append_left (by simp; omega), List.getElem_append_left (by simp; omega), List.getElem_take]
      rw [this]; exact hes.mono hag
     ·rw [← hcs k hk, List.getElem?_toArray, List.append_assoc, List.getElem?_append_left (by omega), List.getElem?_take, if_pos (by omega)]; simp
    ·by_cases hq2 : q < m
     ·refine ⟨zv.cells.toList, ?_, fun k hk => ?_⟩
      ·have : (d.take l ++ List.replicate (m - l) z ++ d.drop m)[q] = z := by
        rw [List.getElem_append_left (by simp; omega), List.getElem_append_right (by simp; omega), List.getElem_replicate]
       rw [this]; exact hzs _ _
      ·have hm2 : (q + 1) * ρ.size ≤ m * ρ.size := Nat.mul_le_mul_right _ hq2
       have hl2 : l * ρ.size ≤ q * ρ.size := Nat.mul_le_mul_right _ (by omega)
       rw [Nat.succ_mul] at hm2
       have hql : (q - l) * ρ.size + l * ρ.size = q * ρ.size := by rw [← Nat.add_mul]; congr 1; omega
       rw [List.getElem?_toArray, List.append_assoc, List.getElem?_append_right (by omega), htk, List.getElem?_append_left (by omega),
        show off + q * ρ.size + k - (off + l * ρ.size) = (q - l) * ρ.size + k from by omega]
       exact zero_get hzsz (by omega) hk
     ·obtain ⟨es, hes, hcs⟩ := hH q hq
      have hm2 : m * ρ.size ≤ q * ρ.size := Nat.mul_le_mul_right _ (by omega)
      refine ⟨es, ?_, fun k hk => ?_⟩
      ·have : (d.take l ++ List.replicate (m - l) z ++ d.drop m)[q] = d[q] := by
        rw [List.getElem_append_right (by simp; omega), List.getElem_drop]
        congr 1; simp; omega
       rw [this]; exact hes.mono hag
      ·rw [← hcs k hk, List.getElem?_toArray, List.getElem?_append_right (by rw [List.length_append, htk, hzl']; omega), List.length_append, htk, hzl', List.getElem?_drop]
       simp
       congr 1; omega
end

section
variable {α : Type} {e t : TypeId} {ρ : Rep α} {bytes : Nat} {x : Operand}
end

section
variable {K : KT R} {m : Option R} {ops : Array Oper} {rest : List Oper}
theorem mv1 {x : Operand} {d : Nat} {φ : RP} {pos : String} {aft : Array Edge} (hx : lkO Γ x = some φ) (hd : Nat.blt d N = true) (h : RefL P E N m ops rest ((d, φ) :: Γ) Ω K) : RefL P E N m ops (⟨some d, .move x, ty, pos, aft, none⟩ :: rest) Γ Ω K := s_rd (r_move hx) hd h
theorem as1 {x : Operand} {d : Nat} {φ : RP} {pos : String} {aft : Array Edge} (hx : lkO Γ x = some φ) (hd : Nat.blt d N = true) (h : RefL P E N m ops rest ((d, φ) :: Γ) Ω K) : RefL P E N m ops (⟨some d, .assign x, ty, pos, aft, none⟩ :: rest) Γ Ω K := s_rd (r_assign hx) hd h
end
end Go.Dc

namespace Go.Dc
variable [DrawMode]
variable {P : Program} {α : Type} [DecidableEq α] {ρ : Rep α}

def EqAs (P : Program) (e : TypeId) : List Value → List Value → Bool → Prop
 | [], [], r => r = true
 | x :: xs, y :: ys, r => ∃ b r', EqC P e x y b ∧ EqAs P e xs ys r' ∧ r = (b && r')
 | _, _, _ => False

theorem EqAs.run {e : TypeId} (hg : ∀ w, (isAgg e).run P w = .ok false w) : ∀ {xs ys : List Value} {r : Bool}, EqAs P e xs ys r → ∀ (X Y : List Value) (k : Nat), X.drop k = xs → Y.drop k = ys →
  ∀ (d : Nat) (w : World), (Op.eqItems (d + 1) e 1 ⟨X⟩ ⟨Y⟩ (List.range' k xs.length)).run P w = .ok r w
 | [], [], _, h, _, _, _, _, _, _, _ => by rw [show _ = true from h]; simp [Op.eqItems]
 | x :: xs, y :: ys, r, ⟨b, r', h4, h5, h6⟩, X, Y, k, hX, hY, d, w => by
  have hx : X[k]? = some x := by
   have e : (X.drop k)[0]? = some x := by rw [hX]; rfl
   rwa [List.getElem?_drop, Nat.add_zero] at e
  have hy : Y[k]? = some y := by
   have e : (Y.drop k)[0]? = some y := by rw [hY]; rfl
   rwa [List.getElem?_drop, Nat.add_zero] at e
  have hX' : X.drop (k + 1) = xs := by rw [← List.drop_drop, hX]; rfl
  have hY' : Y.drop (k + 1) = ys := by rw [← List.drop_drop, hY]; rfl
  have hr := EqAs.run hg h5 X Y (k + 1) hX' hY' d w
  simp only [List.length_cons, List.range'_succ, Op.eqItems]
  simp [part, hg, hx, hy, h4.run, hr, h6]
  cases b <;> simp
 | [], _ :: _, _, h, _, _, _, _, _, _, _ => h.elim
 | _ :: _, [], _, h, _, _, _, _, _, _, _ => h.elim

theorem eqT_array {t e : TypeId} {n : Nat} {i : TypeInfo} (hu : P.underlying t = some (.array n e)) (hi : P.info? e = some i) (h1 : i.size = 1) (hga : ∀ w, (isAgg e).run P w = .ok false w) (hg : P.eqGuardType P.depth t = false)
  (h : ∀ (x y : α) (F : FP) (w : World) (cs ds : List Value), AllP F w (ρ.cp x) cs → AllP F w (ρ.cp y) ds → cs.length = n ∧ ∃ r, EqAs P e cs ds r ∧ r = decide (x = y)) : EqT P t ρ := ⟨hg, fun x y F w cs ds hc hd w' => by
 obtain ⟨hl, r, h3, h4⟩ := h x y F w cs.toList ds.toList hc hd
 show (Op.equalIn (9998 + 1 + 1) t (.agg cs) (.agg ds)).run P w' = _
 have hcs : P.cellsOf e = 1 := by simp [Program.cellsOf, hi, h1]
 rw [run_equalIn_array _ _ _ _ hu hi, ← h4, hcs, List.range_eq_range', ← hl]
 exact h3.run hga cs.toList ds.toList 0 rfl rfl _ _⟩
end Go.Dc

namespace Go.Dc
variable [DrawMode]
variable {R : Type} {P : Program} {E : Env} {N : Nat} {Γ : List (Nat × RP)} {Ω : List OB} {ty : TypeId}

end Go.Dc

namespace Go.Dc
variable [DrawMode]
open Go.ChangeShapes Go.WideShapes Go.RowKit
variable {P : Program}

theorem calls_trueT {X : Type} {f : FuncId} {φs : List RP} {W : World} {args : Array Value} {Ω0 : List OB} {res : X → List RP} {Ω1 : X → List OB} (h : FnOk P f φs Ω0 res Ω1) (hr : ∀ x, res x = [bv true]) (hS : ow Ω0 = []) (htb : TInv (fun _ => True) W)
  (hob : ∀ o ∈ Ω0, o.h (fun _ => True) W) (ha : AllP (fun _ => True) W φs args.toList) : Calls P f args W fun e W' => e = .returned (.bool true) ∧ Kept [] W W' := by
 have h1 := h (fun _ => True) W args.toList (fun _ _ => trivial) (fun _ _ => trivial) (fun b hb => by rw [hS] at hb; simp at hb) (by rw [hS]; simp)
  (fun o ho => o.mono (.refl fun b _ _ => ⟨trivial, by rw [hS]; simp⟩) (fun _ _ => rfl) (hob o ho)) (AllP.mono (.refl fun b _ _ => ⟨trivial, by rw [hS]; simp⟩) ha) (htb.mono fun b _ _ => ⟨⟨trivial, by rw [hS]; simp⟩, rfl⟩)
 refine h1.mono fun e W' ⟨x, v, he, hk, _, _, _, hv⟩ => ?_
 rw [hr] at hv
 rw [hS] at hk
 exact ⟨by rw [he]; exact congrArg _ hv, hk⟩
end Go.Dc

set_option linter.unusedVariables false
namespace Go.Dc
open Go.ChangeShapes Go.WideShapes Go.RowKit
variable {P : Program}

end Go.Dc

namespace Go.Dc
variable [DrawMode]
variable {R S : Type} {P : Program} {E : Env} {N : Nat} {Γ Γ' : List (Nat × RP)} {Ω Ω' : List OB} {ty : TypeId} {α β : Type} {ρ : Rep α}

def oea (ρ : Rep α) : Option α → RP
 | none => pv (.pointer none)
 | some x => ea ρ x

theorem oea_ptr {o : Option α} {F : FP} {w : World} {v : Value} (h : (oea ρ o).h F w v) : ∃ p, v = .pointer p ∧ p.isSome = o.isSome := by
 cases o with
 | none => exact ⟨none, h, rfl⟩
 | some x => obtain ⟨b, off, _, _, _, _, hv, _⟩ := h; exact ⟨_, hv, rfl⟩

theorem Sat.freezeO {a : Act} {w : World} {j : Nat} {o : OB} (hs : Sat E N Γ Ω a w) (hj : Ω[j]? = some o) : Sat E N Γ (Ω.set j dead) a w := by
 obtain ⟨A, B, rfl, rfl⟩ := ow_split hj
 have hsub : ∀ b, b ∈ ow (A ++ dead :: B) → b ∈ ow (A ++ o :: B) := fun b hb => by
  rw [ow_mid] at hb ⊢
  simp [dead] at hb
  simp only [List.mem_append]
  exact hb.imp id .inr
 rw [set_split]
 have hf : ∀ b, b < w.heap.size → fr E (A ++ o :: B) b → fr E (A ++ dead :: B) b := fun _ _ ⟨h1, h2⟩ => ⟨h1, fun hb => h2 (hsub _ hb)⟩
 refine ⟨hs.sz, hs.df, fun t φ ht => φ.mono (.refl hf) (hs.sl t φ ht), fun q hq => ?_, ?_, fun b hb => hs.bd b (hsub b hb), hs.kp, hs.fs⟩
 ·rcases List.mem_append.1 hq with h | h
  ·exact q.mono (.refl hf) (fun _ _ => rfl) (hs.ob q (by simp [h]))
  ·rcases List.mem_cons.1 h with h | h
   ·subst h; exact trivial
   ·exact q.mono (.refl hf) (fun _ _ => rfl) (hs.ob q (by simp [h]))
 ·have := hs.nd
  rw [ow_mid] at this ⊢
  simp only [dead, List.nil_append]
  exact this.sublist (List.Sublist.append (List.Sublist.refl _) (List.sublist_append_right _ _))

theorem r_optc {x : Operand} {o : Option α} {y : α} (h : o = some y) (hx : lkO Γ x = some (oea ρ o)) : Rd P E N (.nilCheck x) ty Γ Ω [] (ea ρ y) := .mk fun a w hs => by
 subst h
 have h1 : (ea ρ y).h (fr E Ω) w (a.eval x) := hs.op hx
 obtain ⟨b, off, cells, ty', fz, es, hv, h2⟩ := h1
 exact ⟨_, ⟨b, off, cells, ty', fz, es, hv, h2⟩, fun w' o ho _ => by simp [execOp, ho, hv]⟩

theorem r_optneq {t e : Nat} {yt : TypeId} {x y : Operand} {o : Option α} (hu : P.underlying t = some (.pointer e)) (hx : lkO Γ x = some (oea ρ o)) (hy : lkO Γ y = some (pv (.pointer none))) :
  Rd P E N (.binOp .neq t x y yt) ty Γ Ω [] (bv o.isSome) := .mk fun a w hs => by
 obtain ⟨p, h1, hp⟩ := oea_ptr (hs.op hx)
 have h2 : a.eval y = .pointer none := hs.op hy
 refine ⟨_, rfl, fun w' o' ho _ => ?_⟩
 have he : (Op.equal t (.pointer p) (.pointer none)).run P w' = .ok p.isNone w' := by
  unfold Op.equal
  rw [show Op.maxDepth = 9999 + 1 from rfl, Op.equalIn, Sem.run_bind, run_underlying hu]
  cases p <;> rfl
 have hg : (eqGuard .neq t x y (.pointer p) (.pointer none)).run P w' = .ok () w' := by unfold eqGuard; cases p <;> rfl
 have hb : binOp .neq t (.pointer p) (.pointer none) = (do pure (.bool (!(← Op.equal t (.pointer p) (.pointer none))))) := rfl
 rw [← hp]
 simp [execOp, ho, h1, h2, hg, hb, he]
end Go.Dc

namespace Go.Dc
variable [DrawMode] {P : Program} {E : Env} {N : Nat} {Γ : List (Nat × RP)} {Ω Ω' : List OB} {a : Act} {w : World} {α : Type}

structure Sb where
 v : Value
 S : List Nat
 one : v.oneCell' = true
def rH : Rep Sb := one (fun s => pv s.v) fun s => pv_at s.one
def subL (sub : Nat → Sb) (n : Nat) : List Sb := (List.range n).map sub
theorem subL_len {sub : Nat → Sb} {n : Nat} : (subL sub n).length = n := by simp [subL]
theorem subL_get {sub : Nat → Sb} {n i : Nat} (h : i < (subL sub n).length) : (subL sub n)[i] = sub i := by simp [subL]

def od (ρ : Rep α) (hv : Value) (S0 : List Nat) (sub : Nat → Sb) (d : List (List α)) : OB where
 S := S0 ++ (List.range d.length).flatMap fun i => (sub i).S
 h := fun F w => (oa rH hv S0 (subL sub d.length)).h F w ∧ ∀ i (hi : i < d.length), (oa ρ (sub i).v (sub i).S d[i]).h F w
 mono := by
  rintro F F' w w' ag hs ⟨h1, h2⟩
  refine ⟨(oa rH hv S0 (subL sub d.length)).mono ag (fun b hb => hs b (List.mem_append_left _ hb)) h1, fun i hi => (oa ρ (sub i).v (sub i).S d[i]).mono ag (fun b hb => hs b (List.mem_append_right _ ?_)) (h2 i hi)⟩
  exact List.mem_flatMap.2 ⟨i, List.mem_range.2 hi, hb⟩
def oh (ρ : Rep α) (hv : Value) (S0 : List Nat) (sub : Nat → Sb) (k : Nat) (d : List (List α)) : OB where
 S := S0 ++ (List.range d.length).flatMap fun i => if i = k then [] else (sub i).S
 h := fun F w => (oa rH hv S0 (subL sub d.length)).h F w ∧ ∀ i (hi : i < d.length), i ≠ k → (oa ρ (sub i).v (sub i).S d[i]).h F w
 mono := by
  rintro F F' w w' ag hs ⟨h1, h2⟩
  refine ⟨(oa rH hv S0 (subL sub d.length)).mono ag (fun b hb => hs b (List.mem_append_left _ hb)) h1, fun i hi hne => (oa ρ (sub i).v (sub i).S d[i]).mono ag (fun b hb => hs b (List.mem_append_right _ ?_)) (h2 i hi hne)⟩
  exact List.mem_flatMap.2 ⟨i, List.mem_range.2 hi, by rw [if_neg hne]; exact hb⟩

theorem flat_split {f : Nat → List Nat} {k : Nat} : ∀ {n : Nat}, k < n → ((List.range n).flatMap f).Perm (((List.range n).flatMap fun i => if i = k then [] else f i) ++ f k)
 | 0, h => absurd h (Nat.not_lt_zero k)
 | n + 1, h => by
  rw [List.range_succ, List.flatMap_append, List.flatMap_append]
  simp only [List.flatMap_cons, List.flatMap_nil, List.append_nil]
  by_cases e : k = n
  ·subst e
   rw [if_pos rfl, List.append_nil]
   have : (List.range k).flatMap f = (List.range k).flatMap fun i => if i = k then [] else f i := by
    rw [List.flatMap_def, List.flatMap_def]
    congr 1
    refine List.map_congr_left fun i hi => ?_
    rw [if_neg (by have := List.mem_range.1 hi; omega)]
   rw [this]
  ·rw [if_neg (by omega)]
   have ih := flat_split (f := f) (k := k) (n := n) (by omega)
   refine (ih.append_right _).trans ?_
   rw [List.append_assoc, List.append_assoc]
   exact List.perm_append_comm.append_left _

theorem Sat.perm (hs : Sat E N Γ Ω a w) (hp : (ow Ω').Perm (ow Ω)) (ho : ∀ o ∈ Ω', o.h (fr E Ω) w) : Sat E N Γ Ω' a w := by
 have ef : fr E Ω' = fr E Ω := by
  funext b
  simp only [fr]
  exact propext (and_congr Iff.rfl (not_congr hp.mem_iff))
 exact ⟨hs.sz, hs.df, by rw [ef]; exact hs.sl, by rw [ef]; exact ho, hp.nodup_iff.2 hs.nd, fun b hb => hs.bd b (hp.mem_iff.1 hb), hs.kp, hs.fs⟩
theorem ow_set_perm {j : Nat} {o o' : OB} (hj : Ω[j]? = some o) : (ow (Ω.set j o') ++ o.S).Perm (ow Ω ++ o'.S) := by
 obtain ⟨A, B, rfl, rfl⟩ := ow_split hj
 rw [set_split, ow_mid, ow_mid]
 simp only [List.append_assoc]
 refine List.Perm.append_left _ ?_
 refine (List.perm_append_comm (l₁ := o'.S) (l₂ := ow B ++ o.S)).trans ?_
 simp only [List.append_assoc]
 refine (List.perm_append_comm (l₁ := ow B) (l₂ := o.S ++ o'.S)).trans ?_
 simp only [List.append_assoc]
 refine List.Perm.append_left _ ?_
 exact List.perm_append_comm
theorem set_mem {j : Nat} {o' o : OB} (h : o ∈ Ω.set j o') : o ∈ Ω ∨ o = o' := List.mem_or_eq_of_mem_set h

theorem Sat.open_ {ρ : Rep α} {hv : Value} {S0 : List Nat} {sub : Nat → Sb} {d : List (List α)} {j k : Nat} (hs : Sat E N Γ Ω a w) (hj : Ω[j]? = some (od ρ hv S0 sub d)) (hk : k < d.length) :
  Sat E N Γ (Ω.set j (oh ρ hv S0 sub k d) ++ [oa ρ (sub k).v (sub k).S d[k]]) a w := by
 have h1 := hs.objAt hj
 refine hs.perm ?_ fun o ho => ?_
 ·have p1 := ow_set_perm (o' := oh ρ hv S0 sub k d) hj
  have p2 : (od ρ hv S0 sub d).S.Perm ((oh ρ hv S0 sub k d).S ++ (sub k).S) := by
   show (S0 ++ _).Perm ((S0 ++ _) ++ _)
   rw [List.append_assoc]
   exact (flat_split hk).append_left _
  have p3 : (ow (Ω.set j (oh ρ hv S0 sub k d) ++ [oa ρ (sub k).v (sub k).S d[k]])) = ow (Ω.set j (oh ρ hv S0 sub k d)) ++ (sub k).S := by simp [ow, oa]
  rw [p3]
  refine (List.perm_append_right_iff (oh ρ hv S0 sub k d).S).1 (List.Perm.trans ?_ p1)
  rw [List.append_assoc]
  exact ((List.perm_append_comm).append_left _).trans (p2.symm.append_left _)
 ·rcases List.mem_append.1 ho with ho | ho
  ·rcases set_mem ho with ho | rfl
   ·exact hs.ob o ho
   ·exact ⟨h1.1, fun i hi _ => h1.2 i hi⟩
  ·rw [List.mem_singleton.1 ho]; exact h1.2 k hk
theorem Sat.close_ {ρ : Rep α} {hv : Value} {S0 : List Nat} {sub : Nat → Sb} {d : List (List α)} {x : List α} {j j' k : Nat} (hs : Sat E N Γ Ω a w) (hj : Ω[j]? = some (oh ρ hv S0 sub k d)) (hj' : Ω[j']? = some (oa ρ (sub k).v (sub k).S x)) (hne : j ≠ j') (hk : k < d.length) :
  Sat E N Γ ((Ω.set j (od ρ hv S0 sub (d.set k x))).set j' dead) a w := by
 have h1 := hs.objAt hj
 have h2 := hs.objAt hj'
 have hS : (od ρ hv S0 sub (d.set k x)).S.Perm ((oh ρ hv S0 sub k d).S ++ (sub k).S) := by
  show (S0 ++ (List.range (d.set k x).length).flatMap _).Perm ((S0 ++ _) ++ _)
  rw [List.append_assoc, List.length_set]
  exact (flat_split hk).append_left _
 refine hs.perm ?_ fun o ho => ?_
 ·have p1 := ow_set_perm (o' := od ρ hv S0 sub (d.set k x)) hj
  have p1' : (ow (Ω.set j (od ρ hv S0 sub (d.set k x)))).Perm (ow Ω ++ (sub k).S) := by
   refine (List.perm_append_right_iff (oh ρ hv S0 sub k d).S).1 (p1.trans ?_)
   rw [List.append_assoc]
   exact (hS.append_left _).trans ((List.perm_append_comm).append_left _)
  have hj2 : (Ω.set j (od ρ hv S0 sub (d.set k x)))[j']? = some (oa ρ (sub k).v (sub k).S x) := by rw [List.getElem?_set_ne hne]; exact hj'
  have p2 := ow_set_perm (o' := dead) hj2
  have e1 : (dead).S = [] := rfl
  rw [e1, List.append_nil] at p2
  exact (List.perm_append_right_iff (oa ρ (sub k).v (sub k).S x).S).1 (p2.trans p1')
 ·rcases set_mem ho with ho | rfl
  ·rcases set_mem ho with ho | rfl
   ·exact hs.ob o ho
   ·refine ⟨by rw [List.length_set]; exact h1.1, fun i hi => ?_⟩
    rw [List.length_set] at hi
    by_cases e : i = k
    ·subst e; simp only [List.getElem_set_self]; exact h2
    ·simp only [List.getElem_set_ne (Ne.symm e)]; exact h1.2 i hi e
  ·trivial
end Go.Dc

namespace Go.Dc
variable [DrawMode] {P : Program} {E : Env} {N : Nat} {Γ : List (Nat × RP)} {Ω Ω' : List OB} {ty : TypeId} {α : Type} {ρ : Rep α} {hv : Value} {S0 : List Nat} {sub : Nat → Sb} {d : List (List α)} {j : Nat}

theorem od_sl {F F' : FP} {w : World} (h : (od ρ hv S0 sub d).h F w) (hF : ∀ b, b < w.heap.size → F b → F' b) (hS : ∀ b ∈ (od ρ hv S0 sub d).S, F' b) : (slv (rSl ρ) d).h F' w hv := by
 obtain ⟨h1, h2⟩ := h
 obtain ⟨ad, c, rfl, hc, hat⟩ := h1
 rw [subL_len] at hc
 refine ⟨ad, c, by rw [subL_len], hc, fun hd => ?_⟩
 rcases hat with ⟨rfl, _, rfl⟩ | ⟨b, off, cells, ty', rfl, rfl, hb, hsz, hH⟩
 ·exact absurd (List.eq_nil_of_length_eq_zero (by omega)) hd
 ·refine ⟨b, off, cells, ty', (0, 0), rfl, hS b (List.mem_append_left _ (by simp)), hb, fun i hi => ?_⟩
  obtain ⟨es, e1, e2⟩ := hH i (by rw [subL_len]; exact hi)
  rw [subL_get] at e1
  refine ⟨es, ?_, e2⟩
  match es, e1 with
  | [v], ⟨e3, _⟩ =>
   have e3' : v = (sub i).v := e3
   subst e3'
   refine ⟨oa_sl (h2 i hi) hF fun b' hb' => hS b' (List.mem_append_right _ (List.mem_flatMap.2 ⟨i, List.mem_range.2 hi, hb'⟩)), trivial⟩

class OuterO (o : OB) (hv : Value) (S0 : List Nat) (sub : Nat → Sb) (n : Nat) : Prop where
 ob : ∀ F w, o.h F w → (oa rH hv S0 (subL sub n)).h F w
 S : ∀ b ∈ S0, b ∈ o.S
instance : OuterO (od ρ hv S0 sub d) hv S0 sub d.length := ⟨fun F w h => h.1, fun b hb => List.mem_append_left _ hb⟩
instance {k : Nat} : OuterO (oh ρ hv S0 sub k d) hv S0 sub d.length := ⟨fun F w h => h.1, fun b hb => List.mem_append_left _ hb⟩

variable {e : TypeId} {o : OB} {n : Nat}
theorem r_dindex [hO : OuterO o hv S0 sub n] {bytes : Nat} {t : TypeId} {x i : Operand} {k : IntKind} {m : Int} (h0 : 0 ≤ m) (hlt : m < (n : Int)) (hu : P.underlying t = some (.slice e)) (h : ElT P e rH bytes)
  (hx : lkO Γ x = some (pv hv)) (hj : Ω[j]? = some o) (hi : lkO Γ i = some (iv k m)) : Rd P E N (.indexAddr t x i) ty Γ Ω [] (pv (elA hv rH.size m)) := .mk fun a w hs => by
 have hv' : a.eval x = hv := hs.op hx
 obtain ⟨ad, c, rfl, hc, hat⟩ := hO.ob _ _ (hs.objAt hj)
 have hm : m < ((subL sub n).length : Int) := by rw [subL_len]; exact hlt
 have h2 : a.eval i = .int k m := hs.op hi
 rcases hat with ⟨rfl, _, rfl⟩ | ⟨b, off, cells, ty', rfl, hS, hb, hsz, hH⟩
 ·rw [subL_len] at hc; omega
 ·refine ⟨_, rfl, fun w' o ho _ => ?_⟩
  simp [execOp, ho, hv', h2, run_index hu h h0 hm, elA, addr_add]
theorem r_dload [hO : OuterO o hv S0 sub n] {bytes : Nat} {x : Operand} {m : Int} (h0 : 0 ≤ m) (hlt : m < (n : Int)) (h : ElT P e rH bytes) (hx : lkO Γ x = some (pv (elA hv rH.size m)))
  (hj : Ω[j]? = some o) : Rd P E N (.load e x) ty Γ Ω [j] (pv (sub m.toNat).v) := fun a w hs => by
 have hv' : a.eval x = elA hv rH.size m := hs.op hx
 obtain ⟨ad, c, rfl, hc, hat⟩ := hO.ob _ _ (hs.objAt hj)
 rcases hat with ⟨rfl, _, rfl⟩ | ⟨b, off, cells, ty', rfl, hS, hb, hsz, hH⟩
 ·rw [subL_len] at hc; omega
 ·obtain ⟨es, hes, hcs⟩ := hH m.toNat (by rw [subL_len]; omega)
  rw [subL_get] at hes
  match es, hes with
  | [v], ⟨e3, _⟩ =>
   have e3' : v = (sub m.toNat).v := e3
   subst e3'
   refine ⟨_, [b], rfl, ?_, fun w' hw' o ho _ => ?_⟩
   ·intro b' hb'; rw [List.mem_singleton.1 hb']; exact ⟨size_of_get hb, .inr ⟨j, by simp, _, hj, hO.S b (by rw [hS]; simp)⟩⟩
   ·have hb2 : w'.heap[b]? = some (.cells cells ty' (0, 0)) := by rw [hw' b (by simp)]; exact hb
    have this : (loadVar e ⟨b, off + m.toNat * rH.size, none⟩).run P w' = .ok (sub m.toNat).v w' := h.load hb2 (by rfl) hcs
    simp [execOp, ho, hv', elA, addr_add, Instr.loadAt, Instr.sureAddr, this]

def updS (sub : Nat → Sb) (k : Nat) (s : Sb) : Nat → Sb := fun i => if i = k then s else sub i
theorem updS_at {sub : Nat → Sb} {k : Nat} {s : Sb} : updS sub k s k = s := by simp [updS]
theorem updS_ne {sub : Nat → Sb} {k i : Nat} {s : Sb} (h : i ≠ k) : updS sub k s i = sub i := by simp [updS, h]
def inh (ρ : Rep α) (sub : Nat → Sb) (k : Nat) (d : List (List α)) : OB where
 S := (List.range d.length).flatMap fun i => if i = k then [] else (sub i).S
 h := fun F w => ∀ i (hi : i < d.length), i ≠ k → (oa ρ (sub i).v (sub i).S d[i]).h F w
 mono := by
  rintro F F' w w' ag hs h2
  refine fun i hi hne => (oa ρ (sub i).v (sub i).S d[i]).mono ag (fun b hb => hs b ?_) (h2 i hi hne)
  exact List.mem_flatMap.2 ⟨i, List.mem_range.2 hi, by rw [if_neg hne]; exact hb⟩
theorem inh_upd {k : Nat} {s : Sb} : inh ρ (updS sub k s) k d = inh ρ sub k d := by
 have e1 : ((List.range d.length).flatMap fun i => if i = k then [] else (updS sub k s i).S) = (List.range d.length).flatMap fun i => if i = k then [] else (sub i).S := by
  congr 1
  funext i
  split
  ·rfl
  ·rename_i h; rw [updS_ne h]
 have e2 : (fun (F : FP) (w : World) => ∀ i (hi : i < d.length), i ≠ k → (oa ρ (updS sub k s i).v (updS sub k s i).S d[i]).h F w) = fun F w => ∀ i (hi : i < d.length), i ≠ k → (oa ρ (sub i).v (sub i).S d[i]).h F w := by
  funext F w
  refine propext ⟨fun h i hi hne => ?_, fun h i hi hne => ?_⟩
  ·have := h i hi hne; rwa [updS_ne hne] at this
  ·have := h i hi hne; rwa [updS_ne hne]
 unfold inh
 congr 1
theorem set_set' {o o' : OB} : (Ω.set j o).set j o' = Ω.set j o' := by rw [List.set_set]
theorem set_mem' {o o' : OB} (h : o ∈ Ω.set j o') : o = o' ∨ ∃ i, i ≠ j ∧ Ω[i]? = some o := by
 obtain ⟨i, hi, e⟩ := List.getElem_of_mem h
 rw [List.length_set] at hi
 by_cases c : i = j
 ·subst c; left; rw [← e, List.getElem_set_self]
 ·right; exact ⟨i, c, by rw [List.getElem_set_ne (Ne.symm c)] at e; rw [List.getElem?_eq_getElem hi, e]⟩
theorem Sat.splitH {k : Nat} {a : Act} {w : World} (hs : Sat E N Γ Ω a w) (hj : Ω[j]? = some (oh ρ hv S0 sub k d)) :
  Sat E N Γ (Ω.set j (oa rH hv S0 (subL sub d.length)) ++ [inh ρ sub k d]) a w := by
 have h1 := hs.objAt hj
 refine hs.perm ?_ fun o ho => ?_
 ·have p1 := ow_set_perm (o' := oa rH hv S0 (subL sub d.length)) hj
  have p3 : (ow (Ω.set j (oa rH hv S0 (subL sub d.length)) ++ [inh ρ sub k d])) = ow (Ω.set j (oa rH hv S0 (subL sub d.length))) ++ (inh ρ sub k d).S := by simp [ow]
  rw [p3]
  refine (List.perm_append_right_iff S0).1 ?_
  have e : (oh ρ hv S0 sub k d).S = S0 ++ (inh ρ sub k d).S := rfl
  rw [e] at p1
  rw [List.append_assoc]
  exact ((List.perm_append_comm).append_left _).trans p1
 ·rcases List.mem_append.1 ho with ho | ho
  ·rcases set_mem ho with ho | rfl
   ·exact hs.ob o ho
   ·exact h1.1
  ·rw [List.mem_singleton.1 ho]; exact h1.2
theorem Sat.joinH {k : Nat} {a : Act} {w : World} {o0 : OB} (hj : Ω[j]? = some o0) (hs : Sat E N Γ (Ω.set j (oa rH hv S0 (subL sub d.length)) ++ [inh ρ sub k d]) a w) :
  Sat E N Γ (Ω.set j (oh ρ hv S0 sub k d)) a w := by
 have hlt := (List.getElem?_eq_some_iff.1 hj).1
 have hA : (Ω.set j (oa rH hv S0 (subL sub d.length)) ++ [inh ρ sub k d])[j]? = some (oa rH hv S0 (subL sub d.length)) := by
  rw [List.getElem?_append_left (by simpa using hlt), List.getElem?_set_self hlt]
 have h1 := hs.objAt hA
 have h2 := hs.ob (inh ρ sub k d) (List.mem_append_right _ (by simp))
 refine hs.perm ?_ fun o ho => ?_
 ·have hB : (Ω.set j (oa rH hv S0 (subL sub d.length)))[j]? = some (oa rH hv S0 (subL sub d.length)) := List.getElem?_set_self hlt
  have p1 := ow_set_perm (o' := oh ρ hv S0 sub k d) hB
  rw [set_set'] at p1
  have p3 : (ow (Ω.set j (oa rH hv S0 (subL sub d.length)) ++ [inh ρ sub k d])) = ow (Ω.set j (oa rH hv S0 (subL sub d.length))) ++ (inh ρ sub k d).S := by simp [ow]
  rw [p3]
  refine (List.perm_append_right_iff S0).1 (p1.trans ?_)
  have e : (oh ρ hv S0 sub k d).S = S0 ++ (inh ρ sub k d).S := rfl
  rw [e, List.append_assoc]
  exact (List.perm_append_comm).append_left _
 ·rcases set_mem' ho with rfl | ⟨i, hi, ho⟩
  ·exact ⟨h1, h2⟩
  ·exact hs.ob o (List.mem_append_left _ (List.mem_of_getElem? (by rw [List.getElem?_set_ne (Ne.symm hi)]; exact ho)))

theorem subL_set {k : Nat} {s : Sb} {n : Nat} : (subL sub n).set k s = subL (updS sub k s) n := by
 refine List.ext_getElem (by simp [subL]) fun i h1 h2 => ?_
 rw [subL_get]
 by_cases c : i = k
 ·subst c; rw [List.getElem_set_self, updS_at]
 ·rw [List.getElem_set_ne (Ne.symm c), subL_get, updS_ne c]
theorem s_dstore {k : Int} {bytes : Nat} {x y : Operand} {v : Value} {S : List Nat} {z : List α} {j' : Nat} (h0 : 0 ≤ k) (hlt : k < (d.length : Int)) (h : ElT P e rH bytes)
  (hx : lkO Γ x = some (pv (elA hv rH.size k))) (hj : Ω[j]? = some (oh ρ hv S0 sub k.toNat d)) (hj' : Ω[j']? = some (oa ρ v S z)) (hne : j ≠ j') (hv1 : v.oneCell' = true) (hy : lkO Γ y = some (pv v)) :
  St P E N (.store e x y) ty Γ Ω [j] (fun _ : Unit => pv undef) (fun _ => (Ω.set j (od ρ hv S0 (updS sub k.toNat ⟨v, S, hv1⟩) (d.set k.toNat z))).set j' dead) := by
 intro a w hs
 have hltj := (List.getElem?_eq_some_iff.1 hj).1
 have hs1 := hs.splitH hj
 have hA : (Ω.set j (oa rH hv S0 (subL sub d.length)) ++ [inh ρ sub k.toNat d])[j]? = some (oa rH hv S0 (subL sub d.length)) := by
  rw [List.getElem?_append_left (by simpa using hltj), List.getElem?_set_self hltj]
 have hk : k.toNat < (subL sub d.length).length := by rw [subL_len]; omega
 have hid : idxM (subL sub d.length) k = some (subL sub d.length)[k.toNat] := by
  unfold idxM
  rw [if_pos h0, List.getElem?_eq_getElem hk]
 have hst := s_ostore (P := P) (E := E) (N := N) (Γ := Γ) (ty := ty) (e := e) (ρ := rH) (x := x) (y := y) (u := ⟨v, S, hv1⟩) hid h hx hA (part_at hy (pv_at hv1)) a w hs1
 intro o ho ht
 refine resW.mono (k := _) ?_ (hst o ho ht)
 rintro u w' ⟨_, q1, q2, q3⟩
 have e1 : (Ω.set j (oa rH hv S0 (subL sub d.length)) ++ [inh ρ sub k.toNat d]).set j (oa rH hv S0 ((subL sub d.length).set k.toNat ⟨v, S, hv1⟩)) = Ω.set j (oa rH hv S0 (subL (updS sub k.toNat ⟨v, S, hv1⟩) d.length)) ++ [inh ρ (updS sub k.toNat ⟨v, S, hv1⟩) k.toNat d] := by
  rw [List.set_append_left _ _ (by simpa using hltj), set_set', subL_set, inh_upd]
 rw [e1] at q1
 have q4 := Sat.joinH hj q1
 have hB : (Ω.set j (oh ρ hv S0 (updS sub k.toNat ⟨v, S, hv1⟩) k.toNat d))[j]? = some (oh ρ hv S0 (updS sub k.toNat ⟨v, S, hv1⟩) k.toNat d) := List.getElem?_set_self hltj
 have hC : (Ω.set j (oh ρ hv S0 (updS sub k.toNat ⟨v, S, hv1⟩) k.toNat d))[j']? = some (oa ρ (updS sub k.toNat ⟨v, S, hv1⟩ k.toNat).v (updS sub k.toNat ⟨v, S, hv1⟩ k.toNat).S z) := by
  rw [List.getElem?_set_ne hne, updS_at]; exact hj'
 have q5 := q4.close_ hB hC hne (by omega)
 rw [set_set'] at q5
 refine ⟨(), q5, q2, ⟨q3.size, fun b hb hn => q3.keep b hb fun i hi ob hob => ?_, fun b hb hm => ?_⟩⟩
 ·rw [List.mem_singleton.1 hi, hA] at hob
  cases hob
  exact fun hm => hn j (by simp) _ hj (List.mem_append_left _ hm)
 ·obtain ⟨o', h2, h3⟩ := List.mem_flatMap.1 hm
  rcases set_mem' h2 with rfl | ⟨i, hi, h4⟩
  ·cases h3
  ·have h5 := List.mem_of_getElem? h4
   rcases set_mem' h5 with rfl | ⟨i2, hi2, h6⟩
   ·rcases List.mem_append.1 h3 with h7 | h7
    ·exact Sat.notin hj (List.mem_append_left _ h7)
    ·obtain ⟨q, hq, h8⟩ := List.mem_flatMap.1 h7
     rw [List.length_set] at hq
     by_cases c : q = k.toNat
     ·subst c
      rw [updS_at] at h8
      exact Sat.notin hj' h8
     ·rw [updS_ne c] at h8
      exact Sat.notin hj (List.mem_append_right _ (List.mem_flatMap.2 ⟨q, hq, by rw [if_neg c]; exact h8⟩))
   ·exact Sat.notin h6 h3

def nilB : Sb := ⟨.slice none 0 0, [], rfl⟩
theorem od_nil {n : Nat} {S : List Nat} {F : FP} {w : World} (h : (oa rH hv S (List.replicate n nilB)).h F w) : (od ρ hv S (fun _ => nilB) (List.replicate n ([] : List α))).h F w := by
 refine ⟨?_, fun i hi => ?_⟩
 ·have : subL (fun _ => nilB) (List.replicate n ([] : List α)).length = List.replicate n nilB := by
   rw [List.length_replicate]; unfold subL; simp [List.map_const']
  rw [this]; exact h
 ·rw [List.getElem_replicate]
  exact ⟨none, 0, rfl, Nat.le_refl _, .inl ⟨rfl, rfl, rfl⟩⟩
theorem od_nilS {n : Nat} {S : List Nat} : (od ρ hv S (fun _ => nilB) (List.replicate n ([] : List α))).S = S := by
 show S ++ _ = S
 rw [show ((List.range (List.replicate n ([] : List α)).length).flatMap fun i => nilB.S) = [] by simp [nilB], List.append_nil]
theorem s_dmake {bytes : Nat} {t : TypeId} {x y : Operand} {k : IntKind} {m : Int} {L : List Sb} (hd : mkM bytes nilB m = some L) (hu : P.underlying t = some (.slice e)) (h : ElT P e rH bytes) (hz : ZeroT P e rH nilB)
  (hx : lkO Γ x = some (iv k m)) (hy : lkO Γ y = some (iv k m)) :
  St P E N (.makeSlice t x y) ty Γ Ω [] (fun X : Value × List Nat => pv X.1) (fun X => Ω ++ [od ρ X.1 X.2 (fun _ => nilB) (List.replicate L.length ([] : List α))]) := by
 have hL : L = List.replicate L.length nilB := by
  unfold mkM at hd
  split at hd
  ·cases hd; simp
  ·cases hd
 intro a w hs o ho ht
 refine resW.mono (k := _) ?_ (s_make hd hu h hz hx hy a w hs o ho ht)
 rintro u w' ⟨X, q1, q2, q3⟩
 have hp : (ow (Ω ++ [od ρ X.1 X.2 (fun _ => nilB) (List.replicate L.length ([] : List α))])) = ow (Ω ++ [oa rH X.1 X.2 L]) := by
  unfold ow
  rw [List.flatMap_append, List.flatMap_append]
  simp only [List.flatMap_cons, List.flatMap_nil, List.append_nil, od_nilS]
  rfl
 refine ⟨X, q1.perm (by rw [hp]) fun p hp' => ?_, q2, q3.size, q3.keep, fun b hb hm => q3.own b hb (by rw [hp] at hm; exact hm)⟩
 rcases List.mem_append.1 hp' with h5 | h5
 ·exact q1.ob p (List.mem_append_left _ h5)
 ·rw [List.mem_singleton.1 h5]
  have := q1.ob (oa rH X.1 X.2 L) (List.mem_append_right _ (by simp))
  exact od_nil (n := L.length) (by rw [← hL]; exact this)

theorem Sat.closeA {d : List (List α)} {x : List α} {j j' k : Nat} {a : Act} {w : World} (hs : Sat E N Γ Ω a w) (hj : Ω[j]? = some (oh ρ hv S0 sub k d)) (hj' : Ω[j']? = some (oa ρ (sub k).v (sub k).S x)) (hne : j ≠ j') :
  Sat E N Γ ((Ω.set j (od ρ hv S0 sub (d.set k x))).set j' dead) a w := by
 by_cases hk : k < d.length
 ·exact hs.close_ hj hj' hne hk
 ·have e : d.set k x = d := List.set_eq_of_length_le (by omega)
  rw [e]
  have h1 := hs.objAt hj
  have eS : (od ρ hv S0 sub d).S = (oh ρ hv S0 sub k d).S := by
   show S0 ++ _ = S0 ++ _
   congr 1
   rw [List.flatMap_def, List.flatMap_def]
   congr 1
   refine List.map_congr_left fun i hi => ?_
   rw [if_neg (by have := List.mem_range.1 hi; omega)]
  have hs1 : Sat E N Γ (Ω.set j (od ρ hv S0 sub d)) a w := by
   refine hs.perm (by rw [ow_set_same hj eS]) fun o ho => ?_
   rcases set_mem ho with ho | rfl
   ·exact hs.ob o ho
   ·exact ⟨h1.1, fun i hi => h1.2 i hi (by omega)⟩
  exact hs1.freeze (o := oa ρ (sub k).v (sub k).S x) (by rw [List.getElem?_set_ne hne]; exact hj')
end Go.Dc

namespace Go.Dc
variable [DrawMode] {P : Program} {E : Env} {N : Nat} {op : Op} {ty : TypeId} {Γ Γ' : List (Nat × RP)} {Ω Ω' : List OB} {a : Act} {w : World} {α : Type}
variable {ρ : Rep α} {hv : Value} {S0 : List Nat} {sub : Nat → Sb} {d : List (List α)} {j k : Nat}

def openB (Ω : List OB) (j : Nat) (ρ : Rep α) (hv : Value) (S0 : List Nat) (sub : Nat → Sb) (d : List (List α)) (k : Nat) (x : List α) : List OB := Ω.set j (oh ρ hv S0 sub k d) ++ [oa ρ (sub k).v (sub k).S x]

theorem openB_perm {x : List α} (hj : Ω[j]? = some (od ρ hv S0 sub d)) (hk : k < d.length) : (ow (openB Ω j ρ hv S0 sub d k x)).Perm (ow Ω) := by
 have p1 := ow_set_perm (o' := oh ρ hv S0 sub k d) hj
 have p2 : (od ρ hv S0 sub d).S.Perm ((oh ρ hv S0 sub k d).S ++ (sub k).S) := by
  show (S0 ++ _).Perm ((S0 ++ _) ++ _)
  rw [List.append_assoc]
  exact (flat_split hk).append_left _
 have p3 : (ow (openB Ω j ρ hv S0 sub d k x)) = ow (Ω.set j (oh ρ hv S0 sub k d)) ++ (sub k).S := by simp [openB, ow, oa]
 rw [p3]
 refine (List.perm_append_right_iff (oh ρ hv S0 sub k d).S).1 (List.Perm.trans ?_ p1)
 rw [List.append_assoc]
 exact ((List.perm_append_comm).append_left _).trans (p2.symm.append_left _)
theorem fr_perm (h : (ow Ω').Perm (ow Ω)) : fr E Ω' = fr E Ω := by
 funext b
 simp only [fr]
 exact propext (and_congr Iff.rfl (not_congr h.mem_iff))
theorem openB_last {x : List α} : (openB Ω j ρ hv S0 sub d k x)[Ω.length]? = some (oa ρ (sub k).v (sub k).S x) := by
 unfold openB
 rw [List.getElem?_append_right (by simp)]; simp
theorem openB_hole {x : List α} (hj : Ω[j]? = some (od ρ hv S0 sub d)) : (openB Ω j ρ hv S0 sub d k x)[j]? = some (oh ρ hv S0 sub k d) := by
 have hlt := (List.getElem?_eq_some_iff.1 hj).1
 unfold openB
 rw [List.getElem?_append_left (by simpa using hlt), List.getElem?_set_self hlt]
theorem Sat.opnB {y : List α} (hs : Sat E N Γ Ω a w) (hj : Ω[j]? = some (od ρ hv S0 sub d)) (hy : d[k]? = some y) : Sat E N Γ (openB Ω j ρ hv S0 sub d k y) a w := by
 obtain ⟨hk, rfl⟩ := List.getElem?_eq_some_iff.1 hy
 exact hs.open_ hj hk
theorem Sat.closeB {x : List α} (hj : Ω[j]? = some (od ρ hv S0 sub d)) (hk : k < d.length) (hs : Sat E N Γ (openB Ω j ρ hv S0 sub d k x) a w) : Sat E N Γ (Ω.set j (od ρ hv S0 sub (d.set k x))) a w := by
 have hlt := (List.getElem?_eq_some_iff.1 hj).1
 have h1 := hs.close_ (openB_hole hj) openB_last (by omega) hk
 have e1 : ((openB Ω j ρ hv S0 sub d k x).set j (od ρ hv S0 sub (d.set k x))).set Ω.length dead = Ω.set j (od ρ hv S0 sub (d.set k x)) ++ [dead] := by
  unfold openB
  rw [List.set_append_left _ _ (by simpa using hlt), List.set_set, List.set_append_right _ _ (by simp)]
  simp
 rw [e1] at h1
 have e2 : ow (Ω.set j (od ρ hv S0 sub (d.set k x)) ++ [dead]) = ow (Ω.set j (od ρ hv S0 sub (d.set k x))) := by simp [ow, dead]
 exact h1.perm (by rw [e2]) fun o ho => by
  have := h1.ob o (List.mem_append_left _ ho)
  exact this

theorem Rd.inner {J J' : List Nat} {φ : RP} {y : List α} (hj : Ω[j]? = some (od ρ hv S0 sub d)) (hy : d[k]? = some y) (h : Rd P E N op ty Γ (openB Ω j ρ hv S0 sub d k y) J φ) (hJ : ∀ i ∈ J, i = Ω.length ∧ j ∈ J') :
  Rd P E N op ty Γ Ω J' φ := by
 intro a w hs
 have hk := (List.getElem?_eq_some_iff.1 hy).1
 obtain ⟨v, B, h1, h2, h3⟩ := h a w (hs.opnB hj hy)
 have hp := openB_perm (x := y) hj hk
 refine ⟨v, B, by rw [← fr_perm hp]; exact h1, fun b hb => ⟨(h2 b hb).1, ?_⟩, h3⟩
 rcases (h2 b hb).2 with h4 | ⟨i, hi, ob, h5, h6⟩
 ·exact .inl fun hm => h4 (hp.mem_iff.2 hm)
 ·obtain ⟨rfl, hj'⟩ := hJ i hi
  rw [openB_last] at h5
  cases h5
  exact .inr ⟨j, hj', _, hj, List.mem_append_right _ (List.mem_flatMap.2 ⟨k, List.mem_range.2 hk, h6⟩)⟩

theorem St.inner {φ : RP} {y x : List α} (hj : Ω[j]? = some (od ρ hv S0 sub d)) (hy : d[k]? = some y)
  (h : St P E N op ty Γ (openB Ω j ρ hv S0 sub d k y) [Ω.length] (fun _ : Unit => φ) (fun _ => (openB Ω j ρ hv S0 sub d k y).set Ω.length (oa ρ (sub k).v (sub k).S x))) :
  St P E N op ty Γ Ω [j] (fun _ : Unit => φ) (fun _ => Ω.set j (od ρ hv S0 sub (d.set k x))) := by
 have hlt := (List.getElem?_eq_some_iff.1 hj).1
 have hk := (List.getElem?_eq_some_iff.1 hy).1
 intro a w hs o ho ht
 refine resW.mono (k := _) ?_ (h a w (hs.opnB hj hy) o ho ht)
 rintro u w' ⟨_, q1, q2, q3⟩
 have e1 : (openB Ω j ρ hv S0 sub d k y).set Ω.length (oa ρ (sub k).v (sub k).S x) = openB Ω j ρ hv S0 sub d k x := by
  unfold openB
  rw [List.set_append_right _ _ (by simp)]
  simp
 rw [e1] at q1 q2 q3
 have hp := openB_perm (x := x) hj hk
 have hp2 := openB_perm (x := y) hj hk
 have hp3 : (ow (Ω.set j (od ρ hv S0 sub (d.set k x)))).Perm (ow Ω) := by
  refine (List.perm_append_right_iff (od ρ hv S0 sub d).S).1 ((ow_set_perm hj).trans ?_)
  have : (od ρ hv S0 sub (d.set k x)).S = (od ρ hv S0 sub d).S := by simp only [od, List.length_set]
  rw [this]
 refine ⟨(), q1.closeB hj hk, ?_, ⟨q3.size, fun b hb hn => q3.keep b hb fun i hi ob hob hm => ?_, fun b hb hm => hp3.mem_iff.1 hm⟩⟩
 ·rw [fr_perm hp3, ← fr_perm hp]; exact q2
 ·rw [List.mem_singleton.1 hi, openB_last] at hob
  cases hob
  exact hn j (by simp) _ hj (List.mem_append_right _ (List.mem_flatMap.2 ⟨k, List.mem_range.2 hk, hm⟩))

theorem Sat.drop_inner (hs : Sat E N Γ Ω a w) (hj : Ω[j]? = some (od ρ hv S0 sub d)) (hk : k < d.length) : Sat E N Γ (Ω.set j (oh ρ hv S0 sub k d)) a w := by
 have hlt := (List.getElem?_eq_some_iff.1 hj).1
 have h1 := (hs.opnB hj (List.getElem?_eq_getElem hk)).freeze openB_last
 have e1 : (openB Ω j ρ hv S0 sub d k d[k]).set Ω.length dead = Ω.set j (oh ρ hv S0 sub k d) ++ [dead] := by
  unfold openB
  rw [List.set_append_right _ _ (by simp)]
  simp
 rw [e1] at h1
 have e2 : ow (Ω.set j (oh ρ hv S0 sub k d) ++ [dead]) = ow (Ω.set j (oh ρ hv S0 sub k d)) := by simp [ow, dead]
 exact h1.perm (by rw [e2]) fun o ho => h1.ob o (List.mem_append_left _ ho)

theorem s_dstoreW {e : TypeId} {i : Int} {bytes : Nat} {x y : Operand} {v : Value} {S : List Nat} {z : List α} {j' : Nat} (h0 : 0 ≤ i) (hlt : i < (d.length : Int)) (h : ElT P e rH bytes)
  (hx : lkO Γ x = some (pv (elA hv rH.size i))) (hj : Ω[j]? = some (od ρ hv S0 sub d)) (hj' : Ω[j']? = some (oa ρ v S z)) (hne : j ≠ j') (hv1 : v.oneCell' = true) (hy : lkO Γ y = some (pv v)) :
  St P E N (.store e x y) ty Γ Ω [j] (fun _ : Unit => pv undef) (fun _ => (Ω.set j (od ρ hv S0 (updS sub i.toNat ⟨v, S, hv1⟩) (d.set i.toNat z))).set j' dead) := by
 have hlj := (List.getElem?_eq_some_iff.1 hj).1
 have hk : i.toNat < d.length := by omega
 have h1 := s_dstore (P := P) (E := E) (N := N) (ty := ty) (Ω := Ω.set j (oh ρ hv S0 sub i.toNat d)) h0 hlt h hx (List.getElem?_set_self hlj) (j' := j') (by rw [List.getElem?_set_ne hne]; exact hj') hne hv1 hy
 rw [set_set'] at h1
 refine St.pre (fun a w hs => hs.drop_inner hj hk) (fun b hb => ?_) (fun q hq ob hob b hb => ?_) h1
 ·obtain ⟨o, h2, h3⟩ := List.mem_flatMap.1 hb
  rcases set_mem' h2 with rfl | ⟨q, hq, h4⟩
  ·rcases List.mem_append.1 h3 with h5 | h5
   ·exact Sat.notin hj (List.mem_append_left _ h5)
   ·obtain ⟨q, hq, h6⟩ := List.mem_flatMap.1 h5
    refine Sat.notin hj (List.mem_append_right _ (List.mem_flatMap.2 ⟨q, hq, ?_⟩))
    split at h6
    ·cases h6
    ·exact h6
  ·exact Sat.notin h4 h3
 ·by_cases e : j = q
  ·subst e
   rw [List.getElem?_set_self hlj] at hob
   cases hob
   refine ⟨j, hq, _, hj, ?_⟩
   rcases List.mem_append.1 hb with h5 | h5
   ·exact List.mem_append_left _ h5
   ·obtain ⟨q, hq, h6⟩ := List.mem_flatMap.1 h5
    refine List.mem_append_right _ (List.mem_flatMap.2 ⟨q, hq, ?_⟩)
    split at h6
    ·cases h6
    ·exact h6
  ·rw [List.getElem?_set_ne e] at hob
   exact ⟨q, hq, ob, hob, hb⟩
end Go.Dc

namespace Go.Dc
def anyc : RP := ⟨fun _ _ v => v.oneCell' = true, fun _ h => h⟩
theorem anyc_at : anyc.At := fun h => h
theorem AllP.any {F F' : FP} {w : World} : ∀ {φs : List RP} {vs : List Value}, (∀ φ ∈ φs, φ.At) → AllP F w φs vs → AllP F' w (φs.map fun _ => anyc) vs
 | [], [], _, _ => trivial
 | φ :: φs, v :: vs, h0, ⟨h1, h2⟩ => ⟨h0 φ (by simp) h1, AllP.any (fun ψ hψ => h0 ψ (by simp [hψ])) h2⟩
 | [], _ :: _, _, h => h.elim
 | _ :: _, [], _, h => h.elim
end Go.Dc

namespace Go.Dc
variable [DrawMode]
variable {R : Type} {P : Program} {E : Env} {N : Nat} {Γ : List (Nat × RP)} {Ω : List OB} {ty : TypeId}

def capV (v : Value) : Nat := match v with | .slice _ _ c => c | _ => 0

section rows
variable {α : Type} {ρ : Rep α} {F : FP} {w : World}
theorem oa_row {ad : Option Addr} {n c : Nat} {S : List Nat} {d : List α} (h : (oa ρ (.slice ad n c) S d).h F w) (hc : 0 < c) :
  ∃ b off ct A es B, ad = some ⟨b, off, none⟩ ∧ S = [b] ∧ n = d.length ∧ w.heap[b]? = some (.cells (A ++ es ++ B).toArray ct (0, 0)) ∧ A.length = off ∧ AllP F w (d.flatMap ρ.cp) es ∧
   off + c * ρ.size ≤ (A ++ es ++ B).length ∧ d.length ≤ c ∧ es.length = d.length * ρ.size := by
 obtain ⟨ad', c', e, hdc, hob⟩ := h
 injection e with e1 e2 e3
 subst e1; subst e2; subst e3
 rcases hob with ⟨rfl, _, rfl⟩ | ⟨b, off, cells, ct, rfl, rfl, hb, hsz, hH⟩
 ·omega
 ·obtain ⟨es, hes, hcs⟩ := hH.list
  have hel : es.length = d.length * ρ.size := by rw [hes.length, cp_len]
  have hle : d.length * ρ.size ≤ c * ρ.size := Nat.mul_le_mul_right _ hdc
  have hll : cells.toList.length = cells.size := Array.length_toList
  have hmid : (cells.toList.drop off).take es.length = es := by
   apply List.ext_getElem?
   intro k
   rw [List.getElem?_take, List.getElem?_drop]
   by_cases hk : k < es.length
   ·rw [if_pos hk, ← hcs k (by omega), Array.getElem?_toList]
   ·rw [if_neg hk, List.getElem?_eq_none (by omega)]
  have hcut : cells.toList.take off ++ es ++ cells.toList.drop (off + es.length) = cells.toList := by
   rw [← hmid, List.append_assoc]
   conv => rhs; rw [← List.take_append_drop off cells.toList]
   congr 1
   rw [hmid]
   conv => rhs; rw [← List.take_append_drop es.length (cells.toList.drop off), hmid, List.drop_drop]
  refine ⟨b, off, ct, cells.toList.take off, es, cells.toList.drop (off + es.length), rfl, rfl, rfl, ?_, ?_, hes, ?_, hdc, hel⟩
  ·rw [hcut]; simpa using hb
  ·rw [List.length_take]; omega
  ·rw [hcut]; omega

theorem row_oa {b off ct c n : Nat} {A es B L : List Value} {d : List α} (hb : w.heap[b]? = some (.cells L.toArray ct (0, 0))) (hL : L = A ++ es ++ B) (hA : A.length = off) (hes : AllP F w (d.flatMap ρ.cp) es)
  (hsz : off + c * ρ.size ≤ L.length) (hc : d.length ≤ c) (hn : n = d.length) : (oa ρ (.slice (some ⟨b, off, none⟩) n c) [b] d).h F w := by
 subst hn
 refine ⟨_, c, rfl, hc, .inr ⟨b, off, _, ct, rfl, rfl, hb, by simpa using hsz, SlH.of hes fun k hk => ?_⟩⟩
 have hel : es.length = d.length * ρ.size := by rw [hes.length, cp_len]
 subst hL
 rw [List.getElem?_toArray, List.append_assoc, List.getElem?_append_right (by omega), List.getElem?_append_left (by omega)]
 congr 1; omega

theorem flat_take (d : List α) (k : Nat) : (d.take k).flatMap ρ.cp = (d.flatMap ρ.cp).take (k * ρ.size) := by
 induction d generalizing k with
 | nil => simp
 | cons x d ih =>
  cases k with
  | zero => simp
  | succ k =>
   have e : (k + 1) * ρ.size - ρ.size = k * ρ.size := by rw [Nat.succ_mul]; omega
   rw [List.take_succ_cons, List.flatMap_cons, List.flatMap_cons, ih, List.take_append, ρ.len, e]
   congr 1
   exact (List.take_of_length_le (by rw [ρ.len, Nat.succ_mul]; omega)).symm
theorem flat_drop (d : List α) (k : Nat) : (d.drop k).flatMap ρ.cp = (d.flatMap ρ.cp).drop (k * ρ.size) := by
 induction d generalizing k with
 | nil => simp
 | cons x d ih =>
  cases k with
  | zero => simp
  | succ k =>
   have e : (k + 1) * ρ.size - ρ.size = k * ρ.size := by rw [Nat.succ_mul]; omega
   have e2 : (ρ.cp x).drop ((k + 1) * ρ.size) = [] := List.drop_eq_nil_of_le (by rw [ρ.len, Nat.succ_mul]; omega)
   rw [List.drop_succ_cons, List.flatMap_cons, ih, List.drop_append, ρ.len, e, e2, List.nil_append]
theorem all_take {es : List Value} {d : List α} (h : AllP F w (d.flatMap ρ.cp) es) (k : Nat) : AllP F w ((d.take k).flatMap ρ.cp) (es.take (k * ρ.size)) := by
 rw [flat_take]; exact h.take _
theorem all_drop {es : List Value} {d : List α} (h : AllP F w (d.flatMap ρ.cp) es) (k : Nat) : AllP F w ((d.drop k).flatMap ρ.cp) (es.drop (k * ρ.size)) := by
 rw [flat_drop]; exact h.drop _
end rows

section
variable {α : Type} {e t : TypeId} {ρ : Rep α} {bytes : Nat} {x y : Operand} {hv : Value} {S : List Nat} {d : List α} {j : Nat}

theorem r_ocap (hu : P.underlying t = some (.slice e)) (hx : lkO Γ x = some (pv hv)) (hj : Ω[j]? = some (oa ρ hv S d)) :
  Rd P E N (.call ⟨.builtin .cap, #[x], #[t]⟩) ty Γ Ω [] (iv .i64 (capV hv : Int)) := .mk fun a w hs => by
 have hv : a.eval x = hv := hs.op hx
 obtain ⟨ad, c, rfl, _⟩ := hs.objAt hj
 exact ⟨.int .i64 c, rfl, fun w' o ho _ => by simp [execOp, ho, resolve, invoke, builtin, Builtin.cap_, hv, run_underlying hu, goInt]⟩

theorem Sat.cap {a : Act} {w : World} (hs : Sat E N Γ Ω a w) (hj : Ω[j]? = some (oa ρ hv S d)) : d.length ≤ capV hv := by
 obtain ⟨ad, c, rfl, hc, _⟩ := hs.objAt hj
 exact hc

theorem addr_zero (ad : Option Addr) (h : ad = none ∨ ∃ b off, ad = some ⟨b, off, none⟩) : ad.map (·.add 0) = ad := by
 rcases h with rfl | ⟨b, off, rfl⟩
 ·rfl
 ·simp [addr_add]

theorem r_oext {hi : Operand} {k : IntKind} {m : Int} (h0 : 0 ≤ m) (hm : m ≤ capV hv) (hu : P.underlying t = some (.slice e)) (h : ElT P e ρ bytes) (hx : lkO Γ x = some (pv hv)) (hj : Ω[j]? = some (oa ρ hv S d))
  (hh : lkO Γ hi = some (iv k m)) : Rd P E N (.slice t x none (some hi) none) ty Γ Ω [] (pv (subV hv ρ.size 0 m.toNat)) := .mk fun a w hs => by
 have hvx : a.eval x = hv := hs.op hx
 obtain ⟨ad, c, rfl, hc, hob⟩ := hs.objAt hj
 obtain ⟨m, rfl⟩ := Int.eq_ofNat_of_zero_le h0
 have hm' : m ≤ c := by simpa [capV] using hm
 have h2 : a.eval hi = .int k (m : Int) := hs.op hh
 refine ⟨_, rfl, fun w' o ho _ => ?_⟩
 have hrun := run_slice (P := P) hu h (ad := ad) (n := d.length) (c := c) (lo := none) (hi := some (.int k (m : Int))) (l := 0) (hh := m) (.inl ⟨rfl, rfl⟩) (.inr ⟨_, rfl⟩) (Nat.zero_le _) hm' w'
 simp [execOp, ho, hvx, h2, hrun, subV]

theorem r_sub2 {lo hi : Option Operand} {l m : Int} {k : Nat} (h0 : 0 ≤ l) (h1 : l ≤ m) (hm : m ≤ capV hv ∨ m ≤ d.length) (hu : P.underlying t = some (.slice e)) (h : ElT P e ρ bytes)
  (hx : lkO Γ x = some (pv (subV hv ρ.size 0 k))) (hj : Ω[j]? = some (oa ρ hv S d)) (hlo : BdOk Γ 0 lo l) (hhi : BdOk Γ k hi m) :
  Rd P E N (.slice t x lo hi none) ty Γ Ω [] (pv (subV hv ρ.size l.toNat m.toNat)) := .mk fun a w hs => by
 have hvx : a.eval x = subV hv ρ.size 0 k := hs.op hx
 obtain ⟨ad, c, rfl, hc, hob⟩ := hs.objAt hj
 obtain ⟨l, rfl⟩ := Int.eq_ofNat_of_zero_le h0
 obtain ⟨m, rfl⟩ := Int.eq_ofNat_of_zero_le (Int.le_trans h0 h1)
 have hl := hlo.val hs
 have hm' := hhi.val hs
 have e1 : l ≤ m := by omega
 have e2 : m ≤ c := by
  rcases hm with hm | hm
  ·simpa [capV] using hm
  ·omega
 have hz : subV (.slice ad d.length c) ρ.size 0 k = .slice ad k c := by
  have hadr : ad.map (·.add 0) = ad := addr_zero ad (by rcases hob with ⟨rfl, _⟩ | ⟨b, off, _, _, rfl, _⟩ <;> simp)
  simp [subV, hadr]
 rw [hz] at hvx
 refine ⟨_, rfl, fun w' o ho _ => ?_⟩
 have hrun := run_slice (P := P) hu h (ad := ad) (n := k) (c := c) (lo := lo.map a.eval) (hi := hi.map a.eval) (l := l) (hh := m)
  (hl.imp (fun ⟨e1, e2⟩ => ⟨e1, by omega⟩) id) (hm'.imp (fun ⟨e1, e2⟩ => ⟨e1, by omega⟩) id) e1 e2 w'
 simp [execOp, ho, hvx, hrun, subV]

theorem r_subLen {l m : Nat} (hu : P.underlying t = some (.slice e)) (hx : lkO Γ x = some (pv (subV hv ρ.size l m))) (hj : Ω[j]? = some (oa ρ hv S d)) :
  Rd P E N (.call ⟨.builtin .len, #[x], #[t]⟩) ty Γ Ω [] (iv .i64 ((m - l : Nat) : Int)) := .mk fun a w hs => by
 have hvx : a.eval x = subV hv ρ.size l m := hs.op hx
 obtain ⟨ad, c, rfl, _⟩ := hs.objAt hj
 exact ⟨.int .i64 (m - l : Nat), rfl, fun w' o ho _ => by simp [execOp, ho, resolve, invoke, builtin, Builtin.len_, hvx, run_underlying hu, goInt, subV]⟩

def sub3V (v : Value) (sz l m k : Nat) : Value := match v with
 | .slice ad _ _ => .slice (if k = l then ad else ad.map (·.add (l * sz))) (m - l) (k - l)
 | v => v
theorem r_sub3 {lo hi mx : Operand} {k1 k2 k3 : IntKind} {l m k : Int} (h0 : 0 ≤ l) (h1 : l ≤ m) (h2 : m ≤ k) (h3 : k ≤ d.length) (hu : P.underlying t = some (.slice e)) (h : ElT P e ρ bytes)
  (hx : lkO Γ x = some (pv hv)) (hj : Ω[j]? = some (oa ρ hv S d)) (hlo : lkO Γ lo = some (iv k1 l)) (hhi : lkO Γ hi = some (iv k2 m)) (hmx : lkO Γ mx = some (iv k3 k)) :
  Rd P E N (.slice t x (some lo) (some hi) (some mx)) ty Γ Ω [] (pv (sub3V hv ρ.size l.toNat m.toNat k.toNat)) := .mk fun a w hs => by
 have hvx : a.eval x = hv := hs.op hx
 obtain ⟨ad, c, rfl, hc, hob⟩ := hs.objAt hj
 obtain ⟨l, rfl⟩ := Int.eq_ofNat_of_zero_le h0
 obtain ⟨m, rfl⟩ := Int.eq_ofNat_of_zero_le (Int.le_trans h0 h1)
 obtain ⟨k, rfl⟩ := Int.eq_ofNat_of_zero_le (Int.le_trans h0 (Int.le_trans h1 h2))
 have e1 : a.eval lo = .int k1 (l : Int) := hs.op hlo
 have e2 : a.eval hi = .int k2 (m : Int) := hs.op hhi
 have e3 : a.eval mx = .int k3 (k : Int) := hs.op hmx
 have a1 : l ≤ m := by omega
 have a2 : m ≤ k := by omega
 have a3 : k ≤ c := by omega
 refine ⟨_, rfl, fun w' o ho _ => ?_⟩
 have hb : (Instr.sliceBounds true d.length c (some (.int k1 (l : Int))) (some (.int k2 (m : Int))) (some (.int k3 (k : Int)))).run P w' = .ok (l, m, k) w' := by
  simp [Instr.sliceBounds, Instr.sliceBound, asIntOf, a1, a2, a3]
 simp [execOp, ho, hvx, e1, e2, e3, Instr.sliceAt, run_underlying hu, Instr.slice, hb, h.sizeOf, sub3V]

theorem b_cut {m : Nat} (hm : m ≤ d.length) (hj : Ω[j]? = some (oa ρ hv S d)) : ∀ a w, Sat E N Γ Ω a w → Sat E N Γ (Ω.set j (oa ρ (subV hv ρ.size 0 m) S (d.take m))) a w := by
 intro a w hs
 obtain ⟨ad, c, rfl, hc, hob⟩ := hs.objAt hj
 refine hs.upd hj ⟨rfl, rfl, rfl, by first | exact fun _ => Nat.le_refl _ | exact fun _ => Nat.le_add_right _ _⟩ (Nat.le_refl _) (fun _ _ _ => rfl) (fun b hb => .inl hb) ?_ ?_
 ·rcases hob with ⟨_, rfl, _⟩ | ⟨b, _, _, _, _, rfl, _⟩ <;> simp [oa]
 ·have hag : Ag (fr E Ω) (fr E (Ω.set j (oa ρ (subV (.slice ad d.length c) ρ.size 0 m) S (d.take m)))) w w :=
   .refl fun b hb hf => fr_set hj hf fun hm => hf.2 (Sat.notin hj (b := b) hm)
  have hz : subV (.slice ad d.length c) ρ.size 0 m = .slice ad m c := by
   have hadr : ad.map (·.add 0) = ad := addr_zero ad (by rcases hob with ⟨rfl, _⟩ | ⟨b, off, _, _, rfl, _⟩ <;> simp)
   simp [subV, hadr]
  rw [hz] at hag ⊢
  have hlen : (d.take m).length = m := by rw [List.length_take]; omega
  refine ⟨ad, c, by rw [hlen], by rw [hlen]; omega, ?_⟩
  rcases hob with ⟨rfl, rfl, rfl⟩ | ⟨b, off, cells, ct, rfl, rfl, hb, hsz, hH⟩
  ·exact .inl ⟨rfl, rfl, rfl⟩
  ·refine .inr ⟨b, off, cells, ct, rfl, rfl, hb, hsz, ?_⟩
   have := (hH.sub 0 m).mono hag
   simpa using this

theorem row_post {a : Act} {w : World} (hs : Sat E N Γ Ω a w) {b : Nat} {ad : Option Addr} {n c : Nat} {hv' : Value} {d' : List α} {cells' : Array Value} (hj : Ω[j]? = some (oa ρ (.slice ad n c) [b] d))
  (hnew : ∀ F w', Ag (fr E Ω) F w w' → w'.os = w.os → w' = w.setRow b cells' → (oa ρ hv' [b] d').h F w') :
  Sat E N Γ (Ω.set j (oa ρ hv' [b] d')) a (w.setRow b cells') ∧ Eff Ω (Ω.set j (oa ρ hv' [b] d')) [j] w (w.setRow b cells') := by
 refine ⟨?_, by simp, fun b' hb' hn' => setRow_other w b b' _ fun e => hn' j (by simp) _ hj (by rw [e]; simp [oa]), own_set hj fun b hb => .inl hb⟩
 refine hs.upd hj ⟨rfl, rfl, rfl, by first | exact fun _ => Nat.le_refl _ | exact fun _ => Nat.le_add_right _ _⟩ (by simp) (fun b' _ hn' => setRow_other w b b' _ fun e => hn' (by rw [e]; simp [oa])) (fun b' hb' => .inl hb') (by simp [oa]) ?_
 refine hnew _ _ ⟨fun b' _ hf => fr_set hj hf fun hm => hf.2 (Sat.notin hj (b := b') hm), fun b' _ hf => setRow_other w b b' _ fun e => hf.2 (Sat.notin hj (b := b') (by rw [e]; simp [oa]))⟩ rfl rfl
end
end Go.Dc

namespace Go.Dc
variable [DrawMode]
variable {P : Program} {E : Env} {N : Nat} {Γ : List (Nat × RP)} {Ω : List OB} {ty : TypeId}

section
variable {α : Type} {e t : TypeId} {ρ : Rep α} {bytes : Nat} {x y : Operand} {hv : Value} {S : List Nat} {d : List α} {j : Nat}

theorem run_copy_call {a : Act} {o : Oper} (ho : o.op = .call ⟨.builtin .copy, #[x, y], #[t, t]⟩) {vx vy v : Value} (hx : a.eval x = vx) (hy : a.eval y = vy)
  {w w' : World} (h : (Builtin.copy_ #[t, t] o.type #[vx, vy]).run P w = .ok v w') : (execOp a.eval o).run P w = .ok (.value v) w' := by
 simp [execOp, ho, resolve, invoke, builtin, hx, hy, h]

theorem run_copy_to (hu : P.underlying t = some (.slice e)) (h : ElT P e ρ bytes) {w : World} {b p n c m yc q : Nat} {ya : Option Addr} {ct : TypeId} {L news : List Value} {ty : TypeId}
  (hb : w.heap[b]? = some (.cells L.toArray ct (0, 0))) (hq : q = Nat.min m n)
  (hn : (Builtin.firstCells ρ.size q (.slice ya m yc)).run P w = .ok news.toArray w) (hfit : p + news.length ≤ L.length) (h1 : ∀ v ∈ news, v.oneCell' = true) :
  (Builtin.copy_ #[t, t] ty #[.slice (some ⟨b, p, none⟩) n c, .slice ya m yc]).run P w = .ok (goInt q) (w.setRow b (L.take p ++ news ++ L.drop (p + news.length)).toArray) := by
 obtain ⟨i, hi, his, _⟩ := h.info
 have hst := run_storeCells_at P b p ct news 0 L.toArray w hb (by simpa using hfit) h1
 simp only [Nat.add_zero] at hst
 subst hq
 simp [Builtin.copy_, run_underlying hu, Builtin.lenOf, sizeOf, typeInfo, hi, his, hn, hst]

theorem subV_at {b off n c l m : Nat} (hl : c ≠ l) : subV (.slice (some ⟨b, off, none⟩) n c) ρ.size l m = .slice (some ⟨b, off + l * ρ.size, none⟩) (m - l) (c - l) := by
 simp [subV, hl, addr_add]

theorem s_shift {i : Nat} (hi : i < d.length) (hc : d.length + 1 ≤ capV hv) (hu : P.underlying t = some (.slice e)) (h : ElT P e ρ bytes)
  (hx : lkO Γ x = some (pv (subV hv ρ.size (i + 1) (d.length + 1)))) (hy : lkO Γ y = some (pv (subV hv ρ.size i (d.length + 1)))) (hj : Ω[j]? = some (oa ρ hv S d)) :
  St P E N (.call ⟨.builtin .copy, #[x, y], #[t, t]⟩) ty Γ Ω [j] (fun _ : Unit => iv .i64 ((d.length - i : Nat) : Int)) (fun _ => Ω.set j (oa ρ (subV hv ρ.size 0 (d.length + 1)) S (d.take (i + 1) ++ d.drop i))) := by
 intro a w hs
 have hvx : a.eval x = _ := hs.op hx
 have hvy : a.eval y = _ := hs.op hy
 have hob := hs.objAt hj
 obtain ⟨ad, c, rfl, hdc, _⟩ := id hob
 have hc' : d.length + 1 ≤ c := hc
 obtain ⟨b, off, ct, A, es, B, rfl, rfl, hn, hb, hA, hes, hsz, _, hel⟩ := oa_row hob (by omega)
 rw [subV_at (by omega)] at hvx hvy
 have hz : subV (.slice (some ⟨b, off, none⟩) d.length c) ρ.size 0 (d.length + 1) = .slice (some ⟨b, off, none⟩) (d.length + 1) c := by rw [subV_at (by omega)]; simp
 rw [hz]
 have hii : i * ρ.size + (d.length - i) * ρ.size = d.length * ρ.size := by rw [← Nat.add_mul]; congr 1; omega
 have hcc : d.length * ρ.size + ρ.size ≤ c * ρ.size := by rw [← Nat.succ_mul]; exact Nat.mul_le_mul_right _ hc'
 have h1s : (i + 1) * ρ.size = i * ρ.size + ρ.size := Nat.succ_mul _ _
 have hsz' : A.length + (d.length * ρ.size + B.length) = (A ++ es ++ B).length := by simp [hel]
 have hdn : (es.drop (i * ρ.size)).length = (d.length - i) * ρ.size := by rw [List.length_drop, hel]; omega
 have hp1 : ρ.size ≤ (d.length - i) * ρ.size := Nat.le_mul_of_pos_left _ (by omega)
 have hf := run_fc (P := P) (size := ρ.size) (m := d.length - i) (yc := c - i) (ya := some ⟨b, off + i * ρ.size, none⟩) (news := es.drop (i * ρ.size)) (w := w) hdn
  (.inr ⟨b, off + i * ρ.size, _, ct, (0, 0), rfl, hb, fun k hk => by
   rw [List.getElem?_toArray, List.append_assoc, List.getElem?_append_right (by omega), List.getElem?_append_left (by omega), List.getElem?_drop]; congr 1; omega⟩)
 have hf' : (Builtin.firstCells ρ.size (d.length - i) (.slice (some ⟨b, off + i * ρ.size, none⟩) (d.length + 1 - i) (c - i))).run P w = .ok (es.drop (i * ρ.size)).toArray w := by
  simpa [Builtin.firstCells] using hf
 have hr := fun ty' => run_copy_to (P := P) (ty := ty') hu h (b := b) (p := off + (i + 1) * ρ.size) (n := d.length + 1 - (i + 1)) (c := c - (i + 1)) (m := d.length + 1 - i) (yc := c - i) (q := d.length - i) (ya := some ⟨b, off + i * ρ.size, none⟩) hb
  (by simp only [Nat.min_def]; split <;> omega) hf' (by rw [hdn]; omega) (fun v hv => cp_atoms d hes v (List.mem_of_mem_drop hv))
 refine opwp_val (fun o ho ht => run_copy_call ho hvx hvy (hr _)) ?_
 have hpost := row_post (cells' := ((A ++ es ++ B).take (off + (i + 1) * ρ.size) ++ es.drop (i * ρ.size) ++ (A ++ es ++ B).drop (off + (i + 1) * ρ.size + (es.drop (i * ρ.size)).length)).toArray)
  (hv' := .slice (some ⟨b, off, none⟩) (d.length + 1) c) (d' := d.take (i + 1) ++ d.drop i) hs hj fun F w' hag _ hw' => by
  subst hw'
  refine row_oa (ct := ct) (A := A) (es := es.take ((i + 1) * ρ.size) ++ es.drop (i * ρ.size)) (B := (A ++ es ++ B).drop (off + (i + 1) * ρ.size + (es.drop (i * ρ.size)).length)) (setRow_heap w b _ _ ct (0, 0) hb) ?_ hA ?_ ?_ ?_ ?_
  ·rw [← List.append_assoc A]
   congr 2
   rw [List.append_assoc, List.take_append, List.take_of_length_le (by omega), hA, Nat.add_sub_cancel_left, List.take_append_of_le_length (by rw [hel]; omega)]
  ·rw [List.flatMap_append]
   exact (all_take (hes.mono hag) (i + 1)).append (all_drop (hes.mono hag) i)
  ·simp only [List.length_append, List.length_take, List.length_drop, hel]
   rw [List.length_append, List.length_append, hel] at hsz
   omega
  ·simp; omega
  ·simp; omega
 exact ⟨(), hpost.1, rfl, hpost.2⟩

theorem copy_core {a : Act} {w : World} {l m m' yc : Nat} {ya : Option Addr} {d' : List α} {es' : List Value} (hs : Sat E N Γ Ω a w) (hj : Ω[j]? = some (oa ρ hv S d)) (hlm : l < m) (hm : m ≤ d.length) (hu : P.underlying t = some (.slice e)) (h : ElT P e ρ bytes)
  (hm' : d'.length = m') (hes' : AllP (fr E Ω) w (d'.flatMap ρ.cp) es')
  (hsrc : d'.length * ρ.size = 0 ∨ ∃ b off cells ty fz, ya = some ⟨b, off, none⟩ ∧ w.heap[b]? = some (.cells cells ty fz) ∧ ∀ j, j < d'.length * ρ.size → cells[off + j]? = es'[j]?)
  (hvx : a.eval x = subV hv ρ.size l m) (hvy : a.eval y = .slice ya m' yc) :
  opwp P (.call ⟨.builtin .copy, #[x, y], #[t, t]⟩) ty a.eval w fun v w' => ∃ _ : Unit, Sat E N Γ (Ω.set j (oa ρ hv S (d.take l ++ d'.take (m - l) ++ d.drop (l + min d'.length (m - l))))) a w' ∧
   v = .int .i64 ((min d'.length (m - l) : Nat) : Int) ∧ Eff Ω (Ω.set j (oa ρ hv S (d.take l ++ d'.take (m - l) ++ d.drop (l + min d'.length (m - l))))) [j] w w' := by
 have hob := hs.objAt hj
 obtain ⟨ad, c, rfl, hdc, _⟩ := id hob
 obtain ⟨b, off, ct, A, es, B, rfl, rfl, hn, hb, hA, hes, hsz, _, hel⟩ := oa_row hob (by omega)
 rw [subV_at (by omega)] at hvx
 subst hm'
 obtain ⟨q, hq⟩ : ∃ q, q = min d'.length (m - l) := ⟨_, rfl⟩
 have hq1 : q ≤ d'.length := by omega
 have hq2 : q ≤ m - l := by omega
 have hel' : es'.length = d'.length * ρ.size := by rw [hes'.length, cp_len]
 have hqs : q * ρ.size ≤ d'.length * ρ.size := Nat.mul_le_mul_right _ hq1
 have hql : (es'.take (q * ρ.size)).length = q * ρ.size := by rw [List.length_take, hel']; omega
 have hlq : l * ρ.size + q * ρ.size ≤ d.length * ρ.size := by rw [← Nat.add_mul]; exact Nat.mul_le_mul_right _ (by omega)
 have hls : l * ρ.size ≤ d.length * ρ.size := by omega
 have hf := run_fc (P := P) (size := ρ.size) (m := q) (yc := yc) (ya := ya) (news := es'.take (q * ρ.size)) (w := w) hql
  (hsrc.imp (fun h0 => by omega) fun ⟨b2, off2, cells2, ty2, fz2, h1, h2, h3⟩ => ⟨b2, off2, cells2, ty2, fz2, h1, h2, fun k hk => by
   rw [h3 k (by omega), List.getElem?_take, if_pos hk]⟩)
 have hf' : (Builtin.firstCells ρ.size q (.slice ya d'.length yc)).run P w = .ok (es'.take (q * ρ.size)).toArray w := by
  cases ya <;> simpa [Builtin.firstCells] using hf
 have hr := fun ty' => run_copy_to (P := P) (ty := ty') hu h (b := b) (p := off + l * ρ.size) (n := m - l) (c := c - l) (m := d'.length) (yc := yc) (q := q) (ya := ya) hb
  hq hf' (by rw [hql]; simp only [List.length_append, hel]; omega) (fun v hv => cp_atoms d' hes' v (List.mem_of_mem_take hv))
 refine opwp_val (fun o ho ht => run_copy_call ho hvx hvy (hr _)) ?_
 have htk : d'.take (m - l) = d'.take q := by
  rcases Nat.le_total d'.length (m - l) with h | h
  ·rw [hq, Nat.min_eq_left h, List.take_of_length_le h, List.take_of_length_le (Nat.le_refl _)]
  ·rw [hq, Nat.min_eq_right h]
 rw [htk, ← hq]
 have hpost := row_post (cells' := ((A ++ es ++ B).take (off + l * ρ.size) ++ es'.take (q * ρ.size) ++ (A ++ es ++ B).drop (off + l * ρ.size + (es'.take (q * ρ.size)).length)).toArray)
  (hv' := .slice (some ⟨b, off, none⟩) d.length c) (d' := d.take l ++ d'.take q ++ d.drop (l + q)) hs hj fun F w' hag _ hw' => by
  subst hw'
  have hd1 : (A ++ es ++ B).drop (off + l * ρ.size + (es'.take (q * ρ.size)).length) = es.drop ((l + q) * ρ.size) ++ B := by
   rw [hql, List.append_assoc, List.drop_append, List.drop_eq_nil_of_le (by omega), List.nil_append, hA, List.drop_append_of_le_length (by rw [hel]; omega)]
   congr 2; rw [Nat.add_mul]; omega
  have ht1 : (A ++ es ++ B).take (off + l * ρ.size) = A ++ es.take (l * ρ.size) := by
   rw [List.append_assoc, List.take_append, List.take_of_length_le (by omega), hA, Nat.add_sub_cancel_left, List.take_append_of_le_length (by rw [hel]; omega)]
  refine row_oa (ct := ct) (A := A) (es := es.take (l * ρ.size) ++ es'.take (q * ρ.size) ++ es.drop ((l + q) * ρ.size)) (B := B) (setRow_heap w b _ _ ct (0, 0) hb) ?_ hA ?_ ?_ ?_ ?_
  ·rw [hd1, ht1]; simp
  ·rw [List.flatMap_append, List.flatMap_append]
   exact ((all_take (hes.mono hag) l).append (all_take (hes'.mono hag) q)).append (all_drop (hes.mono hag) (l + q))
  ·rw [hd1, ht1]
   simp only [List.length_append, List.length_take, List.length_drop, hel, hel'] at hsz ⊢
   rw [Nat.add_mul]; omega
  ·simp; omega
  ·simp; omega
 exact ⟨(), hpost.1, rfl, hpost.2⟩

theorem s_copyS {l m : Nat} {d' : List α} (hlm : l < m) (hm : m ≤ d.length) (hu : P.underlying t = some (.slice e)) (h : ElT P e ρ bytes)
  (hx : lkO Γ x = some (pv (subV hv ρ.size l m))) (hj : Ω[j]? = some (oa ρ hv S d)) (hy : lkO Γ y = some (slv ρ d')) :
  St P E N (.call ⟨.builtin .copy, #[x, y], #[t, t]⟩) ty Γ Ω [j] (fun _ : Unit => iv .i64 ((min d'.length (m - l) : Nat) : Int)) (fun _ => Ω.set j (oa ρ hv S (d.take l ++ d'.take (m - l) ++ d.drop (l + min d'.length (m - l))))) := by
 intro a w hs
 obtain ⟨ya, yc, hvy, hyc, hyat⟩ := hs.op hy
 obtain ⟨es', hes', hnc⟩ := sl_news hyat
 exact copy_core hs hj hlm hm hu h rfl hes' (hnc.imp id fun ⟨b, off, cells, ty, fz, h1, _, h3, h4⟩ => ⟨b, off, cells, ty, fz, h1, h3, h4⟩) (hs.op hx) hvy

theorem s_copyO {l m l2 m2 j2 : Nat} {hv2 : Value} {S2 : List Nat} {d2 : List α} (hlm : l < m) (hm : m ≤ d.length) (hlm2 : l2 < m2) (hm2 : m2 ≤ d2.length) (hu : P.underlying t = some (.slice e)) (h : ElT P e ρ bytes)
  (hx : lkO Γ x = some (pv (subV hv ρ.size l m))) (hj : Ω[j]? = some (oa ρ hv S d)) (hy : lkO Γ y = some (pv (subV hv2 ρ.size l2 m2))) (hj2 : Ω[j2]? = some (oa ρ hv2 S2 d2)) :
  St P E N (.call ⟨.builtin .copy, #[x, y], #[t, t]⟩) ty Γ Ω [j] (fun _ : Unit => iv .i64 ((min ((d2.take m2).drop l2).length (m - l) : Nat) : Int))
   (fun _ => Ω.set j (oa ρ hv S (d.take l ++ ((d2.take m2).drop l2).take (m - l) ++ d.drop (l + min ((d2.take m2).drop l2).length (m - l))))) := by
 intro a w hs
 have hvy : a.eval y = _ := hs.op hy
 have hob := hs.objAt hj2
 obtain ⟨ad, c, rfl, hdc, _⟩ := id hob
 obtain ⟨b, off, ct, A, es, B, rfl, rfl, hn, hb, hA, hes, hsz, _, hel⟩ := oa_row hob (by omega)
 rw [subV_at (by omega)] at hvy
 have hdl : ((d2.take m2).drop l2).length = m2 - l2 := by simp; omega
 have hml : (m2 - l2) * ρ.size + l2 * ρ.size = m2 * ρ.size := by rw [← Nat.add_mul]; congr 1; omega
 have hmd : m2 * ρ.size ≤ d2.length * ρ.size := Nat.mul_le_mul_right _ hm2
 refine copy_core (es' := (es.take (m2 * ρ.size)).drop (l2 * ρ.size)) hs hj hlm hm hu h hdl (all_drop (all_take hes m2) l2) (.inr ⟨b, off + l2 * ρ.size, _, ct, (0, 0), rfl, hb, fun k hk => ?_⟩) (hs.op hx) hvy
 rw [hdl] at hk
 rw [List.getElem?_toArray, List.append_assoc, List.getElem?_append_right (by omega), List.getElem?_append_left (by omega), List.getElem?_drop, List.getElem?_take, if_pos (by omega)]
 congr 1; omega

theorem s_appendSS {i k : Nat} (hik : i < k) (hk : k ≤ d.length) (hu : P.underlying t = some (.slice e)) (h : ElT P e ρ bytes)
  (hx : lkO Γ x = some (pv (subV hv ρ.size 0 i))) (hy : lkO Γ y = some (pv (subV hv ρ.size k d.length))) (hj : Ω[j]? = some (oa ρ hv S d)) :
  St P E N (.call ⟨.builtin .append, #[x, y], #[t, t]⟩) ty Γ Ω [j] (fun _ : Unit => pv (subV hv ρ.size 0 (i + (d.length - k)))) (fun _ => Ω.set j (oa ρ hv S (d.take i ++ d.drop k ++ d.drop (i + (d.length - k))))) := by
 intro a w hs
 have hvx : a.eval x = _ := hs.op hx
 have hvy : a.eval y = _ := hs.op hy
 have hob := hs.objAt hj
 obtain ⟨ad, c, rfl, hdc, _⟩ := id hob
 obtain ⟨b, off, ct, A, es, B, rfl, rfl, hn, hb, hA, hes, hsz, _, hel⟩ := oa_row hob (by omega)
 rw [subV_at (by omega)] at hvx ⊢
 simp only [Nat.zero_mul, Nat.add_zero, Nat.sub_zero] at hvx ⊢
 obtain ⟨ti, hi, his, _⟩ := h.info
 have e1 : (d.length - k) * ρ.size + k * ρ.size = d.length * ρ.size := by rw [← Nat.add_mul]; congr 1; omega
 have e2 : i * ρ.size ≤ k * ρ.size := Nat.mul_le_mul_right _ (by omega)
 have hdn : (es.drop (k * ρ.size)).length = (d.length - k) * ρ.size := by rw [List.length_drop, hel]; omega
 obtain ⟨ya, hya, hf⟩ : ∃ ya, subV (.slice (some ⟨b, off, none⟩) d.length c) ρ.size k d.length = .slice ya (d.length - k) (c - k) ∧
   (Builtin.firstCells ti.size (d.length - k) (.slice ya (d.length - k) (c - k))).run P w = .ok (es.drop (k * ρ.size)).toArray w := by
  by_cases hkd : k = d.length
  ·exact ⟨_, rfl, run_fc (by rw [his, hdn]) (.inl (by rw [hkd]; simp))⟩
  ·rw [subV_at (by omega)]
   refine ⟨_, rfl, run_fc (by rw [his, hdn]) (.inr ⟨b, off + k * ρ.size, _, ct, (0, 0), rfl, hb, fun q hq => ?_⟩)⟩
   rw [his] at hq
   rw [List.getElem?_toArray, List.append_assoc, List.getElem?_append_right (by omega), List.getElem?_append_left (by omega), List.getElem?_drop]; congr 1; omega
 rw [hya] at hvy
 have hr := fun ty' => run_app_room (P := P) t ty' e ti hu hi (off := off) (n := i) (c := c) hb hf (by rw [his, hdn]) (fun v hv => cp_atoms d hes v (List.mem_of_mem_drop hv)) (by omega)
  (by rw [his]; simpa using hsz)
 rw [his] at hr
 refine opwp_val (fun o ho ht => run_append_call ho hvx hvy (hr _)) ?_
 have hls : i * ρ.size ≤ d.length * ρ.size := by omega
 have hpost := row_post (cells' := ((A ++ es ++ B).take (off + i * ρ.size) ++ es.drop (k * ρ.size) ++ (A ++ es ++ B).drop (off + i * ρ.size + (es.drop (k * ρ.size)).length)).toArray)
  (hv' := .slice (some ⟨b, off, none⟩) d.length c) (d' := d.take i ++ d.drop k ++ d.drop (i + (d.length - k))) hs hj fun F w' hag _ hw' => by
  subst hw'
  have hd1 : (A ++ es ++ B).drop (off + i * ρ.size + (es.drop (k * ρ.size)).length) = es.drop ((i + (d.length - k)) * ρ.size) ++ B := by
   rw [hdn, List.append_assoc, List.drop_append, List.drop_eq_nil_of_le (by omega), List.nil_append, hA, List.drop_append_of_le_length (by rw [hel]; omega)]
   congr 2; rw [Nat.add_mul]; omega
  have ht1 : (A ++ es ++ B).take (off + i * ρ.size) = A ++ es.take (i * ρ.size) := by
   rw [List.append_assoc, List.take_append, List.take_of_length_le (by omega), hA, Nat.add_sub_cancel_left, List.take_append_of_le_length (by rw [hel]; omega)]
  refine row_oa (ct := ct) (A := A) (es := es.take (i * ρ.size) ++ es.drop (k * ρ.size) ++ es.drop ((i + (d.length - k)) * ρ.size)) (B := B) (setRow_heap w b _ _ ct (0, 0) hb) ?_ hA ?_ ?_ ?_ ?_
  ·rw [hd1, ht1]; simp
  ·rw [List.flatMap_append, List.flatMap_append]
   exact ((all_take (hes.mono hag) i).append (all_drop (hes.mono hag) k)).append (all_drop (hes.mono hag) (i + (d.length - k)))
  ·rw [hd1, ht1]
   have e3 : (i + (d.length - k)) * ρ.size = i * ρ.size + (d.length - k) * ρ.size := Nat.add_mul _ _ _
   simp only [List.length_append, List.length_take, List.length_drop, hel] at hsz ⊢
   omega
  ·simp; omega
  ·simp; omega
 exact ⟨(), hpost.1, rfl, hpost.2⟩
end
end Go.Dc

namespace Go.Dc
variable [DrawMode]
variable {P : Program} {E : Env} {N : Nat} {Γ : List (Nat × RP)} {Ω : List OB} {ty : TypeId}

section
variable {α : Type} {e t yt : TypeId} {ρ : Rep α} {bytes : Nat} {x y : Operand} {hv : Value} {S : List Nat} {d : List α} {j : Nat}

theorem all_zero {F : FP} {w : World} {zs : Array Value} {z : α} (hs : zs.size = ρ.size) (hz : ∀ F w, AllP F w (ρ.cp z) zs.toList) (n : Nat) :
  AllP F w ((List.replicate n z).flatMap ρ.cp) (Builtin.zeroCells zs n).toList := by
 obtain ⟨es, h1, h2⟩ := SlH.list (ρ := ρ) (F := F) (w := w) (cells := Builtin.zeroCells zs n) (off := 0) (d := List.replicate n z) fun i hi => by
  rw [List.length_replicate] at hi
  refine ⟨zs.toList, by rw [List.getElem_replicate]; exact hz _ _, fun k hk => ?_⟩
  rw [Nat.zero_add, ← Array.getElem?_toList]
  exact zero_get hs hi hk
 have hl : es.length = n * ρ.size := by rw [h1.length, cp_len, List.length_replicate]
 have hzl : (Builtin.zeroCells zs n).toList.length = n * ρ.size := by simp [Builtin.zeroCells, hs]
 have : es = (Builtin.zeroCells zs n).toList := by
  apply List.ext_getElem?
  intro k
  by_cases hk : k < n * ρ.size
  ·rw [← h2 k (by rw [List.length_replicate]; exact hk), Nat.zero_add, Array.getElem?_toList]
  ·rw [List.getElem?_eq_none (by omega), List.getElem?_eq_none (by omega)]
 rw [← this]; exact h1

theorem s_appendZS {i : Nat} {n : Int} {z : α} (hi : i ≤ d.length) (hcap : capV hv < i + n.toNat) (hby : (i + n.toNat) * bytes ≤ 140737488355328) (hn : 0 < n)
  (hu : P.underlying t = some (.slice e)) (hy' : P.underlying yt = some (.int .i64)) (h : ElT P e ρ bytes) (hz : ZeroT P e ρ z)
  (hx : lkO Γ x = some (pv (subV hv ρ.size 0 i))) (hj : Ω[j]? = some (oa ρ hv S d)) (hy : lkO Γ y = some (iv .i64 n)) :
  St P E N (.call ⟨.builtin .append, #[x, y], #[t, yt]⟩) ty Γ Ω [] (fun X : Value × List Nat => pv X.1) (fun X => Ω ++ [oa ρ X.1 X.2 (d.take i ++ List.replicate n.toNat z)]) := by
 intro a w hs
 have h1 : a.eval x = _ := hs.op hx
 have h2 : a.eval y = .int .i64 n := hs.op hy
 obtain ⟨ad, c, rfl, hdc, hob⟩ := hs.objAt hj
 have hcap' : c < i + n.toNat := hcap
 have hsub : subV (.slice ad d.length c) ρ.size 0 i = .slice ad i c := by
  have hadr : ad.map (·.add 0) = ad := addr_zero ad (by rcases hob with ⟨rfl, _⟩ | ⟨b, off, _, _, rfl, _⟩ <;> simp)
  simp [subV, hadr]
 rw [hsub] at h1
 obtain ⟨ti, zv, hti, hzz, hzs⟩ := hz
 obtain ⟨ti', hti', his, hib, z', hz', hzsz⟩ := h.info
 rw [hti] at hti'; cases hti'
 rw [hzz] at hz'; cases hz'
 have hbp := h.bpos
 have hpos := h.pos
 have hnn : (n.toNat : Int) = n := Int.toNat_of_nonneg (by omega)
 have hnb : i + n.toNat ≤ (i + n.toNat) * bytes := Nat.le_mul_of_pos_right _ hbp
 have hnb2 : n.toNat * bytes ≤ (i + n.toNat) * bytes := Nat.mul_le_mul_right _ (by omega)
 have hwrap : IntKind.i64.wrap n = n := by
  have : n ≤ 140737488355328 := by omega
  simp [IntKind.wrap, IntKind.bits, IntKind.signed]
  omega
 have hfit := growslice_fits (need := i + n.toNat) (old := c) (bytes := bytes) hcap' hby
 have hmul : n.toNat * ρ.size ≠ 0 := Nat.mul_ne_zero (by omega) (by omega)
 have a1 : ¬ n < 0 := by omega
 have a3 : ¬ (i + n.toNat ≤ c) := by omega
 have a4 : ¬ (281474976710656 < Builtin.nextslicecap (i + n.toNat) c * bytes) := by omega
 have a5 : ¬ (281474976710656 < n * (bytes : Int)) := by rw [← hnn, ← Int.natCast_mul]; omega
 have a6 : ¬ (9223372036854775807 < (i : Int) + max n 0) := by omega
 -- the old elements
 obtain ⟨es, hes, hec⟩ : ∃ es, AllP (fr E Ω) w ((d.take i).flatMap ρ.cp) es ∧ (i * ρ.size = 0 ∨ ∃ b off cells ty fz, ad = some ⟨b, off, none⟩ ∧ w.heap[b]? = some (.cells cells ty fz) ∧ ∀ j, j < i * ρ.size → cells[off + j]? = es[j]?) := by
  rcases hob with ⟨rfl, rfl, rfl⟩ | ⟨b, off, cells, ct, rfl, rfl, hb, hsz, hH⟩
  ·have : d = [] := List.eq_nil_of_length_eq_zero (by omega)
   subst this
   refine ⟨[], by simp [AllP], .inl ?_⟩
   have : i = 0 := by simpa using hi
   rw [this, Nat.zero_mul]
  ·obtain ⟨es, h3, h4⟩ := hH.list
   have hle : i * ρ.size ≤ d.length * ρ.size := Nat.mul_le_mul_right _ hi
   exact ⟨es.take (i * ρ.size), all_take h3 i, .inr ⟨b, off, cells, ct, _, rfl, hb, fun k hk => by rw [h4 k (by omega), List.getElem?_take, if_pos hk]⟩⟩
 have hlt : (d.take i).length = i := by rw [List.length_take]; omega
 have hel : es.length = i * ρ.size := by rw [hes.length, cp_len, hlt]
 have hf := run_fc (P := P) (size := ρ.size) (m := i) (yc := c) (ya := ad) (news := es) (w := w.drew) hel hec
 have hrun : ∀ ty, (Builtin.append_ #[t, yt] ty #[.slice ad i c, .int .i64 n]).run P w =
   .ok (.slice (some ⟨w.heap.size, 0, none⟩) (i + n.toNat) (grownCap w (i + n.toNat) c e)) (w.drew.alloc (.cells (es.toArray ++ Builtin.zeroCells zv.cells n.toNat ++ Builtin.zeroCells zv.cells (grownCap w (i + n.toNat) c e - (i + n.toNat))) e)) := fun ty => by
  simp [Builtin.append_, run_underlying hu, run_underlying hy', sizeOf, typeInfo, zeroValue, hti, hzz, asInt, asIntOf, hwrap, a1, a3, a4, a5, a6, his, hib, hmul, hf, Question.forced, newRow, grownCap]
 have hge : i + n.toNat ≤ grownCap w (i + n.toNat) c e := grow_cap
 refine opwp_val (fun o ho _ => run_append_call' ho h1 h2 (hrun _)) ⟨(.slice (some ⟨w.heap.size, 0, none⟩) (i + n.toNat) (grownCap w (i + n.toNat) c e), [w.heap.size]), ?_, rfl, by simp, fun b hb _ => heap_alloc_lt w.drew _ hb, own_add (by simp [oa])⟩
 refine hs.add ⟨rfl, rfl, rfl, by first | exact fun _ => Nat.le_refl _ | exact fun _ => Nat.le_add_right _ _⟩ (by simp) (fun _ hb => heap_alloc_lt w.drew _ hb) (fun b hb => ?_) (by simp [oa]) ?_
 ·rw [show b = w.heap.size from by simpa [oa] using hb]; exact ⟨Nat.le_refl _, by show _ < (w.drew.alloc _).heap.size; rw [World.size_alloc]; exact Nat.lt_succ_self _⟩
 ·have hgo := grown_oa (ρ := ρ) (F := fr E (Ω ++ [oa ρ (.slice (some ⟨w.heap.size, 0, none⟩) (i + n.toNat) (grownCap w (i + n.toNat) c e)) [w.heap.size] (d.take i ++ List.replicate n.toNat z)])) (d := d.take i) (d' := List.replicate n.toNat z) (es := es) (es' := (Builtin.zeroCells zv.cells n.toNat).toList)
   (zs := Builtin.zeroCells zv.cells (grownCap w (i + n.toNat) c e - (i + n.toNat))) (c := grownCap w (i + n.toNat) c e) (g := w.heap.size)
   (w' := w.drew.alloc (.cells (es.toArray ++ Builtin.zeroCells zv.cells n.toNat ++ Builtin.zeroCells zv.cells (grownCap w (i + n.toNat) c e - (i + n.toNat))) e)) (et := e)
   (AllP.mono (w := w) ⟨fun b (hb : b < w.heap.size) hf => fr_add hf (by have hb' : b < w.heap.size := hb; simp [oa]; omega), fun b hb _ => heap_alloc_lt w.drew _ hb⟩ hes) (all_zero hzsz hzs _) (by simp) (heap_alloc_new' w.drew _) (by simp [Builtin.zeroCells, hzsz, hlt]) (by simpa [hlt] using hge)
  rw [hlt, List.length_replicate] at hgo
  exact hgo

theorem r_overlaps {f : FuncId} {tR : TypeId} {hv2 : Value} {S2 : List Nat} {d2 : List α} {j2 l m : Nat} {ats : Array TypeId} {g : Operand}
  (hext : ∀ args w v w', (Extern.SlicesOverlaps.overlaps #[t, t] #[tR] args).run P w = .ok v w' → (callFunc f args).run P w = .ok (.value v) w')
  (hg : lkO Γ g = some (pv (.func (.func f) #[] #[]))) (hd2 : d2 ≠ []) (hlm : l < m) (hm : m ≤ capV hv) (hne : j2 ≠ j) (hu : P.underlying t = some (.slice e)) (h : ElT P e ρ bytes)
  (hx : lkO Γ x = some (pv hv2)) (hj2 : Ω[j2]? = some (oa ρ hv2 S2 d2)) (hy : lkO Γ y = some (pv (subV hv ρ.size l m))) (hj : Ω[j]? = some (oa ρ hv S d)) :
  Rd P E N (.call ⟨.value g, #[x, y], ats⟩) ty Γ Ω [j2, j] (bv false) := fun a w hs => by
 have hvg : a.eval g = _ := hs.op hg
 have hvx : a.eval x = hv2 := hs.op hx
 have hvy : a.eval y = _ := hs.op hy
 have hob2 := hs.objAt hj2
 have hc2 : 0 < capV hv2 := Nat.lt_of_lt_of_le (List.length_pos_iff.2 hd2) (hs.cap hj2)
 have hob := hs.objAt hj
 obtain ⟨ad2, c2, rfl, _, _⟩ := id hob2
 obtain ⟨ad, c, rfl, _, _⟩ := id hob
 have hm' : m ≤ c := hm
 obtain ⟨b2, off2, ct2, A2, es2, B2, rfl, rfl, _, hb2, hA2, _, hsz2, _, _⟩ := oa_row hob2 hc2
 obtain ⟨b, off, ct, A, es, B, rfl, rfl, _, hb, hA, _, hsz, _, _⟩ := oa_row hob (by omega)
 rw [subV_at (by omega)] at hvy
 have hbb : b2 ≠ b := fun e => by
  have h1 : b2 ∉ ow (Ω.set j2 dead) := mem_ow_set hj2 hs.nd (by simp [oa]) (by simp [dead])
  refine h1 (List.mem_flatMap.2 ⟨oa ρ (.slice (some ⟨b, off, none⟩) d.length c) [b] d, List.mem_of_getElem? (i := j) (by rw [List.getElem?_set_ne hne]; exact hj), ?_⟩)
  rw [e]; simp [oa]
 refine ⟨.bool false, [b2, b], rfl, ?_, fun w' hw' o ho _ => ?_⟩
 ·intro b' hb'
  rcases List.mem_cons.1 hb' with rfl | hb'
  ·exact ⟨size_of_get hb2, .inr ⟨j2, by simp, _, hj2, by simp [oa]⟩⟩
  ·rw [List.mem_singleton.1 hb']; exact ⟨size_of_get hb, .inr ⟨j, by simp, _, hj, by simp [oa]⟩⟩
 ·have hb2' : w'.heap[b2]? = _ := (hw' b2 (by simp)).trans hb2
  have hb' : w'.heap[b]? = _ := (hw' b (by simp)).trans hb
  have hp := h.pos
  have hsp : 0 < (A ++ es ++ B).toArray.size := by
   have : ρ.size ≤ c * ρ.size := Nat.le_mul_of_pos_left _ (by omega)
   simp only [List.size_toArray]; omega
  have hrun := Lib.run_overlaps_apart (P := P) w' t tR e hu ρ.size h.sizeOf ⟨b2, off2, none⟩ ⟨b, off + l * ρ.size, none⟩ d2.length c2 (m - l) (c - l) hbb ct2 ct (A2 ++ es2 ++ B2).toArray.size (A ++ es ++ B).toArray.size
   (by simp [World.shape?, hb2']) (by simp [World.shape?, hb']) (by omega) (by simp [World.frozen?, hb2']) (by simp [World.frozen?, hb2'])
  have := hext _ _ _ _ hrun
  simp [execOp, ho, resolve, hvg, hvx, hvy, Deferred.ofValue, invoke, this]
end
end Go.Dc

set_option linter.unusedSimpArgs false
namespace Go.Dc

variable {α β γ σ ρ : Type} {P Q : α → Prop}

def T (m : Option α) (Q : α → Prop) : Prop := ∃ r, m = some r ∧ Q r

theorem T.bind {m : Option α} {f : α → Option β} {Q : β → Prop} (h : T m P) (k : ∀ a, P a → T (f a) Q) : T (Option.bind m f) Q := by
 obtain ⟨a, rfl, ha⟩ := h
 exact k a ha
theorem T.ret {a : α} (h : Q a) : T (some a) Q := ⟨a, rfl, h⟩
theorem T.mono {m : Option α} (h : T m P) (k : ∀ a, P a → Q a) : T m Q := let ⟨a, h1, h2⟩ := h; ⟨a, h1, k a h2⟩
theorem T.letM {x : β} {k : β → Option α} (h : T (k x) Q) : T (letM x k) Q := h
theorem T.join {f : β → Option α} {g : (β → Option α) → Option α} (h : T (g f) Q) : T (joinM f g) Q := h
theorem T.cond {b : Bool} {x y : Option α} (h1 : b = true → T x Q) (h2 : b = false → T y Q) : T (bif b then x else y) Q := by
 cases b
 ·exact h2 rfl
 ·exact h1 rfl
theorem T.of {m : Option α} {a : α} (h : m = some a) (hq : Q a) : T m Q := ⟨a, h, hq⟩
theorem T.eq {m : Option α} {a : α} (h : T m (· = a)) : m = some a := by obtain ⟨b, h1, rfl⟩ := h; exact h1
theorem T.and {m : Option α} (h1 : T m P) (h2 : T m Q) : T m (fun a => P a ∧ Q a) := by
 obtain ⟨a, e, hp⟩ := h1; obtain ⟨b, e2, hq⟩ := h2
 rw [e] at e2; cases e2
 exact ⟨a, e, hp, hq⟩

theorem T.loop {f : σ → Option (Sum ρ σ)} {Q : ρ → Prop} (I : σ → Prop) (μ : σ → Nat) {s : σ} (h0 : I s)
  (step : ∀ s, I s → T (f s) fun o => match o with | .inl r => Q r | .inr s' => I s' ∧ μ s' < μ s) : T (loopC f s) Q := by
 obtain ⟨r, h1, h2⟩ := loopC_total I Q μ (fun s hs => by
  obtain ⟨o, h1, h2⟩ := step s hs
  match o, h1, h2 with
  | .inl r, h1, h2 => exact .inl ⟨r, h1, h2⟩
  | .inr s', h1, h2 => exact .inr ⟨s', h1, h2⟩) s h0
 exact ⟨r, h1, h2⟩

theorem letM_eq {β : Type} {x : α} {k : α → β} : letM x k = k x := rfl
theorem joinM_eq {f : β → Option α} {g : (β → Option α) → Option α} : joinM f g = g f := rfl

theorem idxM_eq {d : List α} {n : Int} (h0 : 0 ≤ n) (h1 : n.toNat < d.length) : idxM d n = some d[n.toNat] := by
 unfold idxM; rw [if_pos h0, List.getElem?_eq_getElem h1]
theorem idxM_nat {d : List α} {n : Nat} (h1 : n < d.length) : idxM d (n : Int) = some d[n] := by
 rw [idxM_eq (by omega) (by simpa using h1)]; simp
theorem slM_eq {d : List α} {lo hi : Int} (h0 : 0 ≤ lo) (h1 : lo ≤ hi) (h2 : hi ≤ d.length) : slM d lo hi = some ((d.take hi.toNat).drop lo.toNat) := by
 unfold slM; rw [if_pos ⟨h0, h1, h2⟩]
theorem appM_eq {b : Nat} {d e : List α} (h : (d.length + e.length) * b ≤ 140737488355328) : appM b d e = some (d ++ e) := by
 unfold appM; rw [if_pos h]
theorem mkM_eq {b : Nat} {z : α} {n : Int} (h0 : 0 ≤ n) (h : b * n.toNat ≤ 140737488355328) : mkM b z n = some (List.replicate n.toNat z) := by
 unfold mkM; rw [if_pos ⟨h0, h⟩]

theorem wrap64 {x : Int} (h0 : -9223372036854775808 ≤ x) (h1 : x ≤ 9223372036854775807) : IntKind.wrap .i64 x = x := by
 simp [IntKind.wrap, IntKind.signed, IntKind.bits]; omega
theorem iadd64 {x y : Int} (h0 : -9223372036854775808 ≤ x + y) (h1 : x + y ≤ 9223372036854775807) : iadd .i64 x y = x + y := wrap64 h0 h1
theorem isub64 {x y : Int} (h0 : -9223372036854775808 ≤ x - y) (h1 : x - y ≤ 9223372036854775807) : isub .i64 x y = x - y := wrap64 h0 h1
end Go.Dc

namespace Go.Dc
variable {α β γ σ ρ τ : Type} {Q : ρ → Prop}

abbrev onO (Q : ρ → Prop) (I : σ → Prop) (o : Sum ρ σ) : Prop := match o with | .inl r => Q r | .inr s => I s

theorem T.loopM {f : σ → Option (Sum ρ σ)} (I : σ → Prop) (μ : σ → Nat) {s : σ} (h0 : I s)
  (step : ∀ s, I s → T (f s) (onO Q fun s' => I s' ∧ μ s' < μ s)) : T (loopC f s) Q :=
 T.loop I μ h0 fun s hs => (step s hs).mono fun o ho => by
  match o, ho with
  | .inl r, h => exact h
  | .inr s', h => exact h

theorem T.joinP {S : Type} {f : S → Option ρ} {g : (S → Option ρ) → Option ρ} (P : S → Prop) (h1 : ∀ x, P x → T (f x) Q) (h2 : ∀ k : S → Option ρ, (∀ x, P x → T (k x) Q) → T (g k) Q) : T (joinM f g) Q := h2 f h1

theorem T.loopK {f : σ → Option (Sum ρ σ)} (n : Nat) (I : Nat → σ → Prop) {s : σ} (h0 : I 0 s)
  (step : ∀ k s, I k s → T (f s) (onO Q fun s' => k < n ∧ I (k + 1) s')) : T (loopC f s) Q := by
 suffices h : ∀ m k s, n + 1 - k ≤ m → I k s → T (loopC f s) Q from h _ 0 s (Nat.le_refl _) h0
 intro m
 induction m with
 | zero =>
  intro k s hm hs
  obtain ⟨o, h1, h2⟩ := step k s hs
  rw [loopC_eq, h1]
  match o, h2 with
  | .inl r, h2 => exact ⟨r, rfl, h2⟩
  | .inr s', h2 => have := h2.1; omega
 | succ m ih =>
  intro k s hm hs
  obtain ⟨o, h1, h2⟩ := step k s hs
  rw [loopC_eq, h1]
  match o, h2 with
  | .inl r, h2 => exact ⟨r, rfl, h2⟩
  | .inr s', h2 => exact ih (k + 1) s' (by have := h2.1; omega) h2.2

theorem find_loop {l : List α} {f : Int → Option (Sum (Sum ρ Unit) Int)} (g : α → Option ρ)
  (h : ∀ i (hi : i < l.length), f (i : Int) = some (match g l[i] with | some r => .inl (.inl r) | none => .inr ((i : Int) + 1)))
  (hend : f (l.length : Int) = some (.inl (.inr ()))) : loopC f 0 = some (match l.findSome? g with | some r => .inl r | none => .inr ()) := by
 suffices hh : ∀ m i, l.length - i ≤ m → i ≤ l.length → loopC f (i : Int) = some (match (l.drop i).findSome? g with | some r => .inl r | none => .inr ()) by
  simpa using hh _ 0 (Nat.le_refl _) (Nat.zero_le _)
 intro m
 induction m with
 | zero =>
  intro i h1 h2
  have e : i = l.length := by omega
  subst e
  rw [loopC_eq, hend]; simp
 | succ m ih =>
  intro i h1 h2
  by_cases e : i = l.length
  ·subst e; rw [loopC_eq, hend]; simp
  ·have hi : i < l.length := by omega
   rw [loopC_eq, h i hi, List.drop_eq_getElem_cons hi, List.findSome?_cons]
   cases hg : g l[i] with
   | some r => rfl
   | none =>
    simp only [Option.bind_some]
    exact ih (i + 1) (by omega) (by omega)

theorem any_loop {l : List α} {f : Int → Option (Sum (Sum ρ Unit) Int)} (p : α → Bool) (b : ρ)
  (h : ∀ i (hi : i < l.length), f (i : Int) = some (bif p l[i] then .inl (.inl b) else .inr ((i : Int) + 1)))
  (hend : f (l.length : Int) = some (.inl (.inr ()))) : loopC f 0 = some (bif l.any p then .inl b else .inr ()) := by
 rw [find_loop (fun x => bif p x then some b else none) (fun i hi => by rw [h i hi]; cases p l[i] <;> rfl) hend]
 congr 1
 clear h hend
 induction l with
 | nil => rfl
 | cons x l ih => cases hp : p x <;> simp [List.findSome?_cons, hp, ih]

theorem some_bind {a : α} {f : α → Option β} : Option.bind (some a) f = f a := rfl
theorem sumK_inr {A B R : Type} {kr : A → Option R} {kb : B → Option R} {b : B} : sumK kr kb (.inr b) = kb b := rfl

theorem any_bind {l : List α} {p : α → Bool} {f : Int → Option (Sum (Sum Bool Unit) Int)} 
  (h : ∀ i (hi : i < l.length), f (i : Int) = some (bif p l[i] then .inl (.inl true) else .inr ((i : Int) + 1)))
  (hend : f (l.length : Int) = some (.inl (.inr ()))) : (loopC f 0).bind (sumK (fun a : Bool => some a) fun _ : Unit => some false) = some (l.any p) := by
 rw [any_loop p true h hend]
 cases l.any p <;> rfl

theorem mkM_T {b : Nat} {z : α} {n : Nat} (h : b * n ≤ 140737488355328) : mkM b z (n : Int) = some (List.replicate n z) := by
 rw [mkM_eq (by omega) (by simpa using h)]; simp
theorem iadd1 {n : Nat} (h : n ≤ 4611686018427387904) : iadd .i64 (n : Int) 1 = ((n + 1 : Nat) : Int) := by
 rw [iadd64 (by omega) (by omega)]; rfl
end Go.Dc

namespace Go.Dc
variable [DrawMode]
variable {P : Program} {E : Env} {N : Nat} {Γ : List (Nat × RP)} {Ω : List OB} {ty : TypeId}

theorem Rd.to {op : Op} {J : List Nat} {φ ψ : RP} (h : Rd P E N op ty Γ Ω J φ) (e : φ = ψ) : Rd P E N op ty Γ Ω J ψ := e ▸ h

section
variable {α : Type} {ρ : Rep α} {hv : Value} {S : List Nat} {d d' : List α} {j : Nat}
theorem odata (hj : Ω[j]? = some (oa ρ hv S d)) (e : d = d') : ∀ a w, Sat E N Γ Ω a w → Sat E N Γ (Ω.set j (oa ρ hv S d')) a w := by
 subst e
 intro a w hs
 rw [set_same hj]; exact hs
end

def delM {α : Type} (s : List α) (i j : Int) : Option (List α) := if 0 ≤ i ∧ i ≤ j ∧ j ≤ s.length then some (s.take i.toNat ++ s.drop j.toNat) else none
def insM {α : Type} (bytes : Nat) (s : List α) (i : Int) (v : List α) : Option (List α) :=
 if 0 ≤ i ∧ i ≤ s.length ∧ v.length = 1 ∧ (s.length + 1) * bytes ≤ 140737488355328 then some (s.take i.toNat ++ v ++ s.drop i.toNat) else none
section
variable {α : Type} {s d : List α} {i j : Int} {bytes : Nat} {v r : List α} {z p : α} {n : Nat}
theorem delM_some (h : delM s i j = some r) : 0 ≤ i ∧ i ≤ j ∧ j ≤ s.length ∧ r = s.take i.toNat ++ s.drop j.toNat := by
 unfold delM at h
 split at h
 ·rename_i hh; exact ⟨hh.1, hh.2.1, hh.2.2, by simpa using h.symm⟩
 ·cases h
theorem insM_some (h : insM bytes s i v = some r) : ∃ p, v = [p] ∧ 0 ≤ i ∧ i ≤ s.length ∧ (s.length + 1) * bytes ≤ 140737488355328 ∧ r = s.take i.toNat ++ p :: s.drop i.toNat := by
 unfold insM at h
 split at h
 ·rename_i hh
  obtain ⟨h1, h2, h3, h4⟩ := hh
  obtain ⟨p, rfl⟩ := List.length_eq_one_iff.1 h3
  exact ⟨p, rfl, h1, h2, h4, by simpa using h.symm⟩
 ·cases h
theorem slM0 {k : Int} {d : List α} (h0 : 0 ≤ k) (h1 : k ≤ d.length) : slM d 0 k = some ((d.take k.toNat).drop (0 : Int).toNat) := slM_eq (Int.le_refl _) h0 h1
theorem slME {k : Int} {d : List α} (h0 : 0 ≤ k) (h1 : k ≤ d.length) : slM d k d.length = some ((d.take (d.length : Int).toNat).drop k.toNat) := slM_eq h0 h1 (Int.le_refl _)
theorem del_same (h : i = j) : s = s.take i.toNat ++ s.drop j.toNat := by rw [h, List.take_append_drop]
theorem del_len {a b : Nat} (h1 : a ≤ b) (h2 : b ≤ s.length) : (s.take a ++ s.drop b ++ s.drop (a + (s.length - b))).length = s.length := by simp; omega
theorem del_cut {a b : Nat} (h1 : a ≤ b) (h2 : b ≤ s.length) (X Y : List α) : ((s.take a ++ s.drop b ++ X).take (a + (s.length - b)) ++ Y).take (a + (s.length - b)) = s.take a ++ s.drop b := by
 have hl : (s.take a ++ s.drop b).length = a + (s.length - b) := by simp; omega
 rw [← hl, List.take_left, List.take_left]
theorem del_cut2 {a b : Nat} {X Y Z : List α} (h1 : a ≤ b) (h2 : b ≤ s.length) : ((s.take a ++ s.drop b ++ X).take (a + (s.length - b)) ++ Y ++ Z).take (a + (s.length - b)) = s.take a ++ s.drop b := by
 rw [List.append_assoc _ Y Z]; exact del_cut h1 h2 X (Y ++ Z)
theorem ins_end (h : i = (s.length : Int)) : s ++ [p] = s.take i.toNat ++ p :: s.drop i.toNat := by rw [h]; simp
theorem ins_new : s.take n ++ List.replicate ((s.length + 1 - n : Nat) : Int).toNat z = s.take n ++ List.replicate (s.length + 1 - n) z := by simp
theorem ins_newlen (h : n ≤ s.length) : (s.take n ++ List.replicate (s.length + 1 - n) z).length = s.length + 1 := by simp; omega
theorem cut_at (h : n ≤ s.length) : ∃ A B, s = A ++ B ∧ A.length = n := ⟨s.take n, s.drop n, by simp, by simp; omega⟩
theorem take1 {k : Nat} (h : 1 ≤ k) : [p].take k = [p] := List.take_of_length_le (by simpa using h)
theorem ins_put (h : n < s.length) (L : Nat) (hL : L = s.length + 1) :
  (s.take n ++ List.replicate (s.length + 1 - n) z).take n ++ [p].take (L - n) ++ (s.take n ++ List.replicate (s.length + 1 - n) z).drop (n + min [p].length (L - n)) = s.take n ++ p :: List.replicate (s.length - n) z := by
 subst hL
 obtain ⟨A, B, rfl, rfl⟩ := cut_at (s := s) (n := n) (by omega)
 rw [take1 (by omega), List.length_singleton, Nat.min_eq_left (by omega), List.take_left, List.take_left, ← List.drop_drop, List.drop_left]
 simp
 omega
theorem ins_putlen (h : n < s.length) : (s.take n ++ p :: List.replicate (s.length - n) z).length = s.length + 1 := by simp; omega
theorem ins_rest (h : n < s.length) (L : Nat) (hL : L = s.length + 1) :
  (s.take n ++ p :: List.replicate (s.length - n) z).take (n + 1) ++ ((s.take s.length).drop n).take (L - (n + 1)) ++ (s.take n ++ p :: List.replicate (s.length - n) z).drop (n + 1 + min ((s.take s.length).drop n).length (L - (n + 1))) = s.take n ++ p :: s.drop n := by
 subst hL
 obtain ⟨A, B, rfl, rfl⟩ := cut_at (s := s) (n := n) (by omega)
 have e1 : (A ++ p :: List.replicate ((A ++ B).length - A.length) z) = (A ++ [p]) ++ List.replicate B.length z := by simp
 have e2 : A.length + 1 = (A ++ [p]).length := by simp
 have e3 : (A ++ B).length + 1 - (A ++ [p]).length = B.length := by simp
 rw [List.take_length, List.drop_left, List.take_left, e1, e2, List.take_left, e3, List.take_length, Nat.min_self, ← List.drop_drop, List.drop_left]
 simp
theorem ins_shlen (h : n < s.length) : (s.take (n + 1) ++ s.drop n).length = s.length + 1 := by simp; omega
theorem ins_fin (h : n < s.length) (L : Nat) (hL : L = s.length + 1) :
  (s.take (n + 1) ++ s.drop n).take n ++ [p].take (L - n) ++ (s.take (n + 1) ++ s.drop n).drop (n + min [p].length (L - n)) = s.take n ++ p :: s.drop n := by
 subst hL
 have e1 : (s.take (n + 1) ++ s.drop n).take n = s.take n := by
  rw [List.take_append_of_le_length (by rw [List.length_take]; omega), List.take_take, Nat.min_eq_left (by omega)]
 have e2 : n + 1 = (s.take (n + 1)).length := by rw [List.length_take]; omega
 have e3 : (s.take (n + 1) ++ s.drop n).drop (n + 1) = s.drop n := by
  conv => lhs; rw [show (s.take (n + 1) ++ s.drop n).drop (n + 1) = (s.take (n + 1) ++ s.drop n).drop (s.take (n + 1)).length from by rw [← e2]]
  exact List.drop_left
 rw [e1, take1 (by omega), List.length_singleton, Nat.min_eq_left (by omega), e3]
 simp
theorem iadd_1 (h : (s.length + 1) * bytes ≤ 140737488355328) (hb : 0 < bytes) (hn : n ≤ s.length) : iadd .i64 (n : Int) 1 = ((n + 1 : Nat) : Int) := by
 have : s.length + 1 ≤ (s.length + 1) * bytes := Nat.le_mul_of_pos_right _ hb
 exact iadd1 (by omega)
theorem isub_1 (h : (s.length + 1) * bytes ≤ 140737488355328) (hb : 0 < bytes) (h0 : 0 ≤ i) (h1 : i ≤ s.length) : isub .i64 ((s.length + 1 : Nat) : Int) i = ((s.length + 1 - i.toNat : Nat) : Int) := by
 have : s.length + 1 ≤ (s.length + 1) * bytes := Nat.le_mul_of_pos_right _ hb
 rw [isub64 (by omega) (by omega)]; omega
end
def UpO (Ω : List OB) : List RP → List RP → Prop
 | [], [] => True
 | φ :: φs, ψ :: ψs => (φ = ψ ∨ (∃ (α : Type) (ρ : Rep α) (hv : Value) (S : List Nat) (d : List α) (j : Nat), φ = pv hv ∧ Ω[j]? = some (oa ρ hv S d) ∧ ψ = slv ρ d) ∨
   ∃ (α : Type) (ρ : Rep α), φ = pv (.slice none 0 0) ∧ ψ = slv ρ []) ∧ UpO Ω φs ψs
 | _, _ => False
theorem UpO.all {a : Act} {w : World} (hs : Sat E N Γ Ω a w) : ∀ {φs ψs : List RP} {vs : List Value}, UpO Ω φs ψs → AllP (fr E Ω) w φs vs → AllP (fun _ => True) w ψs vs
 | [], [], [], _, _ => trivial
 | φ :: φs, ψ :: ψs, v :: vs, ⟨h1, h2⟩, ⟨h3, h4⟩ => by
  refine ⟨?_, UpO.all hs h2 h4⟩
  rcases h1 with rfl | ⟨α, ρ, hv, S, d, j, rfl, hj, rfl⟩ | ⟨α, ρ, rfl, rfl⟩
  ·exact φ.mono (.refl fun _ _ _ => trivial) h3
  ·rw [show v = hv from h3]; exact oa_sl (hs.objAt hj) (fun _ _ _ => trivial) (fun _ _ => trivial)
  ·exact nil_sl h3
 | [], [], _ :: _, _, h => h.elim
 | [], _ :: _, _, h, _ => h.elim
 | _ :: _, [], _, h, _ => h.elim
 | _ :: _, _ :: _, [], _, h => h.elim
end Go.Dc

namespace Go.Dc
variable [DrawMode]
variable {P : Program} {E : Env} {N : Nat} {Γ : List (Nat × RP)} {Ω : List OB} {ty : TypeId}

def sidxM (s : ByteArray) (i : Int) : Option Int := if 0 ≤ i then (s[i.toNat]?).map fun b => (b.toNat : Int) else none

theorem r_sidx {t : TypeId} {x i : Operand} {k : IntKind} {s : ByteArray} {n y : Int} (h : sidxM s n = some y) (hu : P.underlying t = some .string) (hx : lkO Γ x = some (sv s)) (hi : lkO Γ i = some (iv k n)) :
  Rd P E N (.index t x i) ty Γ Ω [] (iv .u8 y) := .mk fun a w hs => by
 have h1 : a.eval x = .string s := hs.op hx
 have h2 : a.eval i = .int k n := hs.op hi
 unfold sidxM at h
 by_cases h0 : 0 ≤ n
 ·rw [if_pos h0] at h
  cases hb : s[n.toNat]? with
  | none => rw [hb] at h; cases h
  | some b =>
   rw [hb] at h
   cases h
   exact ⟨_, rfl, fun w' o ho _ => by simp [execOp, ho, h1, h2, Instr.index, asIntOf, run_underlying hu, h0, hb]⟩
 ·rw [if_neg h0] at h; cases h

def sconM (a b : ByteArray) : Option ByteArray := if ((a.size + b.size : Nat) : Int) > IntKind.i64.max then none else some (a ++ b)

theorem r_sadd {t yt : TypeId} {x y : Operand} {s u r : ByteArray} (h : sconM s u = some r) (hx : lkO Γ x = some (sv s)) (hy : lkO Γ y = some (sv u)) : Rd P E N (.binOp .add t x y yt) ty Γ Ω [] (sv r) := .mk fun a w hs => by
 have h1 : a.eval x = .string s := hs.op hx
 have h2 : a.eval y = .string u := hs.op hy
 unfold sconM at h
 by_cases h0 : ((s.size + u.size : Nat) : Int) > IntKind.i64.max
 ·rw [if_pos h0] at h; cases h
 ·rw [if_neg h0] at h
  cases h
  have hg : ∀ w', (eqGuard .add t x y (.string s) (.string u)).run P w' = .ok () w' := fun w' => by unfold eqGuard; rfl
  have hb : binOp .add t (.string s) (.string u) = Op.stringOp .add s u := rfl
  exact ⟨_, rfl, fun w' o ho _ => by
   have hm : IntKind.i64.max = 9223372036854775807 := by decide
   simp [execOp, ho, h1, h2, hg, hb, Op.stringOp]
   omega⟩

section
variable {α : Type} {e t : TypeId} {ρ : Rep α} {bytes : Nat} {x y : Operand} {hv : Value} {S : List Nat} {d : List α} {j : Nat}

def slf {α : Type} (ρ : Rep α) (d : List α) : RP :=
 ⟨fun F w v => ∃ a, v = .slice a d.length d.length ∧ SlAt ρ F w a d, fun ag ⟨a, h1, h3⟩ => ⟨a, h1, h3.mono ag⟩⟩

theorem r_full {hi mx : Operand} {k1 k2 : IntKind} (hu : P.underlying t = some (.slice e)) (h : ElT P e ρ bytes) (hx : lkO Γ x = some (slv ρ d)) (hhi : lkO Γ hi = some (iv k1 (d.length : Int))) (hmx : lkO Γ mx = some (iv k2 (d.length : Int))) :
  Rd P E N (.slice t x none (some hi) (some mx)) ty Γ Ω [] (slf ρ d) := .mk fun a w hs => by
 obtain ⟨ad, c, hv, hc, hat⟩ := hs.op hx
 have e2 : a.eval hi = .int k1 (d.length : Int) := hs.op hhi
 have e3 : a.eval mx = .int k2 (d.length : Int) := hs.op hmx
 by_cases h0 : d = []
 ·subst h0
  refine ⟨.slice (if 0 = 0 then ad else ad.map (·.add (0 * ρ.size))) 0 0, ⟨_, rfl, fun h => absurd rfl h⟩, fun w' o ho _ => ?_⟩
  have hb : (Instr.sliceBounds true 0 c none (some (.int k1 (([] : List α).length : Int))) (some (.int k2 (([] : List α).length : Int)))).run P w' = .ok (0, 0, 0) w' := by
   simp [Instr.sliceBounds, Instr.sliceBound, asIntOf]
  have hb' : (Instr.sliceBounds true 0 c none (some (.int k1 0)) (some (.int k2 0))).run P w' = .ok (0, 0, 0) w' := by simpa using hb
  simp [execOp, ho, hv, e2, e3, Instr.sliceAt, run_underlying hu, Instr.slice, hb', h.sizeOf]
 ·obtain ⟨b, off, cells, ty', fz, rfl, hF, hb0, hH⟩ := hat h0
  refine ⟨.slice (some ⟨b, off, none⟩) d.length d.length, ⟨_, rfl, fun _ => ⟨b, off, cells, ty', fz, rfl, hF, hb0, hH⟩⟩, fun w' o ho _ => ?_⟩
  have hb : (Instr.sliceBounds true d.length c none (some (.int k1 (d.length : Int))) (some (.int k2 (d.length : Int)))).run P w' = .ok (0, d.length, d.length) w' := by
   simp [Instr.sliceBounds, Instr.sliceBound, asIntOf, hc]
  have hne : d.length ≠ 0 := fun e => h0 (List.eq_nil_of_length_eq_zero e)
  simp [execOp, ho, hv, e2, e3, Instr.sliceAt, run_underlying hu, Instr.slice, hb, h.sizeOf, hne, addr_add]

theorem s_appendF {d' d'' : List α} (hd : appM bytes d d' = some d'') (hne : Nat.ble 1 d'.length = true) (hu : P.underlying t = some (.slice e)) (h : ElT P e ρ bytes)
  (hx : lkO Γ x = some (slf ρ d)) (hy : lkO Γ y = some (slv ρ d')) :
  St P E N (.call ⟨.builtin .append, #[x, y], #[t, t]⟩) ty Γ Ω [] (fun X : Value × List Nat => pv X.1) (fun X => Ω ++ [oa ρ X.1 X.2 d'']) := by
 intro a w hs
 obtain ⟨hsz, rfl⟩ := appM_some hd
 have hne' : 1 ≤ d'.length := Nat.le_of_ble_eq_true hne
 obtain ⟨base, hvx, hxat⟩ := hs.op hx
 obtain ⟨ya, yc, hvy, hyc, hyat⟩ := hs.op hy
 obtain ⟨i, hi, his, hib, z, hz, hzs⟩ := h.info
 obtain ⟨news, hnews, hnc⟩ := sl_news hyat
 have hnl : news.length = d'.length * ρ.size := by rw [hnews.length, cp_len]
 obtain ⟨es, hes, hec⟩ := sl_news hxat
 have hnum := app_num hsz h.bpos (show d.length < d.length + d'.length by omega)
 have hf := run_fc (P := P) (size := i.size) (m := d'.length) (yc := yc) (ya := ya) (news := news) (w := w.drew) (by rw [his, hnl])
  (by rw [his]; exact hnc.imp id fun ⟨b, off, cells, ty, fz, h1, _, h3, h4⟩ => ⟨b, off, cells, ty, fz, h1, h3, h4⟩)
 have hold := run_fc (P := P) (size := i.size) (m := d.length) (yc := d.length) (ya := base) (news := es) (w := w.drew) (by rw [his, hes.length, cp_len])
  (by rw [his]; exact hec.imp id fun ⟨b, off, cells, ty, fz, h1, _, h3, h4⟩ => ⟨b, off, cells, ty, fz, h1, h3, h4⟩)
 have hr := run_app_grow (P := P) t ty e i z hu hi hz hold hf (by omega) hnum.1 (by rw [hib]; exact hnum.2)
 have hst : ∀ b, b < w.heap.size → ∀ o, (w.drew.alloc o).heap[b]? = w.heap[b]? := fun b hb o => heap_alloc_lt w.drew o hb
 refine opwp_val (fun o ho ht => run_append_call ho hvx hvy (by rw [ht]; exact hr)) ⟨(.slice (some ⟨w.heap.size, 0, none⟩) (d.length + d'.length) (grownCap w (d.length + d'.length) d.length e), [w.heap.size]), ?_, rfl, by simp, fun b hb _ => hst b hb _, own_add (by simp [oa])⟩
 refine hs.add ⟨rfl, rfl, rfl, by first | exact fun _ => Nat.le_refl _ | exact fun _ => Nat.le_add_right _ _⟩ (by simp) (fun b hb => hst b hb _) (fun b hb => ?_) (by simp [oa]) ?_
 ·rw [show b = w.heap.size from by simpa [oa] using hb]; exact ⟨Nat.le_refl _, by show _ < (w.drew.alloc _).heap.size; rw [World.size_alloc]; exact Nat.lt_succ_self _⟩
 ·have hag : ∀ o, Ag (fr E Ω) (fr E (Ω ++ [oa ρ (.slice (some ⟨w.heap.size, 0, none⟩) (d.length + d'.length) (grownCap w (d.length + d'.length) d.length e)) [w.heap.size] (d ++ d')])) w (w.drew.alloc o) := fun o =>
   ⟨fun b hb hf => fr_add hf (fun hm => by
    have : b = w.heap.size := (by simpa [oa] using hm)
    omega), fun b hb _ => hst b hb _⟩
  refine grown_oa (hes.mono (hag _)) (hnews.mono (hag _)) rfl (heap_alloc_new' w.drew _) ?_ grow_cap
  simp [Builtin.zeroCells, hzs]

end
end Go.Dc

namespace Go.Dc

theorem ba_loop (bs : ByteArray) : ∀ n i r, bs.size - i ≤ n → ByteArray.toList.loop bs i r = r.reverse ++ bs.data.toList.drop i := by
 intro n
 induction n with
 | zero =>
  intro i r h
  rw [ByteArray.toList.loop, if_neg (by omega), List.drop_eq_nil_of_le (by simp; exact Nat.le_of_sub_eq_zero (by have : bs.data.size = bs.size := rfl; omega)), List.append_nil]
 | succ n ih =>
  intro i r h
  rw [ByteArray.toList.loop]
  by_cases hi : i < bs.size
  ·have hi' : i < bs.data.toList.length := by simpa using hi
   rw [if_pos hi, ih _ _ (by omega), List.drop_eq_getElem_cons hi']
   have : bs.get! i = bs.data.toList[i] := by
    show bs.data[i]! = _
    rw [getElem!_pos bs.data i hi]; simp
   rw [this]; simp
  ·rw [if_neg hi, List.drop_eq_nil_of_le (by simp; exact Nat.le_of_sub_eq_zero (by have : bs.data.size = bs.size := rfl; omega)), List.append_nil]

theorem ba_toList (bs : ByteArray) : bs.toList = bs.data.toList := by
 unfold ByteArray.toList
 rw [ba_loop bs _ 0 [] (Nat.le_refl _)]; simp

theorem ba_inj {a b : ByteArray} : a.toList = b.toList ↔ a = b := by
 rw [ba_toList, ba_toList]
 constructor
 ·intro h
  have := Array.toList_inj.1 h
  cases a; cases b; simp only at this; rw [this]
 ·rintro rfl; rfl
theorem ba_beq {a b : ByteArray} : (a.toList == b.toList) = decide (a = b) := by
 rw [Bool.eq_iff_iff, beq_iff_eq, decide_eq_true_iff, ba_inj]
end Go.Dc

namespace Go.Dc
variable [DrawMode]
variable {P : Program} {E : Env} {N : Nat} {Γ : List (Nat × RP)} {Ω : List OB} {ty : TypeId} {α β : Type} [DecidableEq α] {κ : Rep α} {ν : Rep β} {kt : TypeId}

def Ents {α β : Type} (κ : Rep α) (ν : Rep β) (F : FP) (w : World) (l : List MapEntry) (d : List (α × β)) : Prop :=
 l.length = d.length ∧ ∀ (i : Nat) (e : MapEntry) (p : α × β), l[i]? = some e → d[i]? = some p → (sh κ p.1).h F w e.key ∧ (sh ν p.2).h F w e.val
theorem Ents.mono {α β : Type} {κ : Rep α} {ν : Rep β} {F F' : FP} {w w' : World} (a : Ag F F' w w') {l : List MapEntry} {d : List (α × β)} (h : Ents κ ν F w l d) : Ents κ ν F' w' l d :=
 ⟨h.1, fun i e p h1 h2 => let ⟨q1, q2⟩ := h.2 i e p h1 h2; ⟨(sh κ p.1).mono a q1, (sh ν p.2).mono a q2⟩⟩

def om {α β : Type} (κ : Rep α) (ν : Rep β) (b : Nat) (d : List (α × β)) : OB where
 S := [b]
 h := fun F w => ∃ es clock, w.heap[b]? = some (.map es clock) ∧ Ents κ ν F w es.toList d ∧ (∀ e ∈ es.toList, e.born < clock) ∧ (es.toList.map (·.born)).Nodup
 mono := by
  rintro F F' w w' ag hs ⟨es, clock, h1, h2, h3⟩
  exact ⟨es, clock, by rw [hs b (by simp)]; exact h1, h2.mono ag, h3⟩

def mapIx (d : List (α × β)) (x : α) : Option Nat := d.findIdx? fun p => decide (p.1 = x)
def mapPut (d : List (α × β)) (x : α) (y : β) : List (α × β) := match mapIx d x with | some i => d.set i (x, y) | none => d ++ [(x, y)]
def mapHas (d : List (α × β)) (x : α) : Bool := (mapIx d x).isSome
def mapGet (d : List (α × β)) (x : α) (z : β) : β := match mapIx d x with | some i => (d[i]?.map (·.2)).getD z | none => z

structure KeyT {α : Type} [DecidableEq α] (P : Program) (kt : TypeId) (κ : Rep α) : Prop where
 check : ∀ (x : α) (F : FP) (w : World) (v : Value), (sh κ x).h F w v → ∀ (e : Bool) (w' : World), (Instr.checkKey e 10000 kt v).run P w' = .ok () w'
 eq : ∀ (x y : α) (F : FP) (w : World) (u v : Value), (sh κ x).h F w u → (sh κ y).h F w v → ∀ (w' : World), (Op.equal kt u v).run P w' = .ok (decide (x = y)) w'
 stay : ∀ (x : α) (F : FP) (w : World) (u v : Value), (sh κ x).h F w u → (sh κ x).h F w v → Instr.sameBits 10000 u v = true
 now : ∀ (k : TypeDesc), P.underlying kt = some k → ∀ (u v : Value) (r : Bool), Instr.sameNow k u v = some r → ∀ w', (Op.equal kt u v).run P w' = .ok r w'
 und : ∃ k, P.underlying kt = some k

theorem run_findAsking (hK : KeyT P kt κ) {F : FP} {w : World} {x : α} {v : Value} (hx : (sh κ x).h F w v) : ∀ {l : List MapEntry} {d : List (α × β)}, Ents κ ν F w l d → ∀ (n : Nat) (w' : World),
  ∃ r, (Instr.findAsking kt v l n).run P w' = .ok r w' ∧ r.map (·.1) = (mapIx d x).map (n + ·) ∧ ∀ i u, r = some (i, u) → ∃ e, n ≤ i ∧ l[i - n]? = some e ∧ e.val = u
 | [], [], _, n, w' => ⟨none, rfl, rfl, by simp⟩
 | e :: l, p :: d, h, n, w' => by
  obtain ⟨h1, h2⟩ := h.2 0 e p rfl rfl
  have ht : Ents κ ν F w l d := ⟨by have := h.1; simp at this; exact this, fun i e' p' a b => h.2 (i + 1) e' p' (by simpa using a) (by simpa using b)⟩
  have he := hK.eq x p.1 F w v e.key hx h1 w'
  by_cases c : x = p.1
  ·refine ⟨some (n, e.val), ?_, ?_, fun i u hr => ?_⟩
   ·simp [Instr.findAsking, he, c]
   ·simp [mapIx, List.findIdx?_cons, c]
   ·simp only [Option.some.injEq, Prod.mk.injEq] at hr
    obtain ⟨rfl, rfl⟩ := hr
    exact ⟨e, Nat.le_refl _, by simp, rfl⟩
  ·obtain ⟨r, r1, r2, r3⟩ := run_findAsking hK hx ht (n + 1) w'
   refine ⟨r, ?_, ?_, fun i u hr => ?_⟩
   ·simp [Instr.findAsking, he, c, r1]
   ·rw [r2]
    have c' : ¬ p.1 = x := fun e => c e.symm
    simp only [mapIx, List.findIdx?_cons, c', decide_false, Bool.false_eq_true, if_false, Option.map_map]
    congr 1
    funext z
    simp only [Function.comp]; omega
   ·obtain ⟨e', q1, q2, q3⟩ := r3 i u hr
    refine ⟨e', by omega, ?_, q3⟩
    rw [show i - n = (i - (n + 1)) + 1 by omega, List.getElem?_cons_succ]; exact q2
 | [], _ :: _, h, _, _ => by have := h.1; simp at this
 | _ :: _, [], h, _, _ => by have := h.1; simp at this

theorem findNow_eq (hK : KeyT P kt κ) {k : TypeDesc} (hk : P.underlying kt = some k) {v : Value} : ∀ {l : List MapEntry} {n : Nat} {r : Option (Nat × Value)}, Instr.findNow k v l n = some r → ∀ w', (Instr.findAsking kt v l n).run P w' = .ok r w'
 | [], n, r, h, w' => by simp only [Instr.findNow, Option.some.injEq] at h; subst h; rfl
 | e :: l, n, r, h, w' => by
  simp only [Instr.findNow] at h
  split at h
  ·rename_i hs
   have := hK.now k hk v e.key true hs w'
   simp only [Option.some.injEq] at h; subst h
   simp [Instr.findAsking, this]
  ·rename_i hs
   have := hK.now k hk v e.key false hs w'
   have ih := findNow_eq hK hk h w'
   simp [Instr.findAsking, this, ih]
  ·cases h
theorem run_find (hK : KeyT P kt κ) {F : FP} {w : World} {x : α} {v : Value} (hx : (sh κ x).h F w v) {l : List MapEntry} {d : List (α × β)} (h : Ents κ ν F w l d) (w' : World) :
  ∃ r, (Instr.findKey kt v l).run P w' = .ok r w' ∧ r.map (·.1) = mapIx d x ∧ ∀ i u, r = some (i, u) → ∃ e, l[i]? = some e ∧ e.val = u := by
 obtain ⟨r, r1, r2, r3⟩ := run_findAsking hK hx h 0 w'
 obtain ⟨k, hk⟩ := hK.und
 refine ⟨r, ?_, by simpa using r2, fun i u hr => by obtain ⟨e, _, q2, q3⟩ := r3 i u hr; exact ⟨e, by simpa using q2, q3⟩⟩
 unfold Instr.findKey
 simp only [Sem.run_bind, run_underlying hk, Result.andThen]
 cases hf : Instr.findNow k v l 0 with
 | none => exact r1
 | some r' =>
  have := findNow_eq hK hk hf w'
  rw [r1] at this
  simp only [Result.ok.injEq, and_true] at this
  subst this; rfl

theorem keyT_str {kt : TypeId} (hu : P.underlying kt = some .string) : KeyT P kt rS where
 check := fun x F w v h e w' => by
  have hv : v = .string x := h
  subst hv
  exact MapKept.run_checkKey (n := 9999) hu (k := .string x) (show MapKept.IsKey .string (.string x) from trivial) e
 eq := fun x y F w u v h1 h2 w' => by
  have e1 : u = .string x := h1
  have e2 : v = .string y := h2
  subst e1; subst e2
  have := run_equalIn_string w' 9999 kt x y hu
  show (Op.equalIn 10000 kt (.string x) (.string y)).run P w' = _
  rw [this]
  rw [ba_beq]
 stay := fun x F w u v h1 h2 => by
  have e1 : u = .string x := h1
  have e2 : v = .string x := h2
  subst e1; subst e2
  exact MapKept.sameBits_self (d := .string) (k := .string x) (show MapKept.IsKey .string (.string x) from trivial) _
 now := fun k hk u v r h w' => by
  rw [hu] at hk; cases hk
  cases u <;> cases v <;> simp [Instr.sameNow] at h
  subst h
  rename_i a b
  have := run_equalIn_string w' 9999 kt a b hu
  show (Op.equalIn 10000 kt (.string a) (.string b)).run P w' = _
  rw [this, ba_beq]; congr 1
  rw [Bool.eq_iff_iff, MapKept.bytes_beq, decide_eq_true_iff]
 und := ⟨_, hu⟩

theorem s_mkmap (κ : Rep α) (ν : Rep β) {t : TypeId} : St P E N (.makeMap t none) ty Γ Ω [] (fun b : Nat => pv (.map (some b))) (fun b => Ω ++ [om κ ν b []]) := by
 intro a w hs
 refine opwp_val (v := .map (some w.heap.size)) (w' := w.alloc (.map #[] 0)) (fun o ho ht => ?_) ⟨w.heap.size, ?_, rfl, by simp, fun b hb _ => heap_alloc_lt w _ hb, own_add (by simp [om])⟩
 ·have : (Instr.makeMap t none).run P w = .ok (.map (some w.heap.size)) (w.alloc (.map #[] 0)) := rfl
  simp [execOp, ho, this]
 ·refine hs.add ⟨rfl, rfl, rfl, by first | exact fun _ => Nat.le_refl _ | exact fun _ => Nat.le_add_right _ _⟩ (by simp) (fun _ hb => heap_alloc_lt w _ hb) (fun b hb => ?_) (by simp [om]) ?_
  ·rw [show b = w.heap.size from by simpa [om] using hb]; exact ⟨Nat.le_refl _, by simp⟩
  ·exact ⟨#[], 0, heap_alloc_new' w _, ⟨rfl, by simp⟩, by simp, by simp⟩

theorem s_mput {t kt et : TypeId} {m k v : Operand} {b j : Nat} {d : List (α × β)} {x : α} {y : β} (hu : P.underlying t = some (.map kt et)) (hK : KeyT P kt κ) (hm : lkO Γ m = some (pv (.map (some b))))
  (hj : Ω[j]? = some (om κ ν b d)) (hk : lkO Γ k = some (sh κ x)) (hv : lkO Γ v = some (sh ν y)) : St P E N (.mapUpdate t m k v) ty Γ Ω [j] (fun _ : Unit => pv undef) (fun _ => Ω.set j (om κ ν b (mapPut d x y))) := by
 intro a w hs
 have h1 : a.eval m = .map (some b) := hs.op hm
 have h2 := hs.op hk
 have h3 := hs.op hv
 obtain ⟨es, clock, hb, hE, hB, hN⟩ := hs.objAt hj
 obtain ⟨r, r1, r2, r3⟩ := run_find hK h2 hE w
 have hck := hK.check x _ _ _ h2 false w
 have fin : ∀ es' clock', Ents κ ν (fr E Ω) w es'.toList (mapPut d x y) → (∀ e ∈ es'.toList, e.born < clock') → (es'.toList.map (·.born)).Nodup →
   ∃ x' : Unit, Sat E N Γ (Ω.set j (om κ ν b (mapPut d x y))) a { w with heap := w.heap.setIfInBounds b (.map es' clock') } ∧ (pv undef).h (fr E (Ω.set j (om κ ν b (mapPut d x y)))) { w with heap := w.heap.setIfInBounds b (.map es' clock') } undef ∧ Eff Ω (Ω.set j (om κ ν b (mapPut d x y))) [j] w { w with heap := w.heap.setIfInBounds b (.map es' clock') } := by
  intro es' clock' q1 q2 q3
  have hset := MapKept.heap_set (o' := .map es' clock') hb
  have hlt := size_of_get hb
  refine ⟨(), ?_, rfl, by simp, fun b' hb' hn' => hset.2 b' fun e => hn' j (by simp) _ hj (by rw [e]; simp [om]), own_set hj fun b hb => .inl hb⟩
  refine hs.upd hj ⟨rfl, rfl, rfl, by first | exact fun _ => Nat.le_refl _ | exact fun _ => Nat.le_add_right _ _⟩ (by simp) (fun b' _ hn' => hset.2 b' fun e => hn' (by rw [e]; simp [om])) (fun b' hb' => .inl hb') (by simp [om]) ?_
  have hag : Ag (fr E Ω) (fr E (Ω.set j (om κ ν b (mapPut d x y)))) w { w with heap := w.heap.setIfInBounds b (.map es' clock') } :=
   ⟨fun b' _ hf => fr_set hj hf fun hm => hf.2 (Sat.notin hj (b := b') hm), fun b' _ hf => hset.2 b' fun e => hf.2 (Sat.notin hj (b := b') (by rw [e]; simp [om]))⟩
  exact ⟨es', clock', hset.1, q1.mono hag, q2, q3⟩
 intro o hop ht
 cases hr : r with
 | none =>
  rw [hr] at r1 r2
  have hix : mapIx d x = none := by simpa using r2.symm
  have hrun : (execOp a.eval o).run P w = .ok .skip { w with heap := w.heap.setIfInBounds b (.map (es.push ⟨a.eval k, a.eval v, clock⟩) (clock + 1)) } := by
   simp [execOp, hop, h1, Instr.mapUpdate, run_underlying hu, MapKept.run_getObj_map hb, hck, r1, MapKept.run_setObj_map _ hb]
  rw [hrun]
  refine fin _ _ ?_ ?_ ?_
  ·unfold mapPut; rw [hix]
   refine ⟨by simp [hE.1], fun i e p e1 e2 => ?_⟩
   rw [Array.toList_push] at e1
   have hl := hE.1
   rcases Nat.lt_or_ge i d.length with hlt | hge
   ·rw [List.getElem?_append_left (by omega)] at e1
    rw [List.getElem?_append_left (by omega)] at e2
    exact hE.2 i e p e1 e2
   ·rw [List.getElem?_append_right (by omega)] at e1
    rw [List.getElem?_append_right (by omega)] at e2
    rw [show i - es.toList.length = i - d.length by rw [hl]] at e1
    rcases Nat.eq_zero_or_pos (i - d.length) with h0 | h0
    ·rw [h0] at e1 e2
     simp only [List.getElem?_cons_zero, Option.some.injEq] at e1 e2
     subst e1; subst e2
     exact ⟨h2, h3⟩
    ·rw [List.getElem?_eq_none (by simp; omega)] at e2; cases e2
  ·intro e he
   simp only [Array.toList_push, List.mem_append, List.mem_singleton] at he
   rcases he with he | rfl
   ·have := hB e he; omega
   ·exact Nat.lt_succ_self _
  ·rw [Array.toList_push, List.map_append]
   refine List.nodup_append.2 ⟨hN, by simp, fun p hp q hq e => ?_⟩
   simp only [List.map_cons, List.map_nil, List.mem_singleton] at hq
   obtain ⟨e', he', rfl⟩ := List.mem_map.1 hp
   have := hB e' he'; omega
 | some iu =>
  obtain ⟨i, u⟩ := iu
  obtain ⟨e, he, rfl⟩ := r3 i u hr
  rw [hr] at r1 r2
  have hix : mapIx d x = some i := by simpa using r2.symm
  have hid : ∃ p, d[i]? = some p ∧ p.1 = x := by
   unfold mapIx at hix
   rw [List.findIdx?_eq_some_iff_getElem] at hix
   obtain ⟨hlt, hp, _⟩ := hix
   exact ⟨d[i], List.getElem?_eq_getElem hlt, of_decide_eq_true hp⟩
  obtain ⟨p, hp, rfl⟩ := hid
  have he2 : es[i]? = some e := by simpa using he
  have hst := hK.stay p.1 _ _ _ _ (hE.2 i e p he hp).1 h2
  have hrun : (execOp a.eval o).run P w = .ok .skip { w with heap := w.heap.setIfInBounds b (.map (es.modify i fun e => { e with key := a.eval k, val := a.eval v }) clock) } := by
   simp [execOp, hop, h1, Instr.mapUpdate, run_underlying hu, MapKept.run_getObj_map hb, hck, r1, MapKept.run_setObj_map _ hb, Instr.keyThatStays, he2, hst]
  rw [hrun]
  have hlt : i < es.toList.length := (List.getElem?_eq_some_iff.1 he).1
  have hml : (es.modify i fun e => { e with key := a.eval k, val := a.eval v }).toList = es.toList.set i { e with key := a.eval k, val := a.eval v } := by
   apply List.ext_getElem?
   intro n
   rw [Array.getElem?_toList, Array.getElem?_modify]
   by_cases c : i = n
   ·subst c; rw [if_pos rfl, he2, List.getElem?_set_self hlt]; rfl
   ·rw [if_neg c, List.getElem?_set_ne c, Array.getElem?_toList]
  refine fin _ _ ?_ ?_ ?_
  ·unfold mapPut; rw [hix, hml]
   refine ⟨by simp [hE.1], fun n e' p' e1 e2 => ?_⟩
   by_cases c : i = n
   ·subst c
    rw [List.getElem?_set_self hlt] at e1
    rw [List.getElem?_set_self (by rw [← hE.1]; exact hlt)] at e2
    simp only [Option.some.injEq] at e1 e2
    subst e1; subst e2
    exact ⟨h2, h3⟩
   ·rw [List.getElem?_set_ne c] at e1
    rw [List.getElem?_set_ne c] at e2
    exact hE.2 n e' p' e1 e2
  ·rw [hml]
   intro e' he'
   rcases List.mem_or_eq_of_mem_set he' with he' | rfl
   ·exact hB e' he'
   ·exact hB e (List.mem_of_getElem? he)
  ·rw [hml, List.map_set]
   have : (es.toList.map (·.born)).set i e.born = es.toList.map (·.born) := by
    apply List.ext_getElem?
    intro n
    by_cases c : i = n
    ·subst c; rw [List.getElem?_set_self (by simpa using hlt), List.getElem?_map, he]; rfl
    ·rw [List.getElem?_set_ne c]
   rw [this]; exact hN

theorem r_mget {t kt et : TypeId} {m k : Operand} {b j : Nat} {d : List (α × β)} {x : α} {z : β} (hu : P.underlying t = some (.map kt et)) (hK : KeyT P kt κ) (hz : ∃ zv, (∀ w, (zeroValue et).run P w = .ok zv w) ∧ ∀ F w, (sh ν z).h F w zv)
  (hm : lkO Γ m = some (pv (.map (some b)))) (hj : Ω[j]? = some (om κ ν b d)) (hk : lkO Γ k = some (sh κ x)) : Rd P E N (.lookup t m k true) ty Γ Ω [j] (tup [sh ν (mapGet d x z), bv (mapHas d x)]) := fun a w hs => by
 have h1 : a.eval m = .map (some b) := hs.op hm
 have h2 := hs.op hk
 obtain ⟨es, clock, hb, hE, _⟩ := hs.objAt hj
 obtain ⟨zv, z1, z2⟩ := hz
 obtain ⟨r, r1, r2, r3⟩ := run_find hK h2 hE w
 cases hr : r with
 | none =>
  rw [hr] at r2
  have hix : mapIx d x = none := by simpa using r2.symm
  refine ⟨.tuple #[zv, .bool false], [b], ⟨#[zv, .bool false], rfl, ?_, ?_, trivial⟩, ?_, fun w' hw' o ho _ => ?_⟩
  ·unfold mapGet; rw [hix]; exact z2 _ _
  ·unfold mapHas; rw [hix]; rfl
  ·intro b' hb'; rw [List.mem_singleton.1 hb']; exact ⟨size_of_get hb, .inr ⟨j, by simp, _, hj, by simp [om]⟩⟩
  ·have hb2 : w'.heap[b]? = some (.map es clock) := by rw [hw' b (by simp)]; exact hb
   obtain ⟨r', r1', r2', _⟩ := run_find hK h2 hE w'
   have : r' = none := by rw [hix] at r2'; simpa using r2'
   subst this
   simp [execOp, ho, h1, Instr.lookup, run_underlying hu, MapKept.run_getObj_map hb2, hK.check x _ _ _ h2, r1', z1]
 | some iu =>
  obtain ⟨i, u⟩ := iu
  obtain ⟨e, he, rfl⟩ := r3 i u hr
  rw [hr] at r2
  have hix : mapIx d x = some i := by simpa using r2.symm
  have hlt : i < d.length := by rw [← hE.1]; exact (List.getElem?_eq_some_iff.1 he).1
  refine ⟨.tuple #[e.val, .bool true], [b], ⟨#[e.val, .bool true], rfl, ?_, ?_, trivial⟩, ?_, fun w' hw' o ho _ => ?_⟩
  ·have eg : mapGet d x z = d[i].2 := by unfold mapGet; rw [hix]; simp [hlt]
   rw [eg]
   exact (hE.2 i e d[i] he (List.getElem?_eq_getElem hlt)).2
  ·unfold mapHas; rw [hix]; rfl
  ·intro b' hb'; rw [List.mem_singleton.1 hb']; exact ⟨size_of_get hb, .inr ⟨j, by simp, _, hj, by simp [om]⟩⟩
  ·have hb2 : w'.heap[b]? = some (.map es clock) := by rw [hw' b (by simp)]; exact hb
   obtain ⟨r', r1', r2', r3'⟩ := run_find hK h2 hE w'
   have : ∃ u', r' = some (i, u') := by
    rw [hix] at r2'
    cases r' with
    | none => simp at r2'
    | some q => simp at r2'; exact ⟨q.2, by rw [← r2']⟩
   obtain ⟨u', rfl⟩ := this
   obtain ⟨e', he', rfl⟩ := r3' i u' rfl
   rw [he] at he'; cases he'
   simp [execOp, ho, h1, Instr.lookup, run_underlying hu, MapKept.run_getObj_map hb2, hK.check x _ _ _ h2, r1']

theorem r_sgeq {t yt : TypeId} {x y : Operand} {s u : ByteArray} (hx : lkO Γ x = some (sv s)) (hy : lkO Γ y = some (sv u)) : Rd P E N (.binOp .geq t x y yt) ty Γ Ω [] (bv (!Op.bytesLess s.toList u.toList)) :=
 str_of hx hy (fun _ _ => rfl) fun w => by simp [binOp, Op.stringOp]
end Go.Dc
