/- Part M.Data of a proof: lemmas. -/
import Derived.Test.YtkkgghdjclkknaaGreatDoorDcDrawI
import Derived.ChangeKeysEq
import Derived.Lib.LaidTab
import Derived.LaidHandle
import Derived.Lib.Overlaps
import Derived.Test.YtkkgghdjclkknaaGreatDoorDcMem4
import Derived.MapKept
import Derived.Laws.IdiomRangeMap
set_option linter.unusedSectionVars false
namespace Go.Dc
variable [aq]
variable {R : Type} {P : Program} {E : Env} {N : Nat} {Γ : List (Nat × RP)} {Ω : List OB} {ty : TypeId}
def Hs (Γ : List (Nat × RP)) : List Operand → List Value → Prop
 | [], [] => True
 | x :: xs, v :: vs => dw Γ x = some (pv v) ∧ Hs Γ xs vs
 | _, _ => False
theorem Hs.eval {a : Act} {w : World} (hs : Sat E N Γ Ω a w) : ∀ {xs : List Operand} {vs : List Value}, Hs Γ xs vs → xs.map a.eval = vs
 | [], [], _ => rfl
 | x :: xs, v :: vs, ⟨h1, h2⟩ => by rw [List.map_cons, Hs.eval hs h2, show a.eval x = v from hs.op h1]
 | [], _ :: _, h => h.elim
 | _ :: _, [], h => h.elim
theorem TG {f : FuncId} {xs : List Operand} {vs : List Value} (h : Hs Γ xs vs) : Rd P E N (.makeFunc (.func f) #[] xs.toArray) ty Γ Ω [] (pv (.func (.func f) #[] vs.toArray)) := by
 intro a w hs
 refine ⟨_, [], rfl, by simp, fun w' _ o ho _ => ?_⟩
 simp [execOp, ho, Instr.makeFunc, h.eval hs]
def rO : List Bool → List OB → List OB
 | true :: m, o :: os => o :: rO m os
 | false :: m, _ :: os => rO m os
 | _, _ => []
def Pk : List Bool → List OB → Prop
 | true :: m, _ :: os => Pk m os
 | false :: m, o :: os => o = dead ∧ Pk m os
 | [], [] => True
 | _, _ => False
theorem Is : ∀ {m : List Bool} {os : List OB}, Pk m os → ow (rO m os) = ow os
 | [], [], _ => rfl
 | true :: m, o :: os, h => by
  show ow (o :: rO m os) = ow (o :: os)
  rw [show ow (o :: rO m os) = o.S ++ ow (rO m os) from by simp [ow], show ow (o :: os) = o.S ++ ow os from by simp [ow], Is (m := m) h]
 | false :: m, o :: os, ⟨h1, h2⟩ => by
  show ow (rO m os) = ow (o :: os)
  rw [Is h2, show ow (o :: os) = o.S ++ ow os from by simp [ow], h1]
  simp [dead]
 | [], _ :: _, h => h.elim
 | true :: _, [], h => h.elim
 | false :: _, [], h => h.elim
theorem EZ : ∀ {m : List Bool} {os : List OB}, Pk m os → ∀ o ∈ os, o ∈ rO m os ∨ o = dead
 | [], [], _, o, ho => by simp at ho
 | true :: m, p :: os, h, o, ho => by
  rcases List.mem_cons.1 ho with e | e
  ·exact .inl (by rw [e]; exact List.mem_cons_self)
  ·exact (EZ (m := m) h o e).imp (fun h => List.mem_cons_of_mem _ h) id
 | false :: m, p :: os, ⟨h1, h2⟩, o, ho => by
  rcases List.mem_cons.1 ho with e | e
  ·exact .inr (e.trans h1)
  ·exact EZ h2 o e
 | [], _ :: _, h, _, _ => h.elim
 | true :: _, [], h, _, _ => h.elim
 | false :: _, [], h, _, _ => h.elim
theorem gw.YI {X : Type} {f : FuncId} {bY : List RP} {wR : List OB} {res : X → List RP} {lB Tg : X → List OB} (hf : gw P f bY wR res lB) (h1 : ∀ x, ow (lB x) = ow (Tg x))
  (h2 : ∀ x, ∀ o ∈ Tg x, o ∈ lB x ∨ o = dead) : gw P f bY wR res Tg := by
 intro F w vs a1 a2 a3 a4 a5 a6 a7
 refine (hf F w vs a1 a2 a3 a4 a5 a6 a7).mono ?_
 rintro e w' ⟨x, v, he, hk, hbd, hnd, jP, hres⟩
 rw [h1 x] at hbd hnd hres jP
 refine ⟨x, v, he, hk, hbd, hnd, fun o ho => ?_, hres⟩
 rcases h2 x o ho with h3 | h3
 ·exact jP o h3
 ·rw [h3]; trivial
theorem zd {X : Type} {f : FuncId} {x : Operand} {args : List Operand} {caps : List Value} {ats : Array TypeId} {bY : List RP} (js : List Nat) (mask : List Bool) {wR : List OB} {res : X → List RP} {lB : X → List OB} (os ex : X → List OB) (ψ : X → RP)
  (zB : ∀ args w, (callFunc f args).run P w = .ok (.enter f args) w) (hx : dw Γ x = some (pv (.func (.func f) #[] caps.toArray)))
  (hf : gw P f bY wR res lB) (jP : wA Ω js wR) (hex : ∀ x, lB x = rO mask (os x) ++ ex x) (hdd : ∀ x, Pk mask (os x)) (hl : ∀ x, js.length = (os x).length)
  (ha : wB E N Γ Ω frF (args ++ caps.map .const) bY) (LG : ∀ x F w v, HO F w (res x) v → (ψ x).h F w v) :
  St P E N (.call ⟨.value x, args.toArray, ats⟩) ty Γ Ω js ψ (fun x => jG js (os x) Ω ++ ex x) := by
 refine s_callI (lB := fun x => os x ++ ex x) zB hx (hf.YI (fun x => ?_) fun x o ho => ?_) jP (fun _ => rfl) hl ha LG
 ·rw [hex x, iG, iG, Is (hdd x)]
 ·rw [hex x]
  rcases List.mem_append.1 ho with h | h
  ·exact (EZ (hdd x) o h).imp (fun h => List.mem_append_left _ h) id
  ·exact .inl (List.mem_append_right _ h)
section
variable {α : Type} {e t : TypeId} {ρ : iC α} {bytes : Nat} {x : Operand}
def Rg (v : Value) (sz l m : Nat) : Value := match v with
 | .slice ad _ c => .slice (if c = l then ad else ad.map (·.add (l * sz))) (m - l) (c - l)
 | v => v
theorem r_osub {lo hi : Option Operand} {d d' : List α} {l m : Int} {hv : Value} {S : List Nat} {j : Nat} (hd : QV d l m = some d') (hu : P.underlying t = some (.slice e)) (h : Hr P e ρ bytes)
  (hx : dw Γ x = some (pv hv)) (hj : Ω[j]? = some (oa ρ hv S d)) (hlo : Kr Γ 0 lo l) (hhi : Kr Γ d.length hi m) :
  Rd P E N (.slice t x lo hi none) ty Γ Ω [] (pv (Rg hv ρ.size l.toNat m.toNat)) := .mk fun a w hs => by
 obtain ⟨h0, h1, h2, rfl⟩ := HI hd
 have XG : a.eval x = hv := hs.op hx
 obtain ⟨ad, c, rfl, hc, jP⟩ := hs.l9 hj
 obtain ⟨l, rfl⟩ := Int.eq_ofNat_of_zero_le h0
 obtain ⟨m, rfl⟩ := Int.eq_ofNat_of_zero_le (Int.le_trans h0 h1)
 have hl := hlo.val hs
 have hm := hhi.val hs
 have e1 : l ≤ m := by omega
 have e2 : m ≤ d.length := by omega
 refine ⟨_, rfl, fun w' o ho _ => ?_⟩
 have hrun := EN (P := P) hu h (ad := ad) (n := d.length) (c := c) (lo := lo.map a.eval) (hi := hi.map a.eval) (l := l) (hh := m)
  (hl.imp (fun ⟨e1, e2⟩ => ⟨e1, by omega⟩) id) (hm.imp (fun ⟨e1, e2⟩ => ⟨e1, by omega⟩) id) e1 (by omega) w'
 simp [execOp, ho, XG, hrun, Rg]
theorem Q6 {zs : Array Value} {n i k sz : Nat} (hs : zs.size = sz) (hi : i < n) (hk : k < sz) : (Builtin.zeroCells zs n).toList[i * sz + k]? = zs.toList[k]? := by
 have hlt : i * sz + k < n * sz := by
  have : (i + 1) * sz ≤ n * sz := Nat.mul_le_mul_right _ hi
  rw [Nat.succ_mul] at this; omega
 rw [Array.getElem?_toList, Builtin.zeroCells, Array.getElem?_map, Array.getElem?_range, hs, if_pos hlt]
 have hmod : (i * sz + k) % sz = k := by rw [Nat.mul_comm, Nat.mul_add_mod, Nat.mod_eq_of_lt hk]
 have hk' : k < zs.size := by omega
 simp only [Option.map_some, hmod]
 rw [Array.getElem?_toList, Array.getElem?_eq_getElem hk', getElem!_pos zs k hk']
theorem s_clear {d d' : List α} {l m : Int} {z : α} {hv : Value} {S : List Nat} {j : Nat} (hd : QV d l m = some d') (hu : P.underlying t = some (.slice e)) (h : Hr P e ρ bytes) (hz : ZeroT P e ρ z)
  (hx : dw Γ x = some (pv (Rg hv ρ.size l.toNat m.toNat))) (hj : Ω[j]? = some (oa ρ hv S d)) :
  St P E N (.call ⟨.builtin .clear, #[x], #[t]⟩) ty Γ Ω [j] (fun _ : Unit => pv (.tuple #[])) (fun _ => Ω.set j (oa ρ hv S (d.take l.toNat ++ List.replicate (m.toNat - l.toNat) z ++ d.drop m.toNat))) := by
 intro a w hs
 obtain ⟨h0, h1, h2, rfl⟩ := HI hd
 have XG : a.eval x = Rg hv ρ.size l.toNat m.toNat := hs.op hx
 obtain ⟨ad, c, rfl, hc, jP⟩ := hs.l9 hj
 obtain ⟨i, zv, hi, Yp, hzs⟩ := hz
 obtain ⟨i', hi', his, hib, z', R4, aaA⟩ := h.info
 rw [hi] at hi'; cases hi'
 rw [Yp] at R4; cases R4
 obtain ⟨l, rfl⟩ := Int.eq_ofNat_of_zero_le h0
 obtain ⟨m, rfl⟩ := Int.eq_ofNat_of_zero_le (Int.le_trans h0 h1)
 simp only [Int.toNat_natCast] at XG ⊢
 have e1 : l ≤ m := by omega
 have e2 : m ≤ d.length := by omega
 by_cases hlm : m = l
 ·have hsame : d.take l ++ List.replicate (m - l) z ++ d.drop m = d := by rw [hlm]; simp
  rw [hsame]
  refine iU (v := .tuple #[]) (w' := w) (fun o ho _ => ?_) ⟨(), by rw [L5 hj]; exact hs, rfl, Nat.le_refl _, fun _ _ _ => rfl, fun b _ hb => by rw [L5 hj] at hb; exact hb⟩
  have : (Builtin.clear_ #[t] o.type #[a.eval x]).run P w = .ok (.tuple #[]) w := by
   rw [XG]
   simp only [Rg, hlm, Nat.sub_self]
   unfold Builtin.clear_
   simp [run_underlying hu]
   split <;> simp_all
  simp [execOp, ho, resolve, invoke, builtin, this]
 ·rcases jP with ⟨rfl, _, rfl⟩ | ⟨b, off, cells, ct, rfl, rfl, hb, hsz, hH⟩
  ·omega
  ·have y8 : c ≠ l := by omega
   have hle : m * ρ.size ≤ c * ρ.size := Nat.mul_le_mul_right _ (by omega)
   have hms : (m - l) * ρ.size + l * ρ.size = m * ρ.size := by rw [← Nat.add_mul]; congr 1; omega
   have hzl : (Builtin.zeroCells zv.cells (m - l)).size = (m - l) * ρ.size := by simp [Builtin.zeroCells, aaA]
   have p6 : ∀ u ∈ (Builtin.zeroCells zv.cells (m - l)).toList, u.oneCell' = true := by
    intro u hu
    have hall := hzs (fun _ => True) w
    have hz1 := hall.atoms (ρ.at_ z)
    obtain ⟨q, hq, rfl⟩ := List.mem_iff_getElem.1 hu
    have hq' : q < (m - l) * ρ.size := by simpa [hzl] using hq
    have hp := h.pos
    have hg := Q6 (zs := zv.cells) (n := m - l) (i := q / ρ.size) (k := q % ρ.size) aaA (Nat.div_lt_of_lt_mul (by rw [Nat.mul_comm]; exact hq')) (Nat.mod_lt _ hp)
    rw [Nat.mul_comm, Nat.div_add_mod, List.getElem?_eq_getElem hq] at hg
    exact hz1 _ (List.mem_of_getElem? hg.symm)
   have hst := run_storeCells_at P b (off + l * ρ.size) ct (Builtin.zeroCells zv.cells (m - l)).toList 0 cells w hb (by simp [hzl]; omega) p6
   simp only [Nat.add_zero, Array.length_toList, hzl] at hst
   intro o hop ht
   have hr : (execOp a.eval o).run P w = .ok (.value (.tuple #[])) (w.setRow b (cells.toList.take (off + l * ρ.size) ++ (Builtin.zeroCells zv.cells (m - l)).toList ++ cells.toList.drop (off + l * ρ.size + (m - l) * ρ.size)).toArray) := by
    have hc1 : (Builtin.clear_ #[t] o.type #[a.eval x]).run P w = .ok (.tuple #[]) (w.setRow b (cells.toList.take (off + l * ρ.size) ++ (Builtin.zeroCells zv.cells (m - l)).toList ++ cells.toList.drop (off + l * ρ.size + (m - l) * ρ.size)).toArray) := by
     rw [XG]
     obtain ⟨k, hk⟩ : ∃ k, m - l = k + 1 := ⟨m - l - 1, by omega⟩
     simp only [Rg, if_neg y8, Option.map_some, ew]
     rw [hk] at hst ⊢
     unfold Builtin.clear_
     simp [run_underlying hu, zeroValue, typeInfo, hi, Yp, hst]
    simp [execOp, hop, resolve, invoke, builtin, hc1]
   rw [hr]
   refine ⟨(), ?_, rfl, by simp, fun b' hb' hn' => setRow_other w b b' _ fun e => hn' j (by simp) _ hj (by rw [e]; simp [oa]), sK hj fun b hb => .inl hb⟩
   refine hs.upd hj ⟨rfl, rfl, rfl, by first | exact fun _ => Nat.le_refl _ | exact fun _ => Nat.le_add_right _ _⟩ (by simp) (fun b' _ hn' => setRow_other w b b' _ fun e => hn' (by rw [e]; simp [oa])) (fun b' hb' => .inl hb') (by simp [oa]) ?_
   have hlen : (d.take l ++ List.replicate (m - l) z ++ d.drop m).length = d.length := by simp; omega
   have hag : Ag (fr E Ω) (fr E (Ω.set j (oa ρ (.slice (some ⟨b, off, none⟩) d.length c) [b] (d.take l ++ List.replicate (m - l) z ++ d.drop m)))) w
     (w.setRow b (cells.toList.take (off + l * ρ.size) ++ (Builtin.zeroCells zv.cells (m - l)).toList ++ cells.toList.drop (off + l * ρ.size + (m - l) * ρ.size)).toArray) :=
    ⟨fun b' _ hf => wo hj hf fun hm => hf.2 (Sat.me hj (b := b') hm), fun b' _ hf => setRow_other w b b' _ fun e => hf.2 (Sat.me hj (b := b') (by rw [e]; simp [oa]))⟩
   have hll : cells.toList.length = cells.size := Array.length_toList
   have hzl' : (Builtin.zeroCells zv.cells (m - l)).toList.length = (m - l) * ρ.size := by rw [Array.length_toList, hzl]
   have Qr : (cells.toList.take (off + l * ρ.size)).length = off + l * ρ.size := by rw [List.length_take]; omega
   refine ⟨some ⟨b, off, none⟩, c, by rw [hlen], by rw [hlen]; exact hc, .inr ⟨b, off, _, ct, rfl, rfl, setRow_heap w b cells _ ct (0, 0) hb, ?_, ?_⟩⟩
   ·simp only [List.size_toArray, List.length_append, List.length_take, List.length_drop, Array.length_toList, hzl]; omega
   ·intro q hq
    rw [hlen] at hq
    have hle2 : (q + 1) * ρ.size ≤ c * ρ.size := Nat.mul_le_mul_right _ (by omega)
    rw [Nat.succ_mul] at hle2
    by_cases hq1 : q < l
    ·obtain ⟨es, uW, hcs⟩ := hH q hq
     have hl2 : (q + 1) * ρ.size ≤ l * ρ.size := Nat.mul_le_mul_right _ hq1
     rw [Nat.succ_mul] at hl2
     refine ⟨es, ?_, fun k hk => ?_⟩
     ·have : (d.take l ++ List.replicate (m - l) z ++ d.drop m)[q] = d[q] := by
       rw [List.getElem_append_left (by simp; omega), List.getElem_append_left (by simp; omega), List.getElem_take]
      rw [this]; exact uW.mono hag
     ·rw [← hcs k hk, List.getElem?_toArray, List.append_assoc, List.getElem?_append_left (by omega), List.getElem?_take, if_pos (by omega)]; simp
    ·by_cases Yq : q < m
     ·refine ⟨zv.cells.toList, ?_, fun k hk => ?_⟩
      ·have : (d.take l ++ List.replicate (m - l) z ++ d.drop m)[q] = z := by
        rw [List.getElem_append_left (by simp; omega), List.getElem_append_right (by simp; omega), List.getElem_replicate]
       rw [this]; exact hzs _ _
      ·have hm2 : (q + 1) * ρ.size ≤ m * ρ.size := Nat.mul_le_mul_right _ Yq
       have hl2 : l * ρ.size ≤ q * ρ.size := Nat.mul_le_mul_right _ (by omega)
       rw [Nat.succ_mul] at hm2
       have hql : (q - l) * ρ.size + l * ρ.size = q * ρ.size := by rw [← Nat.add_mul]; congr 1; omega
       rw [List.getElem?_toArray, List.append_assoc, List.getElem?_append_right (by omega), Qr, List.getElem?_append_left (by omega),
        show off + q * ρ.size + k - (off + l * ρ.size) = (q - l) * ρ.size + k from by omega]
       exact Q6 aaA (by omega) hk
     ·obtain ⟨es, uW, hcs⟩ := hH q hq
      have hm2 : m * ρ.size ≤ q * ρ.size := Nat.mul_le_mul_right _ (by omega)
      refine ⟨es, ?_, fun k hk => ?_⟩
      ·have : (d.take l ++ List.replicate (m - l) z ++ d.drop m)[q] = d[q] := by
        rw [List.getElem_append_right (by simp; omega), List.getElem_drop]
        congr 1; simp; omega
       rw [this]; exact uW.mono hag
      ·rw [← hcs k hk, List.getElem?_toArray, List.getElem?_append_right (by rw [List.length_append, Qr, hzl']; omega), List.length_append, Qr, hzl', List.getElem?_drop]
       simp
       congr 1; omega
end
section
variable {α : Type} {e t : TypeId} {ρ : iC α} {bytes : Nat} {x : Operand}
end
section
variable {K : KT R} {m : Option R} {ops : Array Oper} {rest : List Oper}
theorem tC {x : Operand} {d : Nat} {φ : RP} {pos : String} {fM : Array Edge} (hx : dw Γ x = some φ) (hd : Nat.blt d N = true) (h : uQ P E N m ops rest ((d, φ) :: Γ) Ω K) : uQ P E N m ops (⟨some d, .move x, ty, pos, fM, none⟩ :: rest) Γ Ω K := br (xO hx) hd h
theorem Ad {x : Operand} {d : Nat} {φ : RP} {pos : String} {fM : Array Edge} (hx : dw Γ x = some φ) (hd : Nat.blt d N = true) (h : uQ P E N m ops rest ((d, φ) :: Γ) Ω K) : uQ P E N m ops (⟨some d, .assign x, ty, pos, fM, none⟩ :: rest) Γ Ω K := br (vq hx) hd h
end
end Go.Dc
namespace Go.Dc
variable [aq]
variable {P : Program} {α : Type} [DecidableEq α] {ρ : iC α}
def Yf (P : Program) (e : TypeId) : List Value → List Value → Bool → Prop
 | [], [], r => r = true
 | x :: xs, y :: ys, r => ∃ b r', EqC P e x y b ∧ Yf P e xs ys r' ∧ r = (b && r')
 | _, _, _ => False
theorem Yf.run {e : TypeId} (hg : ∀ w, (isAgg e).run P w = .ok false w) : ∀ {xs ys : List Value} {r : Bool}, Yf P e xs ys r → ∀ (X Y : List Value) (k : Nat), X.drop k = xs → Y.drop k = ys →
  ∀ (d : Nat) (w : World), (Op.eqItems (d + 1) e 1 ⟨X⟩ ⟨Y⟩ (List.range' k xs.length)).run P w = .ok r w
 | [], [], _, h, _, _, _, _, _, _, _ => by rw [show _ = true from h]; simp [Op.eqItems]
 | x :: xs, y :: ys, r, ⟨b, r', h4, h5, h6⟩, X, Y, k, hX, hY, d, w => by
  have hx : X[k]? = some x := by
   have e : (X.drop k)[0]? = some x := by rw [hX]; rfl
   rwa [List.getElem?_drop, Nat.add_zero] at e
  have hy : Y[k]? = some y := by
   have e : (Y.drop k)[0]? = some y := by rw [hY]; rfl
   rwa [List.getElem?_drop, Nat.add_zero] at e
  have hX' : X.drop (k + 1) = xs := by rw [← List.drop_drop, hX]; rfl
  have hY' : Y.drop (k + 1) = ys := by rw [← List.drop_drop, hY]; rfl
  have hr := Yf.run hg h5 X Y (k + 1) hX' hY' d w
  simp only [List.length_cons, List.range'_succ, Op.eqItems]
  simp [part, hg, hx, hy, h4.run, hr, h6]
  cases b <;> simp
 | [], _ :: _, _, h, _, _, _, _, _, _, _ => h.elim
 | _ :: _, [], _, h, _, _, _, _, _, _, _ => h.elim
theorem XP {t e : TypeId} {n : Nat} {i : TypeInfo} (hu : P.underlying t = some (.array n e)) (hi : P.info? e = some i) (h1 : i.size = 1) (hga : ∀ w, (isAgg e).run P w = .ok false w) (hg : P.eqGuardType P.depth t = false)
  (h : ∀ (x y : α) (F : FP) (w : World) (cs ds : List Value), bZ F w (ρ.cp x) cs → bZ F w (ρ.cp y) ds → cs.length = n ∧ ∃ r, Yf P e cs ds r ∧ r = decide (x = y)) : EqT P t ρ := ⟨hg, fun x y F w cs ds hc hd w' => by
 obtain ⟨hl, r, h3, h4⟩ := h x y F w cs.toList ds.toList hc hd
 show (Op.equalIn (9998 + 1 + 1) t (.agg cs) (.agg ds)).run P w' = _
 have hcs : P.cellsOf e = 1 := by simp [Program.cellsOf, hi, h1]
 rw [run_equalIn_array _ _ _ _ hu hi, ← h4, hcs, List.range_eq_range', ← hl]
 exact h3.run hga cs.toList ds.toList 0 rfl rfl _ _⟩
end Go.Dc
namespace Go.Dc
variable [aq]
variable {R : Type} {P : Program} {E : Env} {N : Nat} {Γ : List (Nat × RP)} {Ω : List OB} {ty : TypeId}
def Pt {α : Type} (ρ : iC α) (g : Nat) (d : List α) : OB where
 S := []
 h := fun F w => F g ∧ ∃ cells ty fz, w.heap[g]? = some (.cells cells ty fz) ∧ NA ρ F w cells 0 d
 mono := by
  rintro F F' w w' ag hs ⟨hF, cells, ty, fz, h1, h2⟩
  have hb := bS h1
  exact ⟨ag.f g hb hF, cells, ty, fz, by rw [ag.s g hb hF]; exact h1, h2.mono ag⟩
end Go.Dc
namespace Go.Dc
variable [aq]
open Go.ChangeShapes Go.WideShapes Go.RowKit
variable {P : Program}
theorem SP {X : Type} {f : FuncId} {bY : List RP} {W : World} {args : Array Value} {wR : List OB} {res : X → List RP} {lB : X → List OB} (h : gw P f bY wR res lB) (hr : ∀ x, res x = [bv true]) (hS : ow wR = []) (htb : SZ (fun _ => True) W)
  (jP : ∀ o ∈ wR, o.h (fun _ => True) W) (ha : bZ (fun _ => True) W bY args.toList) : Calls P f args W fun e W' => e = .returned (.bool true) ∧ Kept [] W W' := by
 have h1 := h (fun _ => True) W args.toList (fun _ _ => trivial) (fun _ _ => trivial) (fun b hb => by rw [hS] at hb; simp at hb) (by rw [hS]; simp)
  (fun o ho => o.mono (.refl fun b _ _ => ⟨trivial, by rw [hS]; simp⟩) (fun _ _ => rfl) (jP o ho)) (bZ.mono (.refl fun b _ _ => ⟨trivial, by rw [hS]; simp⟩) ha) (htb.mono fun b _ _ => ⟨⟨trivial, by rw [hS]; simp⟩, rfl⟩)
 refine h1.mono fun e W' ⟨x, v, he, hk, _, _, _, hv⟩ => ?_
 rw [hr] at hv
 rw [hS] at hk
 exact ⟨by rw [he]; exact congrArg _ hv, hk⟩
end Go.Dc
set_option linter.unusedVariables false
namespace Go.Dc
open Go.ChangeShapes Go.WideShapes Go.RowKit
variable {P : Program}
end Go.Dc
namespace Go.Dc
def anyc : RP := ⟨fun _ _ v => v.oneCell' = true, fun _ h => h⟩
theorem anyc_at : anyc.At := fun h => h
end Go.Dc
namespace Go.Dc
variable [aq]
variable {R S : Type} {P : Program} {E : Env} {N : Nat} {Γ Jb : List (Nat × RP)} {Ω fE : List OB} {ty : TypeId} {α β : Type} {ρ : iC α}
def Mx (ρ : iC α) : Option α → RP
 | none => pv (.pointer none)
 | some x => ea ρ x
theorem oea_ptr {o : Option α} {F : FP} {w : World} {v : Value} (h : (Mx ρ o).h F w v) : ∃ p, v = .pointer p ∧ p.isSome = o.isSome := by
 cases o with
 | none => exact ⟨none, h, rfl⟩
 | some x => obtain ⟨b, off, _, _, _, _, hv, _⟩ := h; exact ⟨_, hv, rfl⟩
theorem Sat.freezeO {a : Act} {w : World} {j : Nat} {o : OB} (hs : Sat E N Γ Ω a w) (hj : Ω[j]? = some o) : Sat E N Γ (Ω.set j dead) a w := by
 obtain ⟨A, B, rfl, rfl⟩ := nj hj
 have hsub : ∀ b, b ∈ ow (A ++ dead :: B) → b ∈ ow (A ++ o :: B) := fun b hb => by
  rw [jI] at hb ⊢
  simp [dead] at hb
  simp only [List.mem_append]
  exact hb.imp id .inr
 rw [ko]
 have hf : ∀ b, b < w.heap.size → fr E (A ++ o :: B) b → fr E (A ++ dead :: B) b := fun _ _ ⟨h1, h2⟩ => ⟨h1, fun hb => h2 (hsub _ hb)⟩
 refine ⟨hs.sz, hs.df, fun t φ ht => φ.mono (.refl hf) (hs.sl t φ ht), fun q hq => ?_, ?_, fun b hb => hs.bd b (hsub b hb), hs.kp, hs.fs⟩
 ·rcases List.mem_append.1 hq with h | h
  ·exact q.mono (.refl hf) (fun _ _ => rfl) (hs.ob q (by simp [h]))
  ·rcases List.mem_cons.1 h with h | h
   ·subst h; exact trivial
   ·exact q.mono (.refl hf) (fun _ _ => rfl) (hs.ob q (by simp [h]))
 ·have := hs.nd
  rw [jI] at this ⊢
  simp only [dead, List.nil_append]
  exact this.sublist (List.Sublist.append (List.Sublist.refl _) (List.sublist_append_right _ _))
theorem r_optc {x : Operand} {o : Option α} {y : α} (h : o = some y) (hx : dw Γ x = some (Mx ρ o)) : Rd P E N (.nilCheck x) ty Γ Ω [] (ea ρ y) := .mk fun a w hs => by
 subst h
 have h1 : (ea ρ y).h (fr E Ω) w (a.eval x) := hs.op hx
 obtain ⟨b, off, cells, ty', fz, es, hv, h2⟩ := h1
 exact ⟨_, ⟨b, off, cells, ty', fz, es, hv, h2⟩, fun w' o ho _ => by simp [execOp, ho, hv]⟩
theorem Rs {t e : Nat} {yt : TypeId} {x y : Operand} {o : Option α} (hu : P.underlying t = some (.pointer e)) (hx : dw Γ x = some (Mx ρ o)) (hy : dw Γ y = some (pv (.pointer none))) :
  Rd P E N (.binOp .neq t x y yt) ty Γ Ω [] (bv o.isSome) := .mk fun a w hs => by
 obtain ⟨p, h1, hp⟩ := oea_ptr (hs.op hx)
 have h2 : a.eval y = .pointer none := hs.op hy
 refine ⟨_, rfl, fun w' o' ho _ => ?_⟩
 have he : (Op.equal t (.pointer p) (.pointer none)).run P w' = .ok p.isNone w' := by
  unfold Op.equal
  rw [show Op.maxDepth = 9999 + 1 from rfl, Op.equalIn, Sem.run_bind, run_underlying hu]
  cases p <;> rfl
 have hg : (eqGuard .neq t x y (.pointer p) (.pointer none)).run P w' = .ok () w' := by unfold eqGuard; cases p <;> rfl
 have hb : binOp .neq t (.pointer p) (.pointer none) = (do pure (.bool (!(← Op.equal t (.pointer p) (.pointer none))))) := rfl
 rw [← hp]
 simp [execOp, ho, h1, h2, hg, hb, he]
end Go.Dc
namespace Go.Dc
variable [aq]
variable {R : Type} {P : Program} {E : Env} {N : Nat} {Γ : List (Nat × RP)} {Ω : List OB} {ty : TypeId}
section rows
variable {α : Type} {ρ : iC α} {F : FP} {w : World}
end rows
section
variable {α : Type} {e t : TypeId} {ρ : iC α} {bytes : Nat} {x y : Operand} {hv : Value} {S : List Nat} {d : List α} {j : Nat}
end
end Go.Dc
namespace Go.Dc
variable [aq]
variable {P : Program} {E : Env} {N : Nat} {Γ : List (Nat × RP)} {Ω : List OB} {ty : TypeId}
section
variable {α : Type} {e t : TypeId} {ρ : iC α} {bytes : Nat} {x y : Operand} {hv : Value} {S : List Nat} {d : List α} {j : Nat}
end
end Go.Dc
namespace Go.Dc
variable [aq]
variable {P : Program} {E : Env} {N : Nat} {Γ : List (Nat × RP)} {Ω : List OB} {ty : TypeId}
section
variable {α : Type} {e t yt : TypeId} {ρ : iC α} {bytes : Nat} {x y : Operand} {hv : Value} {S : List Nat} {d : List α} {j : Nat}
end
end Go.Dc
set_option linter.unusedSimpArgs false
namespace Go.Dc
variable {α β γ σ ρ : Type} {P Q : α → Prop}
def T (m : Option α) (Q : α → Prop) : Prop := ∃ r, m = some r ∧ Q r
theorem T.bind {m : Option α} {f : α → Option β} {Q : β → Prop} (h : T m P) (k : ∀ a, P a → T (f a) Q) : T (Option.bind m f) Q := by
 obtain ⟨a, rfl, ha⟩ := h
 exact k a ha
theorem T.ret {a : α} (h : Q a) : T (some a) Q := ⟨a, rfl, h⟩
theorem T.mono {m : Option α} (h : T m P) (k : ∀ a, P a → Q a) : T m Q := let ⟨a, h1, h2⟩ := h; ⟨a, h1, k a h2⟩
theorem T.T4 {x : β} {k : β → Option α} (h : T (k x) Q) : T (T4 x k) Q := h
theorem T.join {f : β → Option α} {g : (β → Option α) → Option α} (h : T (g f) Q) : T (dx f g) Q := h
theorem T.cond {b : Bool} {x y : Option α} (h1 : b = true → T x Q) (h2 : b = false → T y Q) : T (bif b then x else y) Q := by
 cases b
 ·exact h2 rfl
 ·exact h1 rfl
theorem T.eq {m : Option α} {a : α} (h : T m (· = a)) : m = some a := by obtain ⟨b, h1, rfl⟩ := h; exact h1
theorem T.loop {f : σ → Option (Sum ρ σ)} {Q : ρ → Prop} (I : σ → Prop) (μ : σ → Nat) {s : σ} (h0 : I s)
  (step : ∀ s, I s → T (f s) fun o => match o with | .inl r => Q r | .inr s' => I s' ∧ μ s' < μ s) : T (aI f s) Q := by
 obtain ⟨r, h1, h2⟩ := RR I Q μ (fun s hs => by
  obtain ⟨o, h1, h2⟩ := step s hs
  match o, h1, h2 with
  | .inl r, h1, h2 => exact .inl ⟨r, h1, h2⟩
  | .inr s', h1, h2 => exact .inr ⟨s', h1, h2⟩) s h0
 exact ⟨r, h1, h2⟩
theorem qp {f : β → Option α} {g : (β → Option α) → Option α} : dx f g = g f := rfl
theorem VR {d : List α} {n : Int} (h0 : 0 ≤ n) (h1 : n.toNat < d.length) : aL d n = some d[n.toNat] := by
 unfold aL; rw [if_pos h0, List.getElem?_eq_getElem h1]
theorem a_ {d : List α} {n : Nat} (h1 : n < d.length) : aL d (n : Int) = some d[n] := by
 rw [VR (by omega) (by simpa using h1)]; simp
theorem slM_eq {d : List α} {lo hi : Int} (h0 : 0 ≤ lo) (h1 : lo ≤ hi) (h2 : hi ≤ d.length) : QV d lo hi = some ((d.take hi.toNat).drop lo.toNat) := by
 unfold QV; rw [if_pos ⟨h0, h1, h2⟩]
theorem cL {b : Nat} {d e : List α} (h : (d.length + e.length) * b ≤ 140737488355328) : dh b d e = some (d ++ e) := by
 unfold dh; rw [if_pos h]
theorem mkM_eq {b : Nat} {z : α} {n : Int} (h0 : 0 ≤ n) (h : b * n.toNat ≤ 140737488355328) : uB b z n = some (List.replicate n.toNat z) := by
 unfold uB; rw [if_pos ⟨h0, h⟩]
theorem wrap64 {x : Int} (h0 : -9223372036854775808 ≤ x) (h1 : x ≤ 9223372036854775807) : IntKind.wrap .i64 x = x := by
 simp [IntKind.wrap, IntKind.signed, IntKind.bits]; omega
theorem iz {x y : Int} (h0 : -9223372036854775808 ≤ x + y) (h1 : x + y ≤ 9223372036854775807) : aN .i64 x y = x + y := wrap64 h0 h1
theorem Cc {x y : Int} (h0 : -9223372036854775808 ≤ x - y) (h1 : x - y ≤ 9223372036854775807) : qq .i64 x y = x - y := wrap64 h0 h1
theorem imul64 {x y : Int} (h0 : -9223372036854775808 ≤ x * y) (h1 : x * y ≤ 9223372036854775807) : XE .i64 x y = x * y := wrap64 h0 h1
end Go.Dc
namespace Go.Dc
variable {α β γ σ ρ τ : Type} {Q : ρ → Prop}
abbrev onO (Q : ρ → Prop) (I : σ → Prop) (o : Sum ρ σ) : Prop := match o with | .inl r => Q r | .inr s => I s
theorem T.loopM {f : σ → Option (Sum ρ σ)} (I : σ → Prop) (μ : σ → Nat) {s : σ} (h0 : I s)
  (step : ∀ s, I s → T (f s) (onO Q fun s' => I s' ∧ μ s' < μ s)) : T (aI f s) Q :=
 T.loop I μ h0 fun s hs => (step s hs).mono fun o ho => by
  match o, ho with
  | .inl r, h => exact h
  | .inr s', h => exact h
theorem T.AV {S : Type} {f : S → Option ρ} {g : (S → Option ρ) → Option ρ} (P : S → Prop) (h1 : ∀ x, P x → T (f x) Q) (h2 : ∀ k : S → Option ρ, (∀ x, P x → T (k x) Q) → T (g k) Q) : T (dx f g) Q := h2 f h1
theorem T.cS {f : σ → Option (Sum ρ σ)} (n : Nat) (I : Nat → σ → Prop) {s : σ} (h0 : I 0 s)
  (step : ∀ k s, I k s → T (f s) (onO Q fun s' => k < n ∧ I (k + 1) s')) : T (aI f s) Q := by
 suffices h : ∀ m k s, n + 1 - k ≤ m → I k s → T (aI f s) Q from h _ 0 s (Nat.le_refl _) h0
 intro m
 induction m with
 | zero =>
  intro k s hm hs
  obtain ⟨o, h1, h2⟩ := step k s hs
  rw [gq, h1]
  match o, h2 with
  | .inl r, h2 => exact ⟨r, rfl, h2⟩
  | .inr s', h2 => have := h2.1; omega
 | succ m ih =>
  intro k s hm hs
  obtain ⟨o, h1, h2⟩ := step k s hs
  rw [gq, h1]
  match o, h2 with
  | .inl r, h2 => exact ⟨r, rfl, h2⟩
  | .inr s', h2 => exact ih (k + 1) s' (by have := h2.1; omega) h2.2
theorem XM {l : List α} {f : Int → Option (Sum (Sum ρ Unit) Int)} (g : α → Option ρ)
  (h : ∀ i (hi : i < l.length), f (i : Int) = some (match g l[i] with | some r => .inl (.inl r) | none => .inr ((i : Int) + 1)))
  (hend : f (l.length : Int) = some (.inl (.inr ()))) : aI f 0 = some (match l.findSome? g with | some r => .inl r | none => .inr ()) := by
 suffices hh : ∀ m i, l.length - i ≤ m → i ≤ l.length → aI f (i : Int) = some (match (l.drop i).findSome? g with | some r => .inl r | none => .inr ()) by
  simpa using hh _ 0 (Nat.le_refl _) (Nat.zero_le _)
 intro m
 induction m with
 | zero =>
  intro i h1 h2
  have e : i = l.length := by omega
  subst e
  rw [gq, hend]; simp
 | succ m ih =>
  intro i h1 h2
  by_cases e : i = l.length
  ·subst e; rw [gq, hend]; simp
  ·have hi : i < l.length := by omega
   rw [gq, h i hi, List.drop_eq_getElem_cons hi, List.findSome?_cons]
   cases hg : g l[i] with
   | some r => rfl
   | none =>
    simp only [Option.bind_some]
    exact ih (i + 1) (by omega) (by omega)
theorem aj {a : α} {f : α → Option β} : Option.bind (some a) f = f a := rfl
theorem LY {A B R : Type} {kr : A → Option R} {kb : B → Option R} {b : B} : eH kr kb (.inr b) = kb b := rfl
theorem xD {d : List α} {z : α} {n : Nat} (h : n < d.length) : aL d (n : Int) = some (d.getD n z) := by
 rw [a_ h]; simp [List.getD, h]
theorem Cd {d : List α} (z : α) {n : Int} (h0 : 0 ≤ n) (h : n < d.length) : aL d n = some (d.getD n.toNat z) := by
 obtain ⟨m, rfl⟩ := Int.eq_ofNat_of_zero_le h0
 rw [xD (z := z) (by omega)]; rfl
theorem A5 {d : List α} {i j : Nat} {x z : α} (hi : i < d.length) : (d.set i x).getD j z = if i = j then x else d.getD j z := by
 by_cases e : i = j
 ·subst e; simp [List.getD, hi]
 ·simp [List.getD, List.getElem?_set_ne e, e]
theorem Ei {n i : Nat} {x : α} : (List.replicate n x).getD i x = x := by
 by_cases h : i < n
 ·simp [List.getD, h]
 ·simp [List.getD, h]
theorem Z6 {b : Nat} {z : α} {n : Nat} (h : b * n ≤ 140737488355328) : uB b z (n : Int) = some (List.replicate n z) := by
 rw [mkM_eq (by omega) (by simpa using h)]; simp
theorem cN {n : Nat} (h : n ≤ 4611686018427387904) : aN .i64 (n : Int) 1 = ((n + 1 : Nat) : Int) := by
 rw [iz (by omega) (by omega)]; rfl
theorem isub1 {n : Nat} (h : n ≤ 4611686018427387904) : qq .i64 (n : Int) 1 = (n : Int) - 1 := Cc (by omega) (by omega)
end Go.Dc
namespace Go.Dc
variable [aq]
variable {P : Program} {E : Env} {N : Nat} {Γ : List (Nat × RP)} {Ω : List OB} {ty : TypeId}
section
variable {α : Type} {ρ : iC α} {hv : Value} {S : List Nat} {d d' : List α} {j : Nat}
end
section
variable {α : Type} {s d : List α} {i j : Int} {bytes : Nat} {v r : List α} {z p : α} {n : Nat}
end
end Go.Dc
namespace Go.Dc
variable [aq]
variable {P : Program} {E : Env} {N : Nat} {Γ : List (Nat × RP)} {Ω : List OB} {ty : TypeId}
def Y0 (s : ByteArray) (i : Int) : Option Int := if 0 ≤ i then (s[i.toNat]?).map fun b => (b.toNat : Int) else none
theorem r_sidx {t : TypeId} {x i : Operand} {k : IntKind} {s : ByteArray} {n y : Int} (h : Y0 s n = some y) (hu : P.underlying t = some .string) (hx : dw Γ x = some (sv s)) (hi : dw Γ i = some (iv k n)) :
  Rd P E N (.index t x i) ty Γ Ω [] (iv .u8 y) := .mk fun a w hs => by
 have h1 : a.eval x = .string s := hs.op hx
 have h2 : a.eval i = .int k n := hs.op hi
 unfold Y0 at h
 by_cases h0 : 0 ≤ n
 ·rw [if_pos h0] at h
  cases hb : s[n.toNat]? with
  | none => rw [hb] at h; cases h
  | some b =>
   rw [hb] at h
   cases h
   exact ⟨_, rfl, fun w' o ho _ => by simp [execOp, ho, h1, h2, Instr.index, asIntOf, run_underlying hu, h0, hb]⟩
 ·rw [if_neg h0] at h; cases h
def Y5 (a b : ByteArray) : Option ByteArray := if ((a.size + b.size : Nat) : Int) > IntKind.i64.max then none else some (a ++ b)
theorem r_sadd {t yt : TypeId} {x y : Operand} {s u r : ByteArray} (h : Y5 s u = some r) (hx : dw Γ x = some (sv s)) (hy : dw Γ y = some (sv u)) : Rd P E N (.binOp .add t x y yt) ty Γ Ω [] (sv r) := .mk fun a w hs => by
 have h1 : a.eval x = .string s := hs.op hx
 have h2 : a.eval y = .string u := hs.op hy
 unfold Y5 at h
 by_cases h0 : ((s.size + u.size : Nat) : Int) > IntKind.i64.max
 ·rw [if_pos h0] at h; cases h
 ·rw [if_neg h0] at h
  cases h
  have hg : ∀ w', (eqGuard .add t x y (.string s) (.string u)).run P w' = .ok () w' := fun w' => by unfold eqGuard; rfl
  have hb : binOp .add t (.string s) (.string u) = Op.stringOp .add s u := rfl
  exact ⟨_, rfl, fun w' o ho _ => by
   have hm : IntKind.i64.max = 9223372036854775807 := by decide
   simp [execOp, ho, h1, h2, hg, hb, Op.stringOp]
   omega⟩
section
variable {α : Type} {e t : TypeId} {ρ : iC α} {bytes : Nat} {x y : Operand} {hv : Value} {S : List Nat} {d : List α} {j : Nat}
def slf {α : Type} (ρ : iC α) (d : List α) : RP :=
 ⟨fun F w v => ∃ a, v = .slice a d.length d.length ∧ S3 ρ F w a d, fun ag ⟨a, h1, h3⟩ => ⟨a, h1, h3.mono ag⟩⟩
theorem r_full {hi mx : Operand} {k1 k2 : IntKind} (hu : P.underlying t = some (.slice e)) (h : Hr P e ρ bytes) (hx : dw Γ x = some (eN ρ d)) (hhi : dw Γ hi = some (iv k1 (d.length : Int))) (hmx : dw Γ mx = some (iv k2 (d.length : Int))) :
  Rd P E N (.slice t x none (some hi) (some mx)) ty Γ Ω [] (slf ρ d) := .mk fun a w hs => by
 obtain ⟨ad, c, hv, hc, p6⟩ := hs.op hx
 have e2 : a.eval hi = .int k1 (d.length : Int) := hs.op hhi
 have e3 : a.eval mx = .int k2 (d.length : Int) := hs.op hmx
 by_cases h0 : d = []
 ·subst h0
  refine ⟨.slice (if 0 = 0 then ad else ad.map (·.add (0 * ρ.size))) 0 0, ⟨_, rfl, fun h => absurd rfl h⟩, fun w' o ho _ => ?_⟩
  have hb : (Instr.sliceBounds true 0 c none (some (.int k1 (([] : List α).length : Int))) (some (.int k2 (([] : List α).length : Int)))).run P w' = .ok (0, 0, 0) w' := by
   simp [Instr.sliceBounds, Instr.sliceBound, asIntOf]
  have hb' : (Instr.sliceBounds true 0 c none (some (.int k1 0)) (some (.int k2 0))).run P w' = .ok (0, 0, 0) w' := by simpa using hb
  simp [execOp, ho, hv, e2, e3, Instr.sliceAt, run_underlying hu, Instr.slice, hb', h.sizeOf]
 ·obtain ⟨b, off, cells, ty', fz, rfl, hF, hb0, hH⟩ := p6 h0
  refine ⟨.slice (some ⟨b, off, none⟩) d.length d.length, ⟨_, rfl, fun _ => ⟨b, off, cells, ty', fz, rfl, hF, hb0, hH⟩⟩, fun w' o ho _ => ?_⟩
  have hb : (Instr.sliceBounds true d.length c none (some (.int k1 (d.length : Int))) (some (.int k2 (d.length : Int)))).run P w' = .ok (0, d.length, d.length) w' := by
   simp [Instr.sliceBounds, Instr.sliceBound, asIntOf, hc]
  have hne : d.length ≠ 0 := fun e => h0 (List.eq_nil_of_length_eq_zero e)
  simp [execOp, ho, hv, e2, e3, Instr.sliceAt, run_underlying hu, Instr.slice, hb, h.sizeOf, hne, ew]
theorem WU {d' d'' : List α} (hd : dh bytes d d' = some d'') (hne : Nat.ble 1 d'.length = true) (hu : P.underlying t = some (.slice e)) (h : Hr P e ρ bytes)
  (hx : dw Γ x = some (slf ρ d)) (hy : dw Γ y = some (eN ρ d')) :
  St P E N (.call ⟨.builtin .append, #[x, y], #[t, t]⟩) ty Γ Ω [] (fun X : Value × List Nat => pv X.1) (fun X => Ω ++ [oa ρ X.1 X.2 d'']) := by
 intro a w hs
 obtain ⟨hsz, rfl⟩ := E8 hd
 have hne' : 1 ≤ d'.length := Nat.le_of_ble_eq_true hne
 obtain ⟨base, XG, hxat⟩ := hs.op hx
 obtain ⟨ya, yc, hvy, hyc, hyat⟩ := hs.op hy
 obtain ⟨i, hi, his, hib, z, hz, hzs⟩ := h.info
 obtain ⟨news, hnews, hnc⟩ := PG hyat
 have hnl : news.length = d'.length * ρ.size := by rw [hnews.length, Ey]
 obtain ⟨es, uW, hec⟩ := PG hxat
 have aaD := Wn hsz h.bpos (show d.length < d.length + d'.length by omega)
 have hf := Gq (P := P) (size := i.size) (m := d'.length) (yc := yc) (ya := ya) (news := news) (w := w.drew) (by rw [his, hnl])
  (by rw [his]; exact hnc.imp id fun ⟨b, off, cells, ty, fz, h1, _, h3, h4⟩ => ⟨b, off, cells, ty, fz, h1, h3, h4⟩)
 have hold := Gq (P := P) (size := i.size) (m := d.length) (yc := d.length) (ya := base) (news := es) (w := w.drew) (by rw [his, uW.length, Ey])
  (by rw [his]; exact hec.imp id fun ⟨b, off, cells, ty, fz, h1, _, h3, h4⟩ => ⟨b, off, cells, ty, fz, h1, h3, h4⟩)
 have hr := HM (P := P) t ty e i z hu hi hz hold hf (by omega) aaD.1 (by rw [hib]; exact aaD.2)
 have hst : ∀ b, b < w.heap.size → ∀ o, (w.drew.alloc o).heap[b]? = w.heap[b]? := fun b hb o => bF w.drew o hb
 refine iU (fun o ho ht => qA ho XG hvy (by rw [ht]; exact hr)) ⟨(.slice (some ⟨w.heap.size, 0, none⟩) (d.length + d'.length) (grownCap w (d.length + d'.length) d.length e), [w.heap.size]), ?_, rfl, by simp, fun b hb _ => hst b hb _, BU (by simp [oa])⟩
 refine hs.add ⟨rfl, rfl, rfl, by first | exact fun _ => Nat.le_refl _ | exact fun _ => Nat.le_add_right _ _⟩ (by simp) (fun b hb => hst b hb _) (fun b hb => ?_) (by simp [oa]) ?_
 ·rw [show b = w.heap.size from by simpa [oa] using hb]; exact ⟨Nat.le_refl _, by show _ < (w.drew.alloc _).heap.size; rw [World.size_alloc]; exact Nat.lt_succ_self _⟩
 ·have hag : ∀ o, Ag (fr E Ω) (fr E (Ω ++ [oa ρ (.slice (some ⟨w.heap.size, 0, none⟩) (d.length + d'.length) (grownCap w (d.length + d'.length) d.length e)) [w.heap.size] (d ++ d')])) w (w.drew.alloc o) := fun o =>
   ⟨fun b hb hf => Uq hf (fun hm => by
    have : b = w.heap.size := (by simpa [oa] using hm)
    omega), fun b hb _ => hst b hb _⟩
  refine R9 (uW.mono (hag _)) (hnews.mono (hag _)) rfl (fT w.drew _) ?_ Sb
  simp [Builtin.zeroCells, hzs]
end
end Go.Dc
namespace Go.Dc
theorem ba_loop (bs : ByteArray) : ∀ n i r, bs.size - i ≤ n → ByteArray.toList.loop bs i r = r.reverse ++ bs.data.toList.drop i := by
 intro n
 induction n with
 | zero =>
  intro i r h
  rw [ByteArray.toList.loop, if_neg (by omega), List.drop_eq_nil_of_le (by simp; exact Nat.le_of_sub_eq_zero (by have : bs.data.size = bs.size := rfl; omega)), List.append_nil]
 | succ n ih =>
  intro i r h
  rw [ByteArray.toList.loop]
  by_cases hi : i < bs.size
  ·have hi' : i < bs.data.toList.length := by simpa using hi
   rw [if_pos hi, ih _ _ (by omega), List.drop_eq_getElem_cons hi']
   have : bs.get! i = bs.data.toList[i] := by
    show bs.data[i]! = _
    rw [getElem!_pos bs.data i hi]; simp
   rw [this]; simp
  ·rw [if_neg hi, List.drop_eq_nil_of_le (by simp; exact Nat.le_of_sub_eq_zero (by have : bs.data.size = bs.size := rfl; omega)), List.append_nil]
theorem Pb (bs : ByteArray) : bs.toList = bs.data.toList := by
 unfold ByteArray.toList
 rw [ba_loop bs _ 0 [] (Nat.le_refl _)]; simp
theorem ba_inj {a b : ByteArray} : a.toList = b.toList ↔ a = b := by
 rw [Pb, Pb]
 constructor
 ·intro h
  have := Array.toList_inj.1 h
  cases a; cases b; simp only at this; rw [this]
 ·rintro rfl; rfl
theorem ba_beq {a b : ByteArray} : (a.toList == b.toList) = decide (a = b) := by
 rw [Bool.eq_iff_iff, beq_iff_eq, decide_eq_true_iff, ba_inj]
end Go.Dc
namespace Go.Dc
variable [aq]
variable {P : Program} {E : Env} {N : Nat} {Γ : List (Nat × RP)} {Ω : List OB} {ty : TypeId} {α β : Type} [DecidableEq α] {κ : iC α} {ν : iC β} {kt : TypeId}
def QS {α β : Type} (κ : iC α) (ν : iC β) (F : FP) (w : World) (l : List MapEntry) (d : List (α × β)) : Prop :=
 l.length = d.length ∧ ∀ (i : Nat) (e : MapEntry) (p : α × β), l[i]? = some e → d[i]? = some p → (sh κ p.1).h F w e.key ∧ (sh ν p.2).h F w e.val
theorem QS.mono {α β : Type} {κ : iC α} {ν : iC β} {F F' : FP} {w w' : World} (a : Ag F F' w w') {l : List MapEntry} {d : List (α × β)} (h : QS κ ν F w l d) : QS κ ν F' w' l d :=
 ⟨h.1, fun i e p h1 h2 => let ⟨q1, q2⟩ := h.2 i e p h1 h2; ⟨(sh κ p.1).mono a q1, (sh ν p.2).mono a q2⟩⟩
def om {α β : Type} (κ : iC α) (ν : iC β) (b : Nat) (d : List (α × β)) : OB where
 S := [b]
 h := fun F w => ∃ es clock, w.heap[b]? = some (.map es clock) ∧ QS κ ν F w es.toList d ∧ (∀ e ∈ es.toList, e.born < clock) ∧ (es.toList.map (·.born)).Nodup
 mono := by
  rintro F F' w w' ag hs ⟨es, clock, h1, h2, h3⟩
  exact ⟨es, clock, by rw [hs b (by simp)]; exact h1, h2.mono ag, h3⟩
def nT (d : List (α × β)) (x : α) : Option Nat := d.findIdx? fun p => decide (p.1 = x)
def iq (d : List (α × β)) (x : α) (y : β) : List (α × β) := match nT d x with | some i => d.set i (x, y) | none => d ++ [(x, y)]
def sU (d : List (α × β)) (x : α) : Bool := (nT d x).isSome
def cF (d : List (α × β)) (x : α) (z : β) : β := match nT d x with | some i => (d[i]?.map (·.2)).getD z | none => z
structure S5 {α : Type} [DecidableEq α] (P : Program) (kt : TypeId) (κ : iC α) : Prop where
 check : ∀ (x : α) (F : FP) (w : World) (v : Value), (sh κ x).h F w v → ∀ (e : Bool) (w' : World), (Instr.checkKey e 10000 kt v).run P w' = .ok () w'
 eq : ∀ (x y : α) (F : FP) (w : World) (u v : Value), (sh κ x).h F w u → (sh κ y).h F w v → ∀ (w' : World), (Op.equal kt u v).run P w' = .ok (decide (x = y)) w'
 stay : ∀ (x : α) (F : FP) (w : World) (u v : Value), (sh κ x).h F w u → (sh κ x).h F w v → Instr.sameBits 10000 u v = true
 now : ∀ (k : TypeDesc), P.underlying kt = some k → ∀ (u v : Value) (r : Bool), Instr.sameNow k u v = some r → ∀ w', (Op.equal kt u v).run P w' = .ok r w'
 und : ∃ k, P.underlying kt = some k
theorem DG (hK : S5 P kt κ) {F : FP} {w : World} {x : α} {v : Value} (hx : (sh κ x).h F w v) : ∀ {l : List MapEntry} {d : List (α × β)}, QS κ ν F w l d → ∀ (n : Nat) (w' : World),
  ∃ r, (Instr.findAsking kt v l n).run P w' = .ok r w' ∧ r.map (·.1) = (nT d x).map (n + ·) ∧ ∀ i u, r = some (i, u) → ∃ e, n ≤ i ∧ l[i - n]? = some e ∧ e.val = u
 | [], [], _, n, w' => ⟨none, rfl, rfl, by simp⟩
 | e :: l, p :: d, h, n, w' => by
  obtain ⟨h1, h2⟩ := h.2 0 e p rfl rfl
  have ht : QS κ ν F w l d := ⟨by have := h.1; simp at this; exact this, fun i e' p' a b => h.2 (i + 1) e' p' (by simpa using a) (by simpa using b)⟩
  have he := hK.eq x p.1 F w v e.key hx h1 w'
  by_cases c : x = p.1
  ·refine ⟨some (n, e.val), ?_, ?_, fun i u hr => ?_⟩
   ·simp [Instr.findAsking, he, c]
   ·simp [nT, List.findIdx?_cons, c]
   ·simp only [Option.some.injEq, Prod.mk.injEq] at hr
    obtain ⟨rfl, rfl⟩ := hr
    exact ⟨e, Nat.le_refl _, by simp, rfl⟩
  ·obtain ⟨r, r1, r2, r3⟩ := DG hK hx ht (n + 1) w'
   refine ⟨r, ?_, ?_, fun i u hr => ?_⟩
   ·simp [Instr.findAsking, he, c, r1]
   ·rw [r2]
    have c' : ¬ p.1 = x := fun e => c e.symm
    simp only [nT, List.findIdx?_cons, c', decide_false, Bool.false_eq_true, if_false, Option.map_map]
    congr 1
    funext z
    simp only [Function.comp]; omega
   ·obtain ⟨e', q1, q2, q3⟩ := r3 i u hr
    refine ⟨e', by omega, ?_, q3⟩
    rw [show i - n = (i - (n + 1)) + 1 by omega, List.getElem?_cons_succ]; exact q2
 | [], _ :: _, h, _, _ => by have := h.1; simp at this
 | _ :: _, [], h, _, _ => by have := h.1; simp at this
theorem M9 (hK : S5 P kt κ) {k : TypeDesc} (hk : P.underlying kt = some k) {v : Value} : ∀ {l : List MapEntry} {n : Nat} {r : Option (Nat × Value)}, Instr.findNow k v l n = some r → ∀ w', (Instr.findAsking kt v l n).run P w' = .ok r w'
 | [], n, r, h, w' => by simp only [Instr.findNow, Option.some.injEq] at h; subst h; rfl
 | e :: l, n, r, h, w' => by
  simp only [Instr.findNow] at h
  split at h
  ·rename_i hs
   have := hK.now k hk v e.key true hs w'
   simp only [Option.some.injEq] at h; subst h
   simp [Instr.findAsking, this]
  ·rename_i hs
   have := hK.now k hk v e.key false hs w'
   have ih := M9 hK hk h w'
   simp [Instr.findAsking, this, ih]
  ·cases h
theorem xN (hK : S5 P kt κ) {F : FP} {w : World} {x : α} {v : Value} (hx : (sh κ x).h F w v) {l : List MapEntry} {d : List (α × β)} (h : QS κ ν F w l d) (w' : World) :
  ∃ r, (Instr.findKey kt v l).run P w' = .ok r w' ∧ r.map (·.1) = nT d x ∧ ∀ i u, r = some (i, u) → ∃ e, l[i]? = some e ∧ e.val = u := by
 obtain ⟨r, r1, r2, r3⟩ := DG hK hx h 0 w'
 obtain ⟨k, hk⟩ := hK.und
 refine ⟨r, ?_, by simpa using r2, fun i u hr => by obtain ⟨e, _, q2, q3⟩ := r3 i u hr; exact ⟨e, by simpa using q2, q3⟩⟩
 unfold Instr.findKey
 simp only [Sem.run_bind, run_underlying hk, Result.andThen]
 cases hf : Instr.findNow k v l 0 with
 | none => exact r1
 | some r' =>
  have := M9 hK hk hf w'
  rw [r1] at this
  simp only [Result.ok.injEq, and_true] at this
  subst this; rfl
theorem RW {kt : TypeId} (hu : P.underlying kt = some .string) : S5 P kt rS where
 check := fun x F w v h e w' => by
  have hv : v = .string x := h
  subst hv
  exact MapKept.run_checkKey (n := 9999) hu (k := .string x) (show MapKept.IsKey .string (.string x) from trivial) e
 eq := fun x y F w u v h1 h2 w' => by
  have e1 : u = .string x := h1
  have e2 : v = .string y := h2
  subst e1; subst e2
  have := run_equalIn_string w' 9999 kt x y hu
  show (Op.equalIn 10000 kt (.string x) (.string y)).run P w' = _
  rw [this]
  rw [ba_beq]
 stay := fun x F w u v h1 h2 => by
  have e1 : u = .string x := h1
  have e2 : v = .string x := h2
  subst e1; subst e2
  exact MapKept.sameBits_self (d := .string) (k := .string x) (show MapKept.IsKey .string (.string x) from trivial) _
 now := fun k hk u v r h w' => by
  rw [hu] at hk; cases hk
  cases u <;> cases v <;> simp [Instr.sameNow] at h
  subst h
  rename_i a b
  have := run_equalIn_string w' 9999 kt a b hu
  show (Op.equalIn 10000 kt (.string a) (.string b)).run P w' = _
  rw [this, ba_beq]; congr 1
  rw [Bool.eq_iff_iff, MapKept.bytes_beq, decide_eq_true_iff]
 und := ⟨_, hu⟩
theorem Lu (κ : iC α) (ν : iC β) {t : TypeId} : St P E N (.makeMap t none) ty Γ Ω [] (fun b : Nat => pv (.map (some b))) (fun b => Ω ++ [om κ ν b []]) := by
 intro a w hs
 refine iU (v := .map (some w.heap.size)) (w' := w.alloc (.map #[] 0)) (fun o ho ht => ?_) ⟨w.heap.size, ?_, rfl, by simp, fun b hb _ => bF w _ hb, BU (by simp [om])⟩
 ·have : (Instr.makeMap t none).run P w = .ok (.map (some w.heap.size)) (w.alloc (.map #[] 0)) := rfl
  simp [execOp, ho, this]
 ·refine hs.add ⟨rfl, rfl, rfl, by first | exact fun _ => Nat.le_refl _ | exact fun _ => Nat.le_add_right _ _⟩ (by simp) (fun _ hb => bF w _ hb) (fun b hb => ?_) (by simp [om]) ?_
  ·rw [show b = w.heap.size from by simpa [om] using hb]; exact ⟨Nat.le_refl _, by simp⟩
  ·exact ⟨#[], 0, fT w _, ⟨rfl, by simp⟩, by simp, by simp⟩
theorem L8 {t kt et : TypeId} {m k v : Operand} {b j : Nat} {d : List (α × β)} {x : α} {y : β} (hu : P.underlying t = some (.map kt et)) (hK : S5 P kt κ) (hm : dw Γ m = some (pv (.map (some b))))
  (hj : Ω[j]? = some (om κ ν b d)) (hk : dw Γ k = some (sh κ x)) (hv : dw Γ v = some (sh ν y)) : St P E N (.mapUpdate t m k v) ty Γ Ω [j] (fun _ : Unit => pv undef) (fun _ => Ω.set j (om κ ν b (iq d x y))) := by
 intro a w hs
 have h1 : a.eval m = .map (some b) := hs.op hm
 have h2 := hs.op hk
 have h3 := hs.op hv
 obtain ⟨es, clock, hb, hE, hB, hN⟩ := hs.l9 hj
 obtain ⟨r, r1, r2, r3⟩ := xN hK h2 hE w
 have hck := hK.check x _ _ _ h2 false w
 have fin : ∀ es' clock', QS κ ν (fr E Ω) w es'.toList (iq d x y) → (∀ e ∈ es'.toList, e.born < clock') → (es'.toList.map (·.born)).Nodup →
   ∃ x' : Unit, Sat E N Γ (Ω.set j (om κ ν b (iq d x y))) a { w with heap := w.heap.setIfInBounds b (.map es' clock') } ∧ (pv undef).h (fr E (Ω.set j (om κ ν b (iq d x y)))) { w with heap := w.heap.setIfInBounds b (.map es' clock') } undef ∧ Eff Ω (Ω.set j (om κ ν b (iq d x y))) [j] w { w with heap := w.heap.setIfInBounds b (.map es' clock') } := by
  intro es' clock' q1 q2 q3
  have C9 := MapKept.heap_set (o' := .map es' clock') hb
  have hlt := bS hb
  refine ⟨(), ?_, rfl, by simp, fun b' hb' hn' => C9.2 b' fun e => hn' j (by simp) _ hj (by rw [e]; simp [om]), sK hj fun b hb => .inl hb⟩
  refine hs.upd hj ⟨rfl, rfl, rfl, by first | exact fun _ => Nat.le_refl _ | exact fun _ => Nat.le_add_right _ _⟩ (by simp) (fun b' _ hn' => C9.2 b' fun e => hn' (by rw [e]; simp [om])) (fun b' hb' => .inl hb') (by simp [om]) ?_
  have hag : Ag (fr E Ω) (fr E (Ω.set j (om κ ν b (iq d x y)))) w { w with heap := w.heap.setIfInBounds b (.map es' clock') } :=
   ⟨fun b' _ hf => wo hj hf fun hm => hf.2 (Sat.me hj (b := b') hm), fun b' _ hf => C9.2 b' fun e => hf.2 (Sat.me hj (b := b') (by rw [e]; simp [om]))⟩
  exact ⟨es', clock', C9.1, q1.mono hag, q2, q3⟩
 intro o hop ht
 cases hr : r with
 | none =>
  rw [hr] at r1 r2
  have Ja : nT d x = none := by simpa using r2.symm
  have hrun : (execOp a.eval o).run P w = .ok .skip { w with heap := w.heap.setIfInBounds b (.map (es.push ⟨a.eval k, a.eval v, clock⟩) (clock + 1)) } := by
   simp [execOp, hop, h1, Instr.mapUpdate, run_underlying hu, MapKept.run_getObj_map hb, hck, r1, MapKept.run_setObj_map _ hb]
  rw [hrun]
  refine fin _ _ ?_ ?_ ?_
  ·unfold iq; rw [Ja]
   refine ⟨by simp [hE.1], fun i e p e1 e2 => ?_⟩
   rw [Array.toList_push] at e1
   have hl := hE.1
   rcases Nat.lt_or_ge i d.length with hlt | hge
   ·rw [List.getElem?_append_left (by omega)] at e1
    rw [List.getElem?_append_left (by omega)] at e2
    exact hE.2 i e p e1 e2
   ·rw [List.getElem?_append_right (by omega)] at e1
    rw [List.getElem?_append_right (by omega)] at e2
    rw [show i - es.toList.length = i - d.length by rw [hl]] at e1
    rcases Nat.eq_zero_or_pos (i - d.length) with h0 | h0
    ·rw [h0] at e1 e2
     simp only [List.getElem?_cons_zero, Option.some.injEq] at e1 e2
     subst e1; subst e2
     exact ⟨h2, h3⟩
    ·rw [List.getElem?_eq_none (by simp; omega)] at e2; cases e2
  ·intro e he
   simp only [Array.toList_push, List.mem_append, List.mem_singleton] at he
   rcases he with he | rfl
   ·have := hB e he; omega
   ·exact Nat.lt_succ_self _
  ·rw [Array.toList_push, List.map_append]
   refine List.nodup_append.2 ⟨hN, by simp, fun p hp q hq e => ?_⟩
   simp only [List.map_cons, List.map_nil, List.mem_singleton] at hq
   obtain ⟨e', he', rfl⟩ := List.mem_map.1 hp
   have := hB e' he'; omega
 | some iu =>
  obtain ⟨i, u⟩ := iu
  obtain ⟨e, he, rfl⟩ := r3 i u hr
  rw [hr] at r1 r2
  have Ja : nT d x = some i := by simpa using r2.symm
  have hid : ∃ p, d[i]? = some p ∧ p.1 = x := by
   unfold nT at Ja
   rw [List.findIdx?_eq_some_iff_getElem] at Ja
   obtain ⟨hlt, hp, _⟩ := Ja
   exact ⟨d[i], List.getElem?_eq_getElem hlt, of_decide_eq_true hp⟩
  obtain ⟨p, hp, rfl⟩ := hid
  have Yr : es[i]? = some e := by simpa using he
  have hst := hK.stay p.1 _ _ _ _ (hE.2 i e p he hp).1 h2
  have hrun : (execOp a.eval o).run P w = .ok .skip { w with heap := w.heap.setIfInBounds b (.map (es.modify i fun e => { e with key := a.eval k, val := a.eval v }) clock) } := by
   simp [execOp, hop, h1, Instr.mapUpdate, run_underlying hu, MapKept.run_getObj_map hb, hck, r1, MapKept.run_setObj_map _ hb, Instr.keyThatStays, Yr, hst]
  rw [hrun]
  have hlt : i < es.toList.length := (List.getElem?_eq_some_iff.1 he).1
  have hml : (es.modify i fun e => { e with key := a.eval k, val := a.eval v }).toList = es.toList.set i { e with key := a.eval k, val := a.eval v } := by
   apply List.ext_getElem?
   intro n
   rw [Array.getElem?_toList, Array.getElem?_modify]
   by_cases c : i = n
   ·subst c; rw [if_pos rfl, Yr, List.getElem?_set_self hlt]; rfl
   ·rw [if_neg c, List.getElem?_set_ne c, Array.getElem?_toList]
  refine fin _ _ ?_ ?_ ?_
  ·unfold iq; rw [Ja, hml]
   refine ⟨by simp [hE.1], fun n e' p' e1 e2 => ?_⟩
   by_cases c : i = n
   ·subst c
    rw [List.getElem?_set_self hlt] at e1
    rw [List.getElem?_set_self (by rw [← hE.1]; exact hlt)] at e2
    simp only [Option.some.injEq] at e1 e2
    subst e1; subst e2
    exact ⟨h2, h3⟩
   ·rw [List.getElem?_set_ne c] at e1
    rw [List.getElem?_set_ne c] at e2
    exact hE.2 n e' p' e1 e2
  ·rw [hml]
   intro e' he'
   rcases List.mem_or_eq_of_mem_set he' with he' | rfl
   ·exact hB e' he'
   ·exact hB e (List.mem_of_getElem? he)
  ·rw [hml, List.map_set]
   have : (es.toList.map (·.born)).set i e.born = es.toList.map (·.born) := by
    apply List.ext_getElem?
    intro n
    by_cases c : i = n
    ·subst c; rw [List.getElem?_set_self (by simpa using hlt), List.getElem?_map, he]; rfl
    ·rw [List.getElem?_set_ne c]
   rw [this]; exact hN
theorem r_mget {t kt et : TypeId} {m k : Operand} {b j : Nat} {d : List (α × β)} {x : α} {z : β} (hu : P.underlying t = some (.map kt et)) (hK : S5 P kt κ) (hz : ∃ zv, (∀ w, (zeroValue et).run P w = .ok zv w) ∧ ∀ F w, (sh ν z).h F w zv)
  (hm : dw Γ m = some (pv (.map (some b)))) (hj : Ω[j]? = some (om κ ν b d)) (hk : dw Γ k = some (sh κ x)) : Rd P E N (.lookup t m k true) ty Γ Ω [j] (I9 [sh ν (cF d x z), bv (sU d x)]) := fun a w hs => by
 have h1 : a.eval m = .map (some b) := hs.op hm
 have h2 := hs.op hk
 obtain ⟨es, clock, hb, hE, _⟩ := hs.l9 hj
 obtain ⟨zv, z1, z2⟩ := hz
 obtain ⟨r, r1, r2, r3⟩ := xN hK h2 hE w
 cases hr : r with
 | none =>
  rw [hr] at r2
  have Ja : nT d x = none := by simpa using r2.symm
  refine ⟨.tuple #[zv, .bool false], [b], ⟨#[zv, .bool false], rfl, ?_, ?_, trivial⟩, ?_, fun w' hw' o ho _ => ?_⟩
  ·unfold cF; rw [Ja]; exact z2 _ _
  ·unfold sU; rw [Ja]; rfl
  ·intro b' hb'; rw [List.mem_singleton.1 hb']; exact ⟨bS hb, .inr ⟨j, by simp, _, hj, by simp [om]⟩⟩
  ·have rQ : w'.heap[b]? = some (.map es clock) := by rw [hw' b (by simp)]; exact hb
   obtain ⟨r', r1', TH, _⟩ := xN hK h2 hE w'
   have : r' = none := by rw [Ja] at TH; simpa using TH
   subst this
   simp [execOp, ho, h1, Instr.lookup, run_underlying hu, MapKept.run_getObj_map rQ, hK.check x _ _ _ h2, r1', z1]
 | some iu =>
  obtain ⟨i, u⟩ := iu
  obtain ⟨e, he, rfl⟩ := r3 i u hr
  rw [hr] at r2
  have Ja : nT d x = some i := by simpa using r2.symm
  have hlt : i < d.length := by rw [← hE.1]; exact (List.getElem?_eq_some_iff.1 he).1
  refine ⟨.tuple #[e.val, .bool true], [b], ⟨#[e.val, .bool true], rfl, ?_, ?_, trivial⟩, ?_, fun w' hw' o ho _ => ?_⟩
  ·have eg : cF d x z = d[i].2 := by unfold cF; rw [Ja]; simp [hlt]
   rw [eg]
   exact (hE.2 i e d[i] he (List.getElem?_eq_getElem hlt)).2
  ·unfold sU; rw [Ja]; rfl
  ·intro b' hb'; rw [List.mem_singleton.1 hb']; exact ⟨bS hb, .inr ⟨j, by simp, _, hj, by simp [om]⟩⟩
  ·have rQ : w'.heap[b]? = some (.map es clock) := by rw [hw' b (by simp)]; exact hb
   obtain ⟨r', r1', TH, r3'⟩ := xN hK h2 hE w'
   have : ∃ u', r' = some (i, u') := by
    rw [Ja] at TH
    cases r' with
    | none => simp at TH
    | some q => simp at TH; exact ⟨q.2, by rw [← TH]⟩
   obtain ⟨u', rfl⟩ := this
   obtain ⟨e', he', rfl⟩ := r3' i u' rfl
   rw [he] at he'; cases he'
   simp [execOp, ho, h1, Instr.lookup, run_underlying hu, MapKept.run_getObj_map rQ, hK.check x _ _ _ h2, r1']
theorem r_sgeq {t yt : TypeId} {x y : Operand} {s u : ByteArray} (hx : dw Γ x = some (sv s)) (hy : dw Γ y = some (sv u)) : Rd P E N (.binOp .geq t x y yt) ty Γ Ω [] (bv (!Op.bytesLess s.toList u.toList)) :=
 LZ hx hy (fun _ _ => rfl) fun w => by simp [binOp, Op.stringOp]
end Go.Dc
namespace Go.Dc
variable [aq]
variable {P : Program} {E : Env} {N : Nat} {Γ : List (Nat × RP)} {Ω : List OB} {ty : TypeId}
def lq (n : Nat) (d : List Int) (i : Int) : Option Int := if d.length = n then aL d i else none
theorem LS {n : Nat} {d : List Int} {i y : Int} (h : lq n d i = some y) : d.length = n := by
 unfold lq at h; split at h
 ·assumption
 ·cases h
theorem Ra {n : Nat} {d : List Int} {i y : Int} (h : lq n d i = some y) : aL d i = some y := by
 have hl := LS h
 unfold lq at h; rwa [if_pos hl] at h
theorem map_iv (k : IntKind) (d : List Int) : d.map (iv k) = d.flatMap (rI k).cp := by
 induction d with
 | nil => rfl
 | cons x d ih => rw [List.map_cons, List.flatMap_cons, ih]; rfl
theorem r_vload {e : TypeId} {x : Operand} {b j : Nat} {k : IntKind} {d : List Int} {n : Int} {y : Int} (hy : aL d n = some y) (hg : ∀ w, (isAgg e).run P w = .ok false w)
  (hx : dw Γ x = some (pv (ptr b (0 + n.toNat)))) (hj : Ω[j]? = some (oc b (d.map (iv k)))) : Rd P E N (.load e x) ty Γ Ω [j] (iv k y) :=
 Zs (ρ := rI k) (off := 0) hy hg hx hj (by rw [← map_iv, List.drop_zero, List.take_of_length_le (by simp)]) rfl rfl
theorem Y7 {e : TypeId} {x v : Operand} {b j : Nat} {k : IntKind} {d : List Int} {n : Int} {y u : Int} (hy : aL d n = some y) (hn : ∀ w, (Go.sizeOf e).run P w = .ok 1 w)
  (hx : dw Γ x = some (pv (ptr b (0 + n.toNat)))) (hj : Ω[j]? = some (oc b (d.map (iv k)))) (hv : oR E N Γ Ω v [iv k u]) : St P E N (.store e x v) ty Γ Ω [j] (fun _ : Unit => pv undef) (fun _ => Ω.set j (oc b ((d.set n.toNat u).map (iv k)))) :=
 WV (off := 0) hy hn hx hj hv (Nat.ble_eq_true_of_le (by simp)) fun i hi e => by
  subst e
  simp only [Int.toNat_natCast, Nat.zero_add]
  rw [List.map_set]
  have hlt : i < (d.map (iv k)).length := by simpa using hi
  rw [List.set_eq_take_append_cons_drop, if_pos hlt]
  simp
end Go.Dc
namespace Go.Dc
inductive Ty where
 | int (k : IntKind)
 | bool
 | str
 | sl (t : Ty)
 | op (t : Ty)
 | st (n : Nat)
 | mp (k v : Ty)
 | vec (k : IntKind)
 deriving DecidableEq
class xw where
 den : Nat → Type
section
variable [xw]
def Ty.den : Ty → Type
 | .int _ => Int
 | .bool => Bool
 | .str => ByteArray
 | .sl t => List t.den
 | .op t => Option t.den
 | .st n => xw.den n
 | .mp k v => List (k.den × v.den)
 | .vec _ => List Int
structure cm where
 t : Ty
 d : t.den
end
theorem oea_at {α : Type} {ρ : iC α} {o : Option α} : (Mx ρ o).At := by
 intro F w v h
 cases o with
 | none => rw [show v = _ from h]; rfl
 | some x => obtain ⟨_, _, _, _, _, _, e, _⟩ := h; rw [e]; rfl
def rOp {α : Type} (ρ : iC α) : iC (Option α) := one (Mx ρ) fun _ => oea_at
class qc extends xw where
 rep : (n : Nat) → iC (xw.den n)
 agg : ∀ n, (rep n).agg = true
variable [qc]
def Ty.rep : (t : Ty) → iC t.den
 | .int k => rI k
 | .bool => rB
 | .str => rS
 | .sl t => wC t.rep
 | .op t => rOp t.rep
 | .st n => qc.rep n
 | .mp k v => Dc.one (fun _ : List (k.den × v.den) => anyc) fun _ => fun h => h
 | .vec _ => Dc.one (fun _ : List Int => anyc) fun _ => fun h => h
def Ty.one : Ty → Bool
 | .st _ => false
 | _ => true
theorem Ty.P5 {t : Ty} (h : t.one = true) : t.rep.agg = false := by
 cases t <;> first | rfl | cases h
inductive Src where
 | el (ds : Nat) (ix : Int)
 | fl (y fo : Nat)
 | ve (ds : Nat) (ix : Int)
 | vf (ds : Nat) (ix : Int) (off len : Nat)
structure bX where
 t : Ty
 d : t.den
 src : Option Src
inductive qd where
 | ptr (o h : Nat)
 | fn (f : Nat)
 | nF
 deriving DecidableEq
def pjG (d : List Int) (j : Nat) : Option Int := d[j]?
inductive At where
 | vr (i : Nat)
 | ci (k : IntKind) (n : Int)
 | cb (b : Bool)
 | ck (s : ByteArray)
 | nl
 | own (o h : Nat)
 | ptr (o h off : Nat)
 | mp (o h : Nat)
 | fn (f : Nat) (cs : List qd)
 | H8
 | nF
 | ea (i : Nat)
 | fu (i : Nat)
 | Mx (o h y : Nat)
 | Yn (o h z : Nat)
 | pj (i j : Nat)
 | vs (o h off i c : Nat)
 | fs (o h c : Nat)
 | sb (o h a b sz : Nat)
 | junk
inductive Sh where
 | undef
 | vl (g : Bool) (l : List At)
 | I9 (l : List (Bool × List At))
inductive MO where
 | dead
 | oa (h i : Nat)
 | oc (h : Nat) (l : List At)
structure Hd where
 hv : Value
 S : List Nat
 b : Nat
 one : hv.oneCell' = true
def iQ : List (Nat × bX) → Nat → Option bX
 | [], _ => none
 | (k, e) :: r, i => bif Nat.beq k i then some e else iQ r i
def RP.no : RP := ⟨fun _ _ _ => False, fun _ h => h⟩
def OB.no : OB := ⟨[], fun _ _ => False, fun _ _ h => h⟩
structure Cx where
 n : Nat
 env : List (Nat × bX)
 η : Nat → Hd
def qd.ok (n : Nat) : qd → Bool
 | .ptr _ h => Nat.blt h n
 | .fn f => Nat.blt f 2000
 | .nF => true
def qd.val (η : Nat → Hd) : qd → Value
 | .ptr _ h => Dc.ptr (η h).b 0
 | .fn f => .func (.func f) #[] #[]
 | .nF => .pointer none
def IA : Nat := 2000
def Ur (f : Nat) (vs : List Value) : Value := bif Nat.blt f IA then .func (.func f) #[] vs.toArray else .func (.func (f - IA)) vs.toArray #[]
theorem JY {f : Nat} {vs : List Value} (h : Nat.blt f IA = true) : Ur f vs = .func (.func f) #[] vs.toArray := by unfold Ur; rw [h]; rfl
def At.rp (c : Cx) : At → RP
 | .vr i => match iQ c.env i with
  | some e => bif e.t.one then sh e.t.rep e.d else RP.no
  | none => RP.no
 | .ci k n => iv k n
 | .cb b => bv b
 | .ck s => sv s
 | .nl => pv (.slice none 0 0)
 | .own _ h => bif Nat.blt h c.n then pv (c.η h).hv else RP.no
 | .ptr _ h off => bif Nat.blt h c.n then pv (Dc.ptr (c.η h).b off) else RP.no
 | .mp _ h => bif Nat.blt h c.n then pv (.map (some (c.η h).b)) else RP.no
 | .fn f cs => bif cs.all (qd.ok c.n) then pv (Ur f (cs.map (qd.val c.η))) else RP.no
 | .H8 => pv .nilFunc
 | .nF => pv (.pointer none)
 | .ea i => match iQ c.env i with
  | some e => Dc.ea e.t.rep e.d
  | none => RP.no
 | .fu i => match iQ c.env i with
  | some ⟨.sl t, d, _⟩ => slf t.rep d
  | _ => RP.no
 | .Mx _ h y => match iQ c.env y with
  | some ⟨t, _, some (.el _ ix)⟩ => bif Nat.blt h c.n then pv (V_ (c.η h).hv t.rep.size ix) else RP.no
  | some ⟨_, _, some (.ve _ ix)⟩ => bif Nat.blt h c.n then pv (Dc.ptr (c.η h).b (0 + ix.toNat)) else RP.no
  | some ⟨_, _, some (.vf _ ix off _)⟩ => bif Nat.blt h c.n then pv (Dc.ptr (c.η h).b (off + ix.toNat)) else RP.no
  | _ => RP.no
 | .Yn _ h z => match iQ c.env z with
  | some ⟨_, _, some (.fl y fo)⟩ => (match iQ c.env y with
   | some ⟨t, _, some (.el _ ix)⟩ => bif Nat.blt h c.n then pv (elF (c.η h).hv t.rep.size ix fo) else RP.no
   | _ => RP.no)
  | _ => RP.no
 | .pj i j => match iQ c.env i with
  | some ⟨.vec k, d, _⟩ => (match pjG d j with
   | some x => iv k x
   | none => RP.no)
  | _ => RP.no
 | .vs _ h off i cp => match iQ c.env i with
  | some ⟨.int _, l, _⟩ => bif Nat.blt h c.n then pv (.slice (some ⟨(c.η h).b, off, none⟩) (Int.toNat l) cp) else RP.no
  | _ => RP.no
 | .fs _ h cp => bif Nat.blt h c.n then pv (.slice (some ⟨(c.η h).b, 0, none⟩) cp cp) else RP.no
 | .sb _ h a b sz => match iQ c.env a, iQ c.env b with
  | some ⟨.int _, l, _⟩, some ⟨.int _, m, _⟩ => bif Nat.blt h c.n then pv (Rg (c.η h).hv sz (Int.toNat l) (Int.toNat m)) else RP.no
  | _, _ => RP.no
 | .junk => anyc
def wS (c : Cx) (g : Bool) (l : List At) : RP := bif g then ag (l.map (At.rp c)) else (l.map (At.rp c)).headD RP.no
def Sh.rp (c : Cx) : Sh → RP
 | .undef => pv Go.undef
 | .vl g l => wS c g l
 | .I9 l => Dc.I9 (l.map (fun x => wS c x.1 x.2))
def bX.QG (e : bX) : Option ((t : Ty) × List t.den) :=
 match e with
 | ⟨.sl t, d, _⟩ => some ⟨t, d⟩
 | _ => none
def cm.ob (D : cm) (h : Hd) : OB := match D with
 | ⟨.sl t, d⟩ => Dc.oa t.rep h.hv h.S d
 | ⟨.mp k v, d⟩ => Dc.om k.rep v.rep h.b d
 | ⟨.vec k, d⟩ => Dc.oc h.b (List.map (iv k) d)
 | _ => OB.no
theorem fnV_one {f : Nat} {vs : List Value} : (Ur f vs).oneCell' = true := by unfold Ur; cases Nat.blt f IA <;> rfl
def MO.ob (c : Cx) : MO → OB
 | .dead => Dc.dead
 | .oa h i => match iQ c.env i with
  | some e => bif Nat.blt h c.n then cm.ob ⟨e.t, e.d⟩ (c.η h) else OB.no
  | none => OB.no
 | .oc h l => bif Nat.blt h c.n then Dc.oc (c.η h).b (l.map (At.rp c)) else OB.no
structure Ext (c c' : Cx) : Prop where
 n : c.n ≤ c'.n
 env : ∀ i e, iQ c.env i = some e → iQ c'.env i = some e
 η : ∀ h, h < c.n → c'.η h = c.η h
theorem Ext.refl (c : Cx) : Ext c c := ⟨Nat.le_refl _, fun _ _ h => h, fun _ _ => rfl⟩
theorem Ext.trans {a b c : Cx} (h : Ext a b) (k : Ext b c) : Ext a c :=
 ⟨Nat.le_trans h.n k.n, fun i e he => k.env i e (h.env i e he), fun x hx => (k.η x (Nat.lt_of_lt_of_le hx h.n)).trans (h.η x hx)⟩
theorem bV {h n m : Nat} (hb : Nat.blt h n = true) (hm : n ≤ m) : Nat.blt h m = true := by
 simp only [Nat.blt_eq] at hb ⊢; omega
theorem At.rp_eq {c c' : Cx} (hx : Ext c c') {a : At} {F : FP} {w : World} {v : Value} (h : (a.rp c).h F w v) : a.rp c' = a.rp c := by
 have hno : ∀ {F : FP} {w : World} {v : Value}, RP.no.h F w v → False := fun h => h
 cases a with
 | vr i =>
  simp only [At.rp] at h ⊢
  cases he : iQ c.env i with
  | none => rw [he] at h; exact h.elim
  | some e => rw [hx.env i e he]
 | ea i =>
  simp only [At.rp] at h ⊢
  cases he : iQ c.env i with
  | none => rw [he] at h; exact h.elim
  | some e => rw [hx.env i e he]
 | fu i =>
  simp only [At.rp] at h ⊢
  cases he : iQ c.env i with
  | none => rw [he] at h; exact h.elim
  | some e => rw [hx.env i e he]
 | own o k =>
  simp only [At.rp] at h ⊢
  cases hb : Nat.blt k c.n with
  | false => rw [hb] at h; exact h.elim
  | true => rw [bV hb hx.n, hx.η k (by simpa [Nat.blt_eq] using hb)]
 | ptr o k off =>
  simp only [At.rp] at h ⊢
  cases hb : Nat.blt k c.n with
  | false => rw [hb] at h; exact h.elim
  | true => rw [bV hb hx.n, hx.η k (by simpa [Nat.blt_eq] using hb)]
 | mp o k =>
  simp only [At.rp] at h ⊢
  cases hb : Nat.blt k c.n with
  | false => rw [hb] at h; exact h.elim
  | true => rw [bV hb hx.n, hx.η k (by simpa [Nat.blt_eq] using hb)]
 | fs o k cp =>
  simp only [At.rp] at h ⊢
  cases hb : Nat.blt k c.n with
  | false => rw [hb] at h; exact h.elim
  | true => rw [bV hb hx.n, hx.η k (by simpa [Nat.blt_eq] using hb)]
 | fn f cs =>
  simp only [At.rp] at h ⊢
  cases hb : cs.all (qd.ok c.n) with
  | false => rw [hb] at h; exact h.elim
  | true =>
   have h1 : ∀ x ∈ cs, qd.ok c.n x = true := List.all_eq_true.1 hb
   have h2 : cs.all (qd.ok c'.n) = true := List.all_eq_true.2 fun x hx' => by
    have := h1 x hx'
    cases x with
    | ptr o k => exact bV this hx.n
    | _ => exact this
   have h3 : cs.map (qd.val c'.η) = cs.map (qd.val c.η) := List.map_congr_left fun x hx' => by
    have := h1 x hx'
    cases x with
    | ptr o k => simp only [qd.val]; rw [hx.η k (by simpa [qd.ok, Nat.blt_eq] using this)]
    | _ => rfl
   rw [h2, h3]
 | Mx o k y =>
  simp only [At.rp] at h ⊢
  split at h
  ·rename_i t d ds ix he
   rw [hx.env y _ he]
   simp only
   cases hb : Nat.blt k c.n with
   | false => rw [hb] at h; exact h.elim
   | true => rw [bV hb hx.n, hx.η k (by simpa [Nat.blt_eq] using hb)]
  ·rename_i t d ds ix he
   rw [hx.env y _ he]
   simp only
   cases hb : Nat.blt k c.n with
   | false => rw [hb] at h; exact h.elim
   | true => rw [bV hb hx.n, hx.η k (by simpa [Nat.blt_eq] using hb)]
  ·rename_i t d ds ix off ln he
   rw [hx.env y _ he]
   simp only
   cases hb : Nat.blt k c.n with
   | false => rw [hb] at h; exact h.elim
   | true => rw [bV hb hx.n, hx.η k (by simpa [Nat.blt_eq] using hb)]
  ·exact h.elim
 | pj i j =>
  simp only [At.rp] at h ⊢
  cases he : iQ c.env i with
  | none => rw [he] at h; exact h.elim
  | some e => rw [hx.env i e he]
 | vs o k off i cp =>
  simp only [At.rp] at h ⊢
  split at h
  ·rename_i kd l s he
   rw [hx.env i _ he]
   simp only
   cases hb : Nat.blt k c.n with
   | false => rw [hb] at h; exact h.elim
   | true => rw [bV hb hx.n, hx.η k (by simpa [Nat.blt_eq] using hb)]
  ·exact h.elim
 | sb o k a b sz =>
  simp only [At.rp] at h ⊢
  split at h
  ·rename_i k1 l1 s1 k2 l2 s2 he1 Yr
   rw [hx.env a _ he1, hx.env b _ Yr]
   simp only
   cases hb : Nat.blt k c.n with
   | false => rw [hb] at h; exact h.elim
   | true => rw [bV hb hx.n, hx.η k (by simpa [Nat.blt_eq] using hb)]
  ·exact h.elim
 | Yn o k z =>
  simp only [At.rp] at h ⊢
  split at h
  ·rename_i t d y fo he
   rw [hx.env z _ he]
   simp only
   split at h
   ·rename_i t2 d2 ds ix Yr
    rw [hx.env y _ Yr]
    simp only
    cases hb : Nat.blt k c.n with
    | false => rw [hb] at h; exact h.elim
    | true => rw [bV hb hx.n, hx.η k (by simpa [Nat.blt_eq] using hb)]
   ·exact h.elim
  ·exact h.elim
 | _ => rfl
theorem Ns {c c' : Cx} (hx : Ext c c') {F : FP} {w : World} : ∀ {l : List At} {vs : List Value}, bZ F w (l.map (At.rp c)) vs → l.map (At.rp c') = l.map (At.rp c)
 | [], _, _ => rfl
 | a :: l, v :: vs, ⟨h1, h2⟩ => by rw [List.map_cons, List.map_cons, At.rp_eq hx h1, Ns hx h2]
 | _ :: _, [], h => h.elim
theorem YE {c c' : Cx} (hx : Ext c c') {g : Bool} {l : List At} {F : FP} {w : World} {v : Value} (h : (wS c g l).h F w v) : wS c' g l = wS c g l := by
 unfold wS at h ⊢
 cases g with
 | true => obtain ⟨cs, _, h⟩ := h; simp only [cond_true]; rw [Ns hx h]
 | false =>
  cases l with
  | nil => rfl
  | cons a l => exact At.rp_eq hx h
theorem U3 {c c' : Cx} (hx : Ext c c') {F : FP} {w : World} : ∀ {l : List (Bool × List At)} {vs : List Value}, bZ F w (l.map (fun x => wS c x.1 x.2)) vs → (l.map fun x => wS c' x.1 x.2) = l.map fun x => wS c x.1 x.2
 | [], _, _ => rfl
 | a :: l, v :: vs, ⟨h1, h2⟩ => by rw [List.map_cons, List.map_cons, YE hx h1, U3 hx h2]
 | _ :: _, [], h => h.elim
theorem Sh.rp_eq {c c' : Cx} (hx : Ext c c') {s : Sh} {F : FP} {w : World} {v : Value} (h : (s.rp c).h F w v) : s.rp c' = s.rp c := by
 cases s with
 | undef => rfl
 | vl g l => exact YE hx h
 | I9 l => obtain ⟨cs, _, h⟩ := h; simp only [Sh.rp]; rw [U3 hx h]
theorem MO.OL {c c' : Cx} (hx : Ext c c') {o : MO} {F : FP} {w : World} (h : (o.ob c).h F w) : o.ob c' = o.ob c := by
 cases o with
 | dead => rfl
 | oa k i =>
  simp only [MO.ob] at h ⊢
  cases he : iQ c.env i with
  | none => rw [he] at h; exact h.elim
  | some e =>
   rw [hx.env i e he]; rw [he] at h
   simp only at h ⊢
   cases hb : Nat.blt k c.n with
   | false => rw [hb] at h; exact h.elim
   | true => rw [bV hb hx.n, hx.η k (by simpa [Nat.blt_eq] using hb)]
 | oc k l =>
  simp only [MO.ob] at h ⊢
  cases hb : Nat.blt k c.n with
  | false => rw [hb] at h; exact h.elim
  | true =>
   rw [hb] at h
   rw [bV hb hx.n, hx.η k (by simpa [Nat.blt_eq] using hb)]
   obtain ⟨cells, ty, _, hl⟩ := h
   rw [Ns hx hl]
structure iR where
 n : Nat
 env : List (Nat × bX)
 G : List (Nat × Sh)
 O : List MO
def iR.cx (s : iR) (η : Nat → Hd) : Cx := ⟨s.n, s.env, η⟩
def dN (c : Cx) (G : List (Nat × Sh)) : List (Nat × RP) := G.map fun x => (x.1, x.2.rp c)
def bL (c : Cx) (O : List MO) : List OB := O.map (MO.ob c)
def y7 : List (Nat × Sh) → Nat → Option Sh
 | [], _ => none
 | (t, s) :: r, i => bif Nat.beq t i then some s else y7 r i
theorem iw {c : Cx} {G : List (Nat × Sh)} {t : Nat} : lk (dN c G) t = (y7 G t).map (Sh.rp c) := by
 induction G with
 | nil => rfl
 | cons x r ih =>
  obtain ⟨s, v⟩ := x
  simp only [dN, List.map_cons, lk, y7]
  cases Nat.beq s t with
  | true => rfl
  | false => exact ih
def gR (env : List (Nat × bX)) (e : bX) : Prop := match e.src with
 | none => True
 | some (.el ds ix) => ∃ (l : List e.t.den) (s : Option Src), iQ env ds = some ⟨.sl e.t, l, s⟩ ∧ aL l ix = some e.d
 | some (.fl y fo) => ∃ ey : bX, iQ env y = some ey ∧ ((ey.t.rep.cp ey.d).drop fo).take e.t.rep.size = e.t.rep.cp e.d ∧ fo + e.t.rep.size ≤ ey.t.rep.size
 | some (.ve ds ix) => ∃ (k : IntKind) (l : List Int) (s : Option Src) (y : Int), iQ env ds = some ⟨.vec k, l, s⟩ ∧ aL l ix = some y ∧ e = ⟨.int k, y, some (.ve ds ix)⟩
 | some (.vf ds ix off len) => ∃ (k : IntKind) (l : List Int) (s : Option Src) (y : Int), iQ env ds = some ⟨.vec k, l, s⟩ ∧ aL l ix = some y ∧ ix < (len : Int) ∧ e = ⟨.int k, y, some (.vf ds ix off len)⟩
structure WF (n : Nat) (env : List (Nat × bX)) : Prop where
 lt : ∀ i e, iQ env i = some e → i < n
 src : ∀ i e, iQ env i = some e → gR env e
variable [aq] {R : Type} {P : Program} {E : Env} {N : Nat} {K : KT R} {m : Option R}
theorem Sat.mext {c c' : Cx} {G : List (Nat × Sh)} {O : List MO} {a : Act} {w : World} (hs : Sat E N (dN c G) (bL c O) a w) (hx : Ext c c') : Sat E N (dN c' G) (bL c' O) a w := by
 have hO : bL c' O = bL c O := List.map_congr_left fun o ho => MO.OL hx (hs.ob _ (List.mem_map_of_mem ho))
 rw [hO]
 refine hs.weak fun t φ h => ?_
 rw [iw] at h ⊢
 cases hg : y7 G t with
 | none => rw [hg] at h; cases h
 | some s =>
  rw [hg] at h; cases h
  have h1 := hs.sl t (s.rp c) (by rw [iw, hg]; rfl)
  rw [Sh.rp_eq hx h1]; rfl
end Go.Dc
namespace Go.Dc
variable [qc] [aq] {R : Type} {P : Program} {E : Env} {N : Nat} {K : KT R} {m : Option R} {op : Op} {ty : TypeId} {n : Nat} {env : List (Nat × bX)} {G : List (Nat × Sh)} {O : List MO}
inductive Ask (α : Type) : Type 1 where
 | ret (a : α)
 | bind {β : Type} (m : Option β) (k : β → Ask α)
 | cond (b : Bool) (x y : Ask α)
 | fail
def Ask.run {α : Type} : Ask α → (α → Option R) → Option R
 | .ret a, c => c a
 | .bind m k, c => Option.bind m fun b => (k b).run c
 | .cond b x y, c => bif b then x.run c else y.run c
 | .fail, _ => none
def aC {α : Type} (Q : α → Prop) : Ask α → Prop
 | .ret a => Q a
 | .bind m k => ∀ b, m = some b → aC Q (k b)
 | .cond b x y => (b = true → aC Q x) ∧ (b = false → aC Q y)
 | .fail => True
theorem w5 {α : Type} {Q : α → Prop} {Φ : R → Prop} {c : α → Option R} : ∀ {r : Ask α}, aC Q r → (∀ a, Q a → X8 (c a) Φ) → X8 (r.run c) Φ
 | .ret a, h, hc => hc a h
 | .bind m k, h, hc => pull fun b hb => w5 (h b hb) hc
 | .cond true x y, h, hc => w5 (r := x) (h.1 rfl) hc
 | .cond false x y, h, hc => w5 (r := y) (h.2 rfl) hc
 | .fail, _, _ => fun r hr => by cases hr
def Ask.of {α β : Type} (x : Option β) (k : β → Ask α) : Ask α := match x with
 | some b => k b
 | none => .fail
theorem aC.of {α β : Type} {Q : α → Prop} {x : Option β} {k : β → Ask α} (h : ∀ b, x = some b → aC Q (k b)) : aC Q (Ask.of x k) := by
 cases x with
 | none => trivial
 | some b => exact h b rfl
def Ask.when {α : Type} (b : Bool) (k : Ask α) : Ask α := bif b then k else .fail
theorem aC.when {α : Type} {Q : α → Prop} {b : Bool} {k : Ask α} (h : b = true → aC Q k) : aC Q (Ask.when b k) := by
 cases b with
 | false => trivial
 | true => exact h rfl
structure dV where
 val : Sh
 add : List bX
 nh : Nat
 upd : List (Nat × MO)
 new : List MO
def keyed : Nat → List bX → List (Nat × bX) → List (Nat × bX)
 | _, [], env => env
 | n, e :: es, env => keyed (n + 1) es ((n, e) :: env)
def wU : List (Nat × MO) → List MO → List MO
 | [], O => O
 | (j, o) :: r, O => wU r (O.set j o)
def dV.n' (r : dV) (n : Nat) : Nat := n + r.add.length + r.nh
def dV.env' (r : dV) (n : Nat) (env : List (Nat × bX)) : List (Nat × bX) := keyed n r.add env
def dV.O' (r : dV) (O : List MO) : List MO := wU r.upd O ++ r.new
def dV.bC (r : dV) (n : Nat) (env : List (Nat × bX)) (η : Nat → Hd) : Cx := ⟨r.n' n, r.env' n env, η⟩
theorem bM {n i : Nat} {e : bX} {env : List (Nat × bX)} : iQ ((n, e) :: env) i = if i = n then some e else iQ env i := by
 simp only [iQ]
 by_cases h : i = n
 ·subst h; simp
 ·rw [wz (Ne.symm h), if_neg h]; rfl
theorem gR.mono {env env' : List (Nat × bX)} (h : ∀ i e, iQ env i = some e → iQ env' i = some e) {x : bX} (hx : gR env x) : gR env' x := by
 unfold gR at hx ⊢
 split
 ·trivial
 ·rename_i ds ix he
  rw [he] at hx
  obtain ⟨l, s, h1, h2⟩ := hx
  exact ⟨l, s, h _ _ h1, h2⟩
 ·rename_i y fo he
  rw [he] at hx
  obtain ⟨ey, h1, h2⟩ := hx
  exact ⟨ey, h _ _ h1, h2⟩
 ·rename_i ds ix he
  rw [he] at hx
  obtain ⟨k, l, s, y, h1, h2, h3⟩ := hx
  exact ⟨k, l, s, y, h _ _ h1, h2, h3⟩
 ·rename_i ds ix off ln he
  rw [he] at hx
  obtain ⟨k, l, s, y, h1, h2, h3, h4⟩ := hx
  exact ⟨k, l, s, y, h _ _ h1, h2, h3, h4⟩
theorem gR.none {env : List (Nat × bX)} {e : bX} (h : e.src = Option.none) : gR env e := by unfold gR; rw [h]; trivial
theorem WF.cons (h : WF n env) {e : bX} (he : gR env e) : WF (n + 1) ((n, e) :: env) := by
 have hold : ∀ i x, iQ env i = some x → iQ ((n, e) :: env) i = some x := fun i x hx => by
  have := h.lt i x hx
  rw [bM, if_neg (by omega)]; exact hx
 have hup : ∀ {x : bX}, gR env x → gR ((n, e) :: env) x := fun {x} hx => hx.mono hold
 refine ⟨fun i x hi => ?_, fun i x hi => ?_⟩
 ·rw [bM] at hi
  by_cases e1 : i = n
  ·omega
  ·rw [if_neg e1] at hi; have := h.lt i x hi; omega
 ·rw [bM] at hi
  by_cases e1 : i = n
  ·rw [if_pos e1] at hi; cases hi; exact hup he
  ·rw [if_neg e1] at hi; exact hup (h.src i x hi)
theorem WF.le (h : WF n env) {n' : Nat} (hn : n ≤ n') : WF n' env := ⟨fun i e he => Nat.lt_of_lt_of_le (h.lt i e he) hn, h.src⟩
theorem AS : ∀ {es : List bX} {n : Nat} {env : List (Nat × bX)}, WF n env → (∀ e ∈ es, gR env e) → WF (n + es.length) (keyed n es env) ∧ ∀ i x, iQ env i = some x → iQ (keyed n es env) i = some x
 | [], n, env, h, _ => ⟨h, fun _ _ h => h⟩
 | e :: es, n, env, h, he => by
  have hold : ∀ i x, iQ env i = some x → iQ ((n, e) :: env) i = some x := fun i x hx => by
   have := h.lt i x hx
   rw [bM, if_neg (by omega)]; exact hx
  obtain ⟨h1, h2⟩ := AS (es := es) (h.cons (he e (by simp))) (fun x hx => (he x (by simp [hx])).mono hold)
  refine ⟨?_, fun i x hx => h2 i x (hold i x hx)⟩
  rw [show n + (e :: es).length = n + 1 + es.length from by simp; omega]
  exact h1
def VA (es : List bX) : Prop := ∀ e ∈ es, e.src = none
theorem VA.ok {es : List bX} (h : VA es) : ∀ e ∈ es, gR env e := fun e he => .none (h e he)
abbrev S_ (n : Nat) (η : Nat → Hd) := { lY : Nat → Hd // ∀ h, h < n → lY h = η h }
def E0 : Op → Bool
 | .move _ => true
 | .pick _ _ _ => true
 | .build _ _ => true
 | .load _ _ => true
 | .nilCheck _ => true
 | .binOp _ _ _ _ _ => true
 | .unOp _ _ _ => true
 | .convert _ _ _ => true
 | .makeFunc _ _ _ => true
 | .slice _ _ _ _ _ => true
 | .fieldAddr _ _ _ => true
 | .field _ _ _ => true
 | .indexAddr _ _ _ => true
 | .index _ _ _ => true
 | .extract _ _ => true
 | .lookup _ _ _ _ => true
 | .call ⟨.builtin .len, _, _⟩ => true
 | .call ⟨.builtin .min, _, _⟩ => true
 | .call ⟨.builtin .max, _, _⟩ => true
 | _ => false
def Wr : Option Sh → List Nat
 | some (.vl false [.ptr o _ _]) => [o]
 | some (.vl false [.Mx o _ _]) => [o]
 | some (.vl false [.Yn o _ _]) => [o]
 | some (.vl false [.mp o _]) => [o]
 | _ => []
def F4 (G : List (Nat × Sh)) : Op → List Nat
 | .load _ (.tmp t) => Wr (y7 G t)
 | .lookup _ (.tmp t) _ _ => Wr (y7 G t)
 | _ => []
theorem Rd.mono {Γ : List (Nat × RP)} {Ω : List OB} {J J' : List Nat} {φ : RP} (h : Rd P E N op ty Γ Ω J φ) (hJ : ∀ j ∈ J, j ∈ J') : Rd P E N op ty Γ Ω J' φ := fun a w hs => by
 obtain ⟨v, B, h1, h2, h3⟩ := h a w hs
 exact ⟨v, B, h1, fun b hb => ⟨(h2 b hb).1, (h2 b hb).2.imp id fun ⟨j, hj, h⟩ => ⟨j, hJ j hj, h⟩⟩, h3⟩
structure aM (P : Program) (E : Env) (N : Nat) (op : Op) (ty : TypeId) (n : Nat) (env : List (Nat × bX)) (G : List (Nat × Sh)) (O : List MO) (r : dV) : Prop where
 src : ∀ e ∈ r.add, gR env e
 rd : E0 op = true → r.upd = [] → r.new = [] → r.nh = 0 → ∀ η, Rd P E N op ty (dN ⟨n, env, η⟩ G) (bL ⟨n, env, η⟩ O) (F4 G op) (r.val.rp (r.bC n env η))
 st : ∀ η, St P E N op ty (dN ⟨n, env, η⟩ G) (bL ⟨n, env, η⟩ O) (r.upd.map (·.1)) (fun x : S_ n η => r.val.rp (r.bC n env x.1)) (fun x => bL (r.bC n env x.1) (r.O' O))
theorem aM.ext {r : dV} (hw : WF n env) (h : ∀ e ∈ r.add, gR env e) {η : Nat → Hd} (x : S_ n η) : Ext ⟨n, env, η⟩ (r.bC n env x.1) :=
 ⟨by simp only [dV.bC, dV.n']; omega, fun i e he => (AS hw h).2 i e he, x.2⟩
theorem dV.wf {r : dV} (hw : WF n env) (h : ∀ e ∈ r.add, gR env e) : WF (r.n' n) (r.env' n env) :=
 (AS hw h).1.le (by simp only [dV.n']; omega)
theorem H6 {c c' : Cx} (hx : Ext c c') {O : List MO} {Γ : List (Nat × RP)} {a : Act} {w : World} (hs : Sat E N Γ (bL c O) a w) : bL c' O = bL c O :=
 List.map_congr_left fun o ho => MO.OL hx (hs.ob _ (List.mem_map_of_mem ho))
theorem BV {c c' : Cx} (hx : Ext c c') {O : List MO} {Γ : List (Nat × RP)} {a : Act} {w : World} {j : Nat} {mo : MO} {o : OB} (hmo : mo.ob c' = o) (hs : Sat E N Γ ((bL c O).set j o) a w) :
  bL c' (O.set j mo) = (bL c O).set j o := by
 refine List.ext_getElem? fun i => ?_
 unfold bL
 by_cases e : j = i
 ·subst e
  by_cases hlt : j < O.length
  ·rw [List.getElem?_map, List.getElem?_set_self hlt, List.getElem?_set_self (by simpa using hlt), Option.map_some, hmo]
  ·rw [List.getElem?_eq_none (by simp; omega), List.getElem?_eq_none (by simp; omega)]
 ·rw [List.getElem?_map, List.getElem?_set_ne e, List.getElem?_set_ne e, List.getElem?_map]
  cases ho : O[i]? with
  | none => rfl
  | some q =>
   simp only [Option.map_some]
   have hq : (((bL c O).set j o))[i]? = some (q.ob c) := by rw [List.getElem?_set_ne e]; simp [bL, ho]
   rw [MO.OL hx (hs.ob _ (List.mem_of_getElem? hq))]
theorem H7 {c c' : Cx} (hx : Ext c c') {O : List MO} {Γ : List (Nat × RP)} {a : Act} {w : World} {mo : MO} {o : OB} (hmo : mo.ob c' = o) (hs : Sat E N Γ (bL c O ++ [o]) a w) :
  bL c' (O ++ [mo]) = bL c O ++ [o] := by
 have h1 : bL c' O = bL c O := List.map_congr_left fun q hq => MO.OL hx (hs.ob _ (List.mem_append_left _ (List.mem_map_of_mem hq)))
 unfold bL at h1 ⊢
 rw [List.map_append, h1]; simp [hmo]
theorem St.to' {X Y : Type} {Γ : List (Nat × RP)} {Ω : List OB} {js : List Nat} {φ : X → RP} {fE : X → List OB} {ψ : Y → RP} {Tg : Y → List OB} (h : St P E N op ty Γ Ω js φ fE)
  (hy : ∀ x a w, Sat E N Γ (fE x) a w → ∃ y, Tg y = fE x ∧ ψ y = φ x) : St P E N op ty Γ Ω js ψ Tg := by
 intro a w hs o ho ht
 refine (h a w hs o ho ht).mono ?_
 rintro v w' ⟨x, h1, h2, h3⟩
 obtain ⟨y, e1, e2⟩ := hy x a w' h1
 exact ⟨y, by rw [e1]; exact h1, by rw [e1, e2]; exact h2, by rw [e1]; exact h3⟩
theorem aM.rdJ (hw : WF n env) {val : Sh} {add : List bX} (hs : ∀ e ∈ add, gR env e) {J : List Nat} (hJ : ∀ j ∈ J, j ∈ F4 G op) (h : ∀ η, Rd P E N op ty (dN ⟨n, env, η⟩ G) (bL ⟨n, env, η⟩ O) J (val.rp ⟨n + add.length, keyed n add env, η⟩)) :
  aM P E N op ty n env G O ⟨val, add, 0, [], []⟩ := by
 refine ⟨hs, fun _ _ _ _ η => (h η).mono hJ, fun η => (St.ofRd (h η)).to' fun _ a w oK => ⟨⟨η, fun _ _ => rfl⟩, ?_, rfl⟩⟩
 simp only [dV.O', wU, List.append_nil]
 exact H6 (aM.ext hw (r := ⟨val, add, 0, [], []⟩) hs ⟨η, fun _ _ => rfl⟩) oK
theorem aM.rd' (hw : WF n env) {val : Sh} {add : List bX} (hs : ∀ e ∈ add, gR env e) (h : ∀ η, Rd P E N op ty (dN ⟨n, env, η⟩ G) (bL ⟨n, env, η⟩ O) [] (val.rp ⟨n + add.length, keyed n add env, η⟩)) :
  aM P E N op ty n env G O ⟨val, add, 0, [], []⟩ := aM.rdJ hw hs (fun j hj => by simp at hj) h
theorem Sat.JH {c c' : Cx} {G : List (Nat × Sh)} {Ω : List OB} {a : Act} {w : World} (hx : Ext c c') {d : Nat} {φ : RP} (hs : Sat E N ((d, φ) :: dN c G) Ω a w) {s : Sh} (he : s.rp c' = φ) : Sat E N (dN c' ((d, s) :: G)) Ω a w := by
 refine hs.weak fun t ψ h => ?_
 have h' : lk ((d, s.rp c') :: dN c' G) t = some ψ := h
 by_cases e : d = t
 ·subst e; rw [jN] at h' ⊢; rw [← he]; exact h'
 ·rw [oH e] at h' ⊢
  rw [iw] at h' ⊢
  cases hg : y7 G t with
  | none => rw [hg] at h'; cases h'
  | some q =>
   rw [hg] at h'
   have h1 := hs.sl t (q.rp c) (by rw [oH e, iw, hg]; rfl)
   simp only [Option.map_some] at h' ⊢
   rw [← Sh.rp_eq hx h1]; exact h'
theorem Sat.Ic {c c' : Cx} {G : List (Nat × Sh)} {Ω : List OB} {a : Act} {w : World} (hx : Ext c c') (hs : Sat E N (dN c G) Ω a w) : Sat E N (dN c' G) Ω a w := by
 refine hs.weak fun t ψ h' => ?_
 rw [iw] at h' ⊢
 cases hg : y7 G t with
 | none => rw [hg] at h'; cases h'
 | some q =>
  rw [hg] at h'
  have h1 := hs.sl t (q.rp c) (by rw [iw, hg]; rfl)
  simp only [Option.map_some] at h' ⊢
  rw [← Sh.rp_eq hx h1]; exact h'
variable {ops : Array Oper} {rest : List Oper}
theorem aM.step (hw : WF n env) {r : dV} (h : aM P E N op ty n env G O r) {η : Nat → Hd} {d : Nat} {pos : String} {fM : Array Edge} (hd : Nat.blt d N = true)
  (hk : ∀ x : S_ n η, uQ P E N m ops rest (dN (r.bC n env x.1) ((d, r.val) :: G)) (bL (r.bC n env x.1) (r.O' O)) K) :
  uQ P E N m ops (⟨some d, op, ty, pos, fM, none⟩ :: rest) (dN ⟨n, env, η⟩ G) (bL ⟨n, env, η⟩ O) K := by
 have hst := h.st η
 exact mz hst hd fun x => pE (fun a w hs => Sat.JH (aM.ext hw h.src x) hs rfl) (hk x)
theorem aM.step0 (hw : WF n env) {r : dV} (h : aM P E N op ty n env G O r) {η : Nat → Hd} {pos : String} {fM : Array Edge}
  (hk : ∀ x : S_ n η, uQ P E N m ops rest (dN (r.bC n env x.1) G) (bL (r.bC n env x.1) (r.O' O)) K) :
  uQ P E N m ops (⟨none, op, ty, pos, fM, none⟩ :: rest) (dN ⟨n, env, η⟩ G) (bL ⟨n, env, η⟩ O) K := by
 have hst := h.st η
 exact tN hst fun x => pE (fun a w hs => Sat.Ic (aM.ext hw h.src x) hs) (hk x)
end Go.Dc
namespace Go.Dc
variable [qc] [aq] {R : Type} {P : Program} {E : Env} {N : Nat} {K : KT R} {m : Option R} {op : Op} {ty : TypeId} {n : Nat} {env : List (Nat × bX)} {G : List (Nat × Sh)} {O : List MO}
def cst : Value → Option Sh
 | .int k n => some (.vl false [.ci k n])
 | .bool b => some (.vl false [.cb b])
 | .string s => some (.vl false [.ck s])
 | .slice none 0 0 => some (.vl false [.nl])
 | .pointer none => some (.vl false [.nF])
 | .nilFunc => some (.vl false [.H8])
 | .func (.func f) ⟨[]⟩ ⟨[]⟩ => bif Nat.blt f IA then some (.vl false [.fn f []]) else none
 | _ => none
def OI (G : List (Nat × Sh)) : Operand → Option Sh
 | .tmp t => y7 G t
 | .const v => cst v
 | .func f => bif Nat.blt f IA then some (.vl false [.fn f []]) else none
 | .global _ => none
theorem sL {c : Cx} {x : Operand} {s : Sh} (h : OI G x = some s) : dw (dN c G) x = some (s.rp c) := by
 cases x with
 | tmp t => simp only [OI] at h; simp only [dw, iw, h]; rfl
 | func f =>
  simp only [OI] at h
  cases hb : Nat.blt f IA with
  | false => rw [hb] at h; cases h
  | true =>
   rw [hb] at h; cases h
   show some (pv _) = some (pv (Ur f []))
   rw [JY hb]
 | global g => cases h
 | const v =>
  simp only [OI] at h
  simp only [dw]
  unfold cst at h
  split at h <;> first | (cases h; rfl) | cases h | skip
  rename_i f
  cases hb : Nat.blt f IA with
  | false => rw [hb] at h; cases h
  | true =>
   rw [hb] at h; cases h
   show some (RPof _) = some (pv (Ur f []))
   rw [JY hb]; rfl
def Vl (env : List (Nat × bX)) : At → Option cm
 | .vr i => (iQ env i).bind fun e => bif e.t.one then some ⟨e.t, e.d⟩ else none
 | .ci k n => some ⟨.int k, n⟩
 | .cb b => some ⟨.bool, b⟩
 | .ck s => some ⟨.str, s⟩
 | _ => none
def cm.rp (D : cm) : RP := sh D.t.rep D.d
theorem zQ {c : Cx} {a : At} {D : cm} (h : Vl c.env a = some D) : a.rp c = D.rp ∧ D.t.one = true := by
 cases a <;> simp only [Vl] at h
 case vr i =>
  simp only [At.rp]
  cases he : iQ c.env i with
  | none => rw [he] at h; cases h
  | some e =>
   rw [he] at h
   simp only [Option.bind_some] at h ⊢
   cases ho : e.t.one with
   | false => rw [ho] at h; cases h
   | true => rw [ho] at h; cases h; exact ⟨rfl, ho⟩
 all_goals first | (cases h; exact ⟨rfl, rfl⟩) | cases h
def CA (G : List (Nat × Sh)) (x : Operand) : Option At := match OI G x with
 | some (.vl false [a]) => some a
 | _ => none
theorem fB {c : Cx} {x : Operand} {a : At} (h : CA G x = some a) : dw (dN c G) x = some (a.rp c) := by
 unfold CA at h
 split at h
 ·rename_i h1; cases h; rw [sL h1]; rfl
 ·cases h
def opD (env : List (Nat × bX)) (G : List (Nat × Sh)) (x : Operand) : Option cm := (CA G x).bind (Vl env)
theorem Mu {η : Nat → Hd} {x : Operand} {D : cm} (h : opD env G x = some D) : dw (dN ⟨n, env, η⟩ G) x = some D.rp := by
 unfold opD at h
 cases ha : CA G x with
 | none => rw [ha] at h; cases h
 | some a => rw [ha] at h; rw [fB ha, (zQ (c := ⟨n, env, η⟩) h).1]
def cm.int : cm → Option (IntKind × Int)
 | ⟨.int k, n⟩ => some (k, n)
 | _ => none
def cm.bool : cm → Option Bool
 | ⟨.bool, b⟩ => some b
 | _ => none
def cm.str : cm → Option ByteArray
 | ⟨.str, s⟩ => some s
 | _ => none
def cm.sl : cm → Option ((t : Ty) × List t.den)
 | ⟨.sl t, d⟩ => some ⟨t, d⟩
 | _ => none
theorem cm.int_rp {D : cm} {k : IntKind} {m : Int} (h : D.int = some (k, m)) : D.rp = iv k m := by
 unfold cm.int at h; split at h
 ·cases h; rfl
 ·cases h
theorem cm.I3 {D : cm} {b : Bool} (h : D.bool = some b) : D.rp = bv b := by
 unfold cm.bool at h; split at h
 ·cases h; rfl
 ·cases h
theorem cm.str_rp {D : cm} {b : ByteArray} (h : D.str = some b) : D.rp = sv b := by
 unfold cm.str at h; split at h
 ·cases h; rfl
 ·cases h
theorem cm.sl_rp {D : cm} {t : Ty} {d : List t.den} (h : D.sl = some ⟨t, d⟩) : D.rp = eN t.rep d := by
 unfold cm.sl at h; split at h
 ·cases h; rfl
 ·cases h
def P3 (env : List (Nat × bX)) (G : List (Nat × Sh)) (x : Operand) : Option (IntKind × Int) := (opD env G x).bind cm.int
def opB (env : List (Nat × bX)) (G : List (Nat × Sh)) (x : Operand) : Option Bool := (opD env G x).bind cm.bool
def opS (env : List (Nat × bX)) (G : List (Nat × Sh)) (x : Operand) : Option ByteArray := (opD env G x).bind cm.str
def opL (env : List (Nat × bX)) (G : List (Nat × Sh)) (x : Operand) : Option ((t : Ty) × List t.den) := (opD env G x).bind cm.sl
section
variable {η : Nat → Hd} {x : Operand}
theorem mB {k : IntKind} {i : Int} (h : P3 env G x = some (k, i)) : dw (dN ⟨n, env, η⟩ G) x = some (iv k i) := by
 obtain ⟨D, h1, h2⟩ := Option.bind_eq_some_iff.1 h
 rw [Mu h1, cm.int_rp h2]
theorem TO {b : Bool} (h : opB env G x = some b) : dw (dN ⟨n, env, η⟩ G) x = some (bv b) := by
 obtain ⟨D, h1, h2⟩ := Option.bind_eq_some_iff.1 h
 rw [Mu h1, cm.I3 h2]
theorem Gz {b : ByteArray} (h : opS env G x = some b) : dw (dN ⟨n, env, η⟩ G) x = some (sv b) := by
 obtain ⟨D, h1, h2⟩ := Option.bind_eq_some_iff.1 h
 rw [Mu h1, cm.str_rp h2]
theorem DU {t : Ty} {d : List t.den} (h : opL env G x = some ⟨t, d⟩) : dw (dN ⟨n, env, η⟩ G) x = some (eN t.rep d) := by
 obtain ⟨D, h1, h2⟩ := Option.bind_eq_some_iff.1 h
 rw [Mu h1, cm.sl_rp h2]
end
def iB (n : Nat) (t : Ty) (d : t.den) : dV := ⟨.vl false [.vr n], [⟨t, d, none⟩], 0, [], []⟩
theorem YF {η : Nat → Hd} {n' : Nat} {t : Ty} (ht : t.one = true) {d : t.den} {s : Option Src} : (Sh.vl false [.vr n]).rp ⟨n', (n, ⟨t, d, s⟩) :: env, η⟩ = sh t.rep d := by
 simp only [Sh.rp, wS, cond_false, List.map_cons, List.headD_cons, At.rp, bM, if_true, ht, cond_true]
theorem aM.dat (hw : WF n env) {t : Ty} (ht : t.one = true) {d : t.den} (h : ∀ η, Rd P E N op ty (dN ⟨n, env, η⟩ G) (bL ⟨n, env, η⟩ O) [] (sh t.rep d)) :
  aM P E N op ty n env G O (iB n t d) :=
 aM.rd' hw (fun e he => by rw [List.mem_singleton.1 he]; exact .none rfl) fun η => by
  rw [show keyed n [⟨t, d, none⟩] env = (n, ⟨t, d, none⟩) :: env from rfl, YF ht]; exact h η
theorem aM.same (hw : WF n env) {v : Sh} (h : ∀ η, Rd P E N op ty (dN ⟨n, env, η⟩ G) (bL ⟨n, env, η⟩ O) [] (v.rp ⟨n, env, η⟩)) : aM P E N op ty n env G O ⟨v, [], 0, [], []⟩ :=
 aM.rd' hw (fun e he => by simp at he) fun η => h η
theorem xT {c : Cx} {o h : Nat} (hb : Nat.blt h c.n = true) : (At.own o h).rp c = pv (c.η h).hv := by simp only [At.rp, hb, cond_true]
theorem lQ {c : Cx} {o h off : Nat} (hb : Nat.blt h c.n = true) : (At.ptr o h off).rp c = pv (ptr (c.η h).b off) := by simp only [At.rp, hb, cond_true]
theorem oc_ob {c : Cx} {h : Nat} {l : List At} (hb : Nat.blt h c.n = true) : (MO.oc h l).ob c = oc (c.η h).b (l.map (At.rp c)) := by simp only [MO.ob, hb, cond_true]
theorem Wl {e : bX} {t : Ty} {d : List t.den} (h : e.QG = some ⟨t, d⟩) : ∃ s, e = ⟨.sl t, d, s⟩ := by
 unfold bX.QG at h
 split at h
 ·cases h; exact ⟨_, rfl⟩
 ·cases h
def isLit : At → Bool
 | .ci _ n => decide (0 ≤ n)
 | _ => false
def Vy (G : List (Nat × Sh)) (x : Operand) : Bool := match CA G x with
 | some a => isLit a
 | none => false
def binI (n : Nat) (b : BinOp) (k : IntKind) (u v : Int) (lit : Bool) : Ask dV :=
 match b with
 | .add => .ret (iB n (.int k) (aN k u v))
 | .sub => .ret (iB n (.int k) (qq k u v))
 | .mul => .ret (iB n (.int k) (XE k u v))
 | .and => .ret (iB n (.int k) (cE k u v))
 | .or => .ret (iB n (.int k) (Yo k u v))
 | .xor => .ret (iB n (.int k) (aar k u v))
 | .andNot => .ret (iB n (.int k) (s_ k u v))
 | .quo => bif lit then (if v ≠ 0 then .ret (iB n (.int k) (iquo k u v)) else .fail) else .bind (aax k u v) fun x => .ret (iB n (.int k) x)
 | .rem => bif lit then (if v ≠ 0 then .ret (iB n (.int k) (irem k u v)) else .fail) else .bind (OV k u v) fun x => .ret (iB n (.int k) x)
 | .shl => bif lit then (if 0 ≤ v then .ret (iB n (.int k) (XA k u v)) else .fail) else .bind (Ed k u v) fun x => .ret (iB n (.int k) x)
 | .shr => bif lit then (if 0 ≤ v then .ret (iB n (.int k) (Xz k u v)) else .fail) else .bind (KH k u v) fun x => .ret (iB n (.int k) x)
 | .eql => .ret (iB n .bool (u == v))
 | .neq => .ret (iB n .bool (u != v))
 | .lss => .ret (iB n .bool (decide (u < v)))
 | .leq => .ret (iB n .bool (decide (u ≤ v)))
 | .gtr => .ret (iB n .bool (decide (u > v)))
 | .geq => .ret (iB n .bool (decide (u ≥ v)))
theorem binI_ok (hw : WF n env) {b : BinOp} {t yt : TypeId} {x y : Operand} {k k' : IntKind} {u v : Int} {lit : Bool} (hx : P3 env G x = some (k, u)) (hy : P3 env G y = some (k', v)) (hk : k' = k ∨ b = .shl ∨ b = .shr) :
  aC (aM P E N (.binOp b t x y yt) ty n env G O) (binI n b k u v lit) := by
 have hx' := fun η => mB (n := n) (η := η) hx
 have hy' := fun η => mB (n := n) (η := η) hy
 have z := fun (h : (0 : Int) ≤ v) => h
 cases b with
 | shl =>
  cases lit with
  | true =>
   show aC _ (if 0 ≤ v then _ else _)
   split
   ·rename_i h; exact aM.dat hw rfl fun η => (r_shl (hx' η) (hy' η) h)
   ·trivial
  | false => exact fun w hw' => aM.dat hw rfl fun η => (r_shlM hw' (hx' η) (hy' η))
 | shr =>
  cases lit with
  | true =>
   show aC _ (if 0 ≤ v then _ else _)
   split
   ·rename_i h; exact aM.dat hw rfl fun η => (r_shr (hx' η) (hy' η) h)
   ·trivial
  | false => exact fun w hw' => aM.dat hw rfl fun η => (r_shrM hw' (hx' η) (hy' η))
 | quo =>
  obtain rfl : k' = k := by rcases hk with h | h | h <;> first | exact h | cases h
  cases lit with
  | true =>
   show aC _ (if v ≠ 0 then _ else _)
   split
   ·rename_i h; exact aM.dat hw rfl fun η => (r_quo (hx' η) (hy' η) h)
   ·trivial
  | false => exact fun w hw' => aM.dat hw rfl fun η => (r_quoM hw' (hx' η) (hy' η))
 | rem =>
  obtain rfl : k' = k := by rcases hk with h | h | h <;> first | exact h | cases h
  cases lit with
  | true =>
   show aC _ (if v ≠ 0 then _ else _)
   split
   ·rename_i h; exact aM.dat hw rfl fun η => (r_rem (hx' η) (hy' η) h)
   ·trivial
  | false => exact fun w hw' => aM.dat hw rfl fun η => (r_remM hw' (hx' η) (hy' η))
 | add => obtain rfl : k' = k := by { rcases hk with h | h | h <;> first | exact h | cases h }; exact aM.dat hw rfl fun η => (F5 (hx' η) (hy' η))
 | sub => obtain rfl : k' = k := by { rcases hk with h | h | h <;> first | exact h | cases h }; exact aM.dat hw rfl fun η => (r_sub (hx' η) (hy' η))
 | mul => obtain rfl : k' = k := by { rcases hk with h | h | h <;> first | exact h | cases h }; exact aM.dat hw rfl fun η => (r_mul (hx' η) (hy' η))
 | and => obtain rfl : k' = k := by { rcases hk with h | h | h <;> first | exact h | cases h }; exact aM.dat hw rfl fun η => (r_and (hx' η) (hy' η))
 | or => obtain rfl : k' = k := by { rcases hk with h | h | h <;> first | exact h | cases h }; exact aM.dat hw rfl fun η => (r_or (hx' η) (hy' η))
 | xor => obtain rfl : k' = k := by { rcases hk with h | h | h <;> first | exact h | cases h }; exact aM.dat hw rfl fun η => (r_xor (hx' η) (hy' η))
 | andNot => obtain rfl : k' = k := by { rcases hk with h | h | h <;> first | exact h | cases h }; exact aM.dat hw rfl fun η => (r_andn (hx' η) (hy' η))
 | eql => obtain rfl : k' = k := by { rcases hk with h | h | h <;> first | exact h | cases h }; exact aM.dat hw rfl fun η => (r_eql (hx' η) (hy' η))
 | neq => obtain rfl : k' = k := by { rcases hk with h | h | h <;> first | exact h | cases h }; exact aM.dat hw rfl fun η => (Zo (hx' η) (hy' η))
 | lss => obtain rfl : k' = k := by { rcases hk with h | h | h <;> first | exact h | cases h }; exact aM.dat hw rfl fun η => (Cw (hx' η) (hy' η))
 | leq => obtain rfl : k' = k := by { rcases hk with h | h | h <;> first | exact h | cases h }; exact aM.dat hw rfl fun η => (r_leq (hx' η) (hy' η))
 | gtr => obtain rfl : k' = k := by { rcases hk with h | h | h <;> first | exact h | cases h }; exact aM.dat hw rfl fun η => (r_gtr (hx' η) (hy' η))
 | geq => obtain rfl : k' = k := by { rcases hk with h | h | h <;> first | exact h | cases h }; exact aM.dat hw rfl fun η => (Ow (hx' η) (hy' η))
end Go.Dc
namespace Go.Dc
variable [aq]
variable {P : Program} {E : Env} {N : Nat} {Γ : List (Nat × RP)} {Ω : List OB} {ty : TypeId}
end Go.Dc
namespace Go.Dc
variable [aq]
variable {P : Program} {E : Env} {N : Nat} {Γ : List (Nat × RP)} {Ω : List OB} {ty : TypeId} {α β : Type} [DecidableEq α]
theorem r_sgtr {t yt : TypeId} {x y : Operand} {s u : ByteArray} (hx : dw Γ x = some (sv s)) (hy : dw Γ y = some (sv u)) : Rd P E N (.binOp .gtr t x y yt) ty Γ Ω [] (bv (!(Op.bytesLess s.toList u.toList || s.toList == u.toList))) :=
 LZ hx hy (fun _ _ => rfl) fun w => by simp [binOp, Op.stringOp]
def YT (s : ByteArray) (lo hi : Int) : Option ByteArray := if 0 ≤ lo ∧ lo ≤ hi ∧ hi ≤ (s.size : Int) then some (s.extract lo.toNat hi.toNat) else none
theorem r_ssub {t : TypeId} {x : Operand} {lo hi : Option Operand} {s r : ByteArray} {l m : Int} (hd : YT s l m = some r) (hu : P.underlying t = some .string)
  (hx : dw Γ x = some (sv s)) (hlo : Kr Γ 0 lo l) (hhi : Kr Γ s.size hi m) : Rd P E N (.slice t x lo hi none) ty Γ Ω [] (sv r) := .mk fun a w hs => by
 unfold YT at hd
 by_cases h0 : 0 ≤ l ∧ l ≤ m ∧ m ≤ (s.size : Int)
 ·rw [if_pos h0] at hd
  cases hd
  obtain ⟨h0, h1, h2⟩ := h0
  obtain ⟨l, rfl⟩ := Int.eq_ofNat_of_zero_le h0
  obtain ⟨m, rfl⟩ := Int.eq_ofNat_of_zero_le (Int.le_trans h0 h1)
  have hv : a.eval x = .string s := hs.op hx
  have hl := hlo.val hs
  have hm := hhi.val hs
  have e1 : l ≤ m := by omega
  have e2 : m ≤ s.size := by omega
  refine ⟨_, rfl, fun w' o ho _ => ?_⟩
  have hH : (Instr.sliceBounds false s.size s.size (lo.map a.eval) (hi.map a.eval) none).run P w' = .ok (l, m, s.size) w' := by
   unfold Instr.sliceBounds
   have b1 : ∀ (k : IntKind) (n y : Nat) (c : BoundsCode), n ≤ y → (Instr.sliceBound (.int k (n : Int)) y c).run P w' = .ok n w' := fun k n y c h => by simp [Instr.sliceBound, asIntOf, h]
   rcases hl with ⟨q1, q⟩ | ⟨k, q1⟩ <;> rcases hm with ⟨q2, q'⟩ | ⟨k2, q2⟩ <;> rw [q1, q2]
   ·have a1 : l = 0 := by omega
    have a2 : m = s.size := by omega
    subst a1; subst a2; rfl
   ·have a1 : l = 0 := by omega
    subst a1
    simp [b1 k2 m s.size _ e2]
   ·have a2 : m = s.size := by omega
    subst a2
    simp [b1 k l s.size _ e1]
   ·simp [b1 k2 m s.size _ e2, b1 k l m _ e1]
  simp [execOp, ho, hv, Instr.sliceAt, Instr.slice, run_underlying hu, hH]
 ·rw [if_neg h0] at hd; cases hd
section
variable {γ : Type} {ρ : iC γ} {e t : TypeId} {bytes : Nat} {x : Operand} {hv : Value} {S : List Nat} {d : List γ} {j : Nat} {l m : Nat}
end
end Go.Dc
namespace Go.Dc
class bl (P : Program) extends qc where
 code : TypeId → Option Nat
 split : (n : Nat) → xw.den n → List cm
 HG : ∀ n x, (qc.rep n).cp x = (split n x).map cm.rp
 Oi : ∀ n x, ∀ D ∈ split n x, D.t.one = true
 join : (n : Nat) → List cm → Option (xw.den n)
 MS : ∀ n l x, join n l = some x → split n x = l
 fts : Nat → List Ty
 fld : (n f : Nat) → xw.den n → Option (Nat × cm)
 fld_ok : ∀ n f x off D, fld n f x = some (off, D) → (((qc.rep n).cp x).drop off).take D.t.rep.size = D.t.rep.cp D.d ∧ off + D.t.rep.size ≤ (qc.rep n).size
 deq : (n : Nat) → DecidableEq (xw.den n)
 eqs : TypeId → Nat → Bool
 eqs_ok : ∀ t n, eqs t n = true → letI := deq n; EqT P t (qc.rep n)
theorem bl.Qn {P : Program} [bl P] (n : Nat) (l : List cm) (x : xw.den n) (h : bl.join (P := P) n l = some x) : (qc.rep n).cp x = l.map cm.rp := by
 rw [bl.HG (P := P) n x, bl.MS n l x h]
variable [aq] {R : Type} {P : Program} [bl P] {E : Env} {N : Nat} {K : KT R} {m : Option R} {op : Op} {ty : TypeId} {n : Nat} {env : List (Nat × bX)} {G : List (Nat × Sh)} {O : List MO}
def SU (P : Program) (t : TypeId) : Option Bool := match P.underlying t with
 | some (.struct _) => some true
 | some (.array _ _) => some true
 | some _ => some false
 | none => none
theorem xu {t : TypeId} {b : Bool} (h : SU P t = some b) (w : World) : (isAgg t).run P w = .ok b w := by
 unfold SU at h
 split at h
 ·rename_i d hu; cases h; simp [isAgg, run_underlying hu]
 ·rename_i d hu; cases h; simp [isAgg, run_underlying hu]
 ·rename_i d h1 h2 hu
  cases h
  simp only [isAgg, Sem.run_bind, run_underlying hu]
  cases d <;> first | rfl | (exact absurd rfl (h1 _)) | (exact absurd rfl (h2 _ _))
 ·cases h
def Cv (P : Program) (t : TypeId) : Option Nat := (P.info? t).map (·.size)
theorem gi {t : TypeId} {k : Nat} (h : Cv P t = some k) (w : World) : (Go.sizeOf t).run P w = .ok k w := by
 unfold Cv at h
 cases hi : P.info? t with
 | none => rw [hi] at h; cases h
 | some i => rw [hi] at h; cases h; simp [Go.sizeOf, typeInfo, hi]
def codeN (P : Program) [bl P] : Nat → TypeId → Option Ty
 | 0, _ => none
 | k + 1, t => match P.underlying t with
  | some (.int kd) => some (.int kd)
  | some .bool => some .bool
  | some .string => some .str
  | some (.slice e) => (codeN P k e).map .sl
  | some (.pointer e) => (codeN P k e).map .op
  | some (.struct _) => (bl.code P t).map .st
  | some (.array _ _) => (bl.code P t).map .st
  | _ => none
def codeT (P : Program) [bl P] (t : TypeId) : Option Ty := codeN P 5 t
def XR (P : Program) [bl P] (e : TypeId) : Option (Ty × Nat) :=
 match codeT P e, P.info? e, SU P e with
 | some c, some i, some g => match i.zero with
  | some z => bif Nat.beq i.size c.rep.size && Nat.beq z.cells.size c.rep.size && (g == c.rep.agg) && Nat.blt 0 c.rep.size && Nat.blt 0 i.bytes then some (c, i.bytes) else none
  | none => none
 | _, _, _ => none
theorem lg {e : TypeId} {c : Ty} {b : Nat} (h : XR P e = some (c, b)) : Hr P e c.rep b := by
 unfold XR at h
 split at h
 ·rename_i c' i g hc hi hg
  split at h
  ·rename_i z hz
   generalize hb : (Nat.beq i.size c'.rep.size && Nat.beq z.cells.size c'.rep.size && (g == c'.rep.agg) && Nat.blt 0 c'.rep.size && Nat.blt 0 i.bytes) = q at h
   cases q with
   | false => cases h
   | true =>
    simp only [cond_true, Option.some.injEq, Prod.mk.injEq] at h
    obtain ⟨rfl, rfl⟩ := h
    simp only [Bool.and_eq_true, Nat.blt_eq, beq_iff_eq] at hb
    obtain ⟨⟨⟨⟨h1, h2⟩, h3⟩, h4⟩, h5⟩ := hb
    exact ⟨⟨i, hi, Nat.eq_of_beq_eq_true h1, rfl, z, hz, Nat.eq_of_beq_eq_true h2⟩, fun w => by rw [← h3]; exact xu hg w, h4, h5⟩
  ·cases h
 ·cases h
theorem Ii : ∀ {es : List bX} {k i : Nat} {env : List (Nat × bX)}, i < k → iQ (keyed k es env) i = iQ env i
 | [], _, _, _, _ => rfl
 | e :: es, k, i, env, h => by
  show iQ (keyed (k + 1) es ((k, e) :: env)) i = _
  rw [Ii (by omega), bM, if_neg (by omega)]
theorem EV {es : List bX} : ∀ {k i : Nat} {env : List (Nat × bX)} {e : bX}, es[i]? = some e → iQ (keyed k es env) (k + i) = some e := by
 induction es with
 | nil => intro k i env e h; simp at h
 | cons x es ih =>
  intro k i env e h
  show iQ (keyed (k + 1) es ((k, x) :: env)) (k + i) = _
  cases i with
  | zero =>
   simp only [List.getElem?_cons_zero, Option.some.injEq] at h
   subst h
   rw [Ii (by omega), bM, if_pos (by omega)]
  | succ i =>
   simp only [List.getElem?_cons_succ] at h
   rw [show k + (i + 1) = k + 1 + i from by omega]
   exact ih h
def vrs : Nat → List cm → List At
 | _, [] => []
 | n, _ :: l => .vr n :: vrs (n + 1) l
def Ck (l : List cm) : List bX := l.map fun D => ⟨D.t, D.d, none⟩
theorem YD {η : Nat → Hd} {n' : Nat} {es' : List (Nat × bX)} : ∀ {l : List cm} {k : Nat}, (∀ D ∈ l, D.t.one = true) → (∀ i D, l[i]? = some D → iQ es' (k + i) = some (⟨D.t, D.d, none⟩ : bX)) → (vrs k l).map (At.rp ⟨n', es', η⟩) = l.map cm.rp
 | [], _, _, _ => rfl
 | D :: l, k, h1, h2 => by
  simp only [vrs, List.map_cons]
  have h3 := h2 0 D rfl
  rw [Nat.add_zero] at h3
  have e1 : At.rp ⟨n', es', η⟩ (.vr k) = D.rp := by simp only [At.rp, h3, h1 D (by simp), cond_true, cm.rp]
  rw [e1, YD (l := l) (k := k + 1) (fun D hD => h1 D (by simp [hD])) (fun i D hD => by rw [show k + 1 + i = k + (i + 1) from by omega]; exact h2 (i + 1) D hD)]
def YH (P : Program) [bl P] (n : Nat) (D : cm) : Sh × List bX := match D with
 | ⟨.st k, d⟩ => (.vl true (vrs n (bl.split (P := P) k d)), Ck (bl.split (P := P) k d))
 | ⟨t, d⟩ => (.vl false [.vr n], [⟨t, d, none⟩])
theorem Es {l : List cm} : ∀ e ∈ Ck l, gR env e := fun e he => by
 obtain ⟨D, _, rfl⟩ := List.mem_map.1 he
 exact .none rfl
theorem U7 {D : cm} {v : Sh} {add : List bX} (h : YH P n D = (v, add)) {η : Nat → Hd} {n' : Nat} : v.rp ⟨n', keyed n add env, η⟩ = D.rp ∧ ∀ e ∈ add, gR env e := by
 obtain ⟨t, d⟩ := D
 cases t with
 | st k =>
  cases h
  refine ⟨?_, Es⟩
  have h1 := YD (es' := keyed n (Ck (bl.split (P := P) k d)) env) (η := η) (n' := n') (l := bl.split (P := P) k d) (k := n) (bl.Oi k d) (fun i D hD => EV (by simp [Ck, hD]))
  simp only [Sh.rp, wS, cond_true]
  rw [h1]
  have h2 : (qc.rep k).cp d = (bl.split (P := P) k d).map cm.rp := bl.HG k d
  show _ = sh (qc.rep k) d
  unfold sh
  rw [qc.agg, h2]; rfl
 | _ => cases h; exact ⟨YF rfl, fun e he => by rw [List.mem_singleton.1 he]; exact .none rfl⟩
theorem RP.pN : RP.no.At := fun h => h.elim
theorem cm.Vk {D : cm} (ho : D.t.one = true) : D.rp.At := by
 have h1 := Ty.P5 ho
 have e : D.rp = (D.t.rep.cp D.d).headD (pv Go.undef) := by unfold cm.rp sh; rw [h1]; rfl
 have hl := D.t.rep.len D.d
 rw [D.t.rep.one h1] at hl
 obtain ⟨φ, hφ⟩ := List.length_eq_one_iff.1 hl
 rw [e, hφ]
 exact (D.t.rep.at_ D.d φ (by rw [hφ]; simp) : φ.At)
theorem yM {b : Bool} {φ ψ : RP} (h1 : φ.At) (h2 : ψ.At) : (bif b then φ else ψ).At := by cases b; exact h2; exact h1
theorem elA_one {hv : Value} {s : Nat} {i : Int} : (V_ hv s i).oneCell' = true := by unfold V_; split <;> rfl
theorem elF_one {hv : Value} {s : Nat} {i : Int} {fo : Nat} : (elF hv s i fo).oneCell' = true := by unfold elF; split <;> rfl
theorem ea_at {α : Type} {ρ : iC α} {x : α} : (Dc.ea ρ x).At := fun ⟨_, _, _, _, _, _, e, _⟩ => by rw [e]; rfl
theorem At.Vk {c : Cx} (a : At) : (a.rp c).At := by
 cases a with
 | vr i =>
  simp only [At.rp]
  split
  ·rename_i e he
   cases ho : e.t.one with
   | false => exact RP.pN
   | true => exact cm.Vk (D := ⟨e.t, e.d⟩) ho
  ·exact RP.pN
 | ci k n => exact jy
 | cb b => exact bv_at
 | ck s => exact sv_at
 | nl => exact lN rfl
 | own o h => exact yM (lN (c.η h).one) RP.pN
 | ptr o h off => exact yM (lN rfl) RP.pN
 | mp o h => exact yM (lN rfl) RP.pN
 | fn f l => exact yM (lN fnV_one) RP.pN
 | H8 => exact lN rfl
 | nF => exact lN rfl
 | ea i =>
  simp only [At.rp]
  split
  ·exact ea_at
  ·exact RP.pN
 | fu i =>
  simp only [At.rp]
  split
  ·exact fun h => by obtain ⟨a, e, _⟩ := h; rw [e]; rfl
  ·exact RP.pN
 | Mx o h y =>
  simp only [At.rp]
  split
  ·exact yM (lN elA_one) RP.pN
  ·exact yM (lN rfl) RP.pN
  ·exact yM (lN rfl) RP.pN
  ·exact RP.pN
 | pj i j =>
  simp only [At.rp]
  split
  ·split
   ·exact jy
   ·exact RP.pN
  ·exact RP.pN
 | fs o h cp => exact yM (lN rfl) RP.pN
 | vs o h off i cp =>
  simp only [At.rp]
  split
  ·exact yM (lN rfl) RP.pN
  ·exact RP.pN
 | sb o h a b sz =>
  simp only [At.rp]
  split
  ·exact yM (lN (by unfold Rg; split; rfl; exact (c.η h).one)) RP.pN
  ·exact RP.pN
 | Yn o h z =>
  simp only [At.rp]
  split
  ·split
   ·exact yM (lN elF_one) RP.pN
   ·exact RP.pN
  ·exact RP.pN
 | junk => exact anyc_at
def opC (G : List (Nat × Sh)) (x : Operand) : Option (List At) := match OI G x with
 | some (.vl true l) => some l
 | some (.vl false [a]) => some [a]
 | _ => none
theorem DV {c : Cx} {Ω : List OB} {x : Operand} {l : List At} (h : opC G x = some l) : oR E N (dN c G) Ω x (l.map (At.rp c)) := by
 unfold opC at h
 split at h
 ·rename_i h1; cases h
  exact part_ag (sL h1) fun φ hφ => by obtain ⟨a, _, rfl⟩ := List.mem_map.1 hφ; exact At.Vk a
 ·rename_i a h1; cases h
  exact PW (sL (c := c) h1) (At.Vk a)
 ·cases h
theorem oR.imp {Γ : List (Nat × RP)} {Ω : List OB} {x : Operand} {bY fQ : List RP} (h : oR E N Γ Ω x bY) (hi : nK bY fQ) : oR E N Γ Ω x fQ := fun a w hs =>
 let ⟨h1, h2⟩ := h a w hs; ⟨hi.all h1, h2⟩
def atD (env : List (Nat × bX)) (t : Ty) (a : At) : Option cm := match a, t with
 | .nl, .sl t => some ⟨.sl t, []⟩
 | a, _ => Vl env a
theorem Wi {c : Cx} {t : Ty} {a : At} {D : cm} (h : atD c.env t a = some D) {F : FP} {w : World} {v : Value} (hv : (a.rp c).h F w v) : D.rp.h F w v := by
 unfold atD at h
 split at h
 ·cases h; exact BX hv
 ·rw [← (zQ h).1]; exact hv
def atsD (env : List (Nat × bX)) : List Ty → List At → Option (List cm)
 | [], [] => some []
 | t :: ts, a :: l => (atD env t a).bind fun D => (atsD env ts l).map (D :: ·)
 | _, _ => none
theorem Nr {c : Cx} : ∀ {ts : List Ty} {l : List At} {Ds : List cm}, atsD c.env ts l = some Ds → nK (l.map (At.rp c)) (Ds.map cm.rp)
 | [], [], _, h => by cases h; trivial
 | t :: ts, a :: l, Ds, h => by
  simp only [atsD] at h
  obtain ⟨D, h1, h2⟩ := Option.bind_eq_some_iff.1 h
  obtain ⟨Ds', h3, rfl⟩ := Option.map_eq_some_iff.1 h2
  exact ⟨fun hv => Wi h1 hv, Nr h3⟩
 | [], _ :: _, _, h => by cases h
 | _ :: _, [], _, h => by cases h
def celD1 (env : List (Nat × bX)) (t : Ty) : List At → Option t.den
 | [a] => (atD env t a).bind fun D => if h : D.t = t then some (h ▸ D.d) else none
 | _ => none
def UJ (P : Program) [bl P] (env : List (Nat × bX)) (t : Ty) (l : List At) : Option t.den := match t with
 | .st k => (atsD env (bl.fts P k) l).bind (bl.join (P := P) k)
 | t => celD1 env t l
theorem uN {c : Cx} {t : Ty} (ht : t.one = true) {l : List At} {d : t.den} (h : celD1 c.env t l = some d) : nK (l.map (At.rp c)) (t.rep.cp d) := by
 unfold celD1 at h
 split at h
 ·rename_i x
  obtain ⟨D, h1, h2⟩ := Option.bind_eq_some_iff.1 h
  split at h2
  ·rename_i e
   subst e
   cases h2
   have hl := D.t.rep.len D.d
   rw [D.t.rep.one (Ty.P5 ht)] at hl
   obtain ⟨φ, hφ⟩ := List.length_eq_one_iff.1 hl
   have e2 : D.rp = φ := by
    have e3 : D.rp = (D.t.rep.cp D.d).headD (pv Go.undef) := by unfold cm.rp sh; rw [Ty.P5 ht]; rfl
    rw [e3, hφ]; rfl
   show nK [x.rp c] (D.t.rep.cp D.d)
   rw [hφ]
   exact ⟨fun hv => by rw [← e2]; exact Wi h1 hv, trivial⟩
  ·cases h2
 ·cases h
theorem Nl {c : Cx} {t : Ty} {l : List At} {d : t.den} (h : UJ P c.env t l = some d) : nK (l.map (At.rp c)) (t.rep.cp d) := by
 cases t with
 | st k =>
  simp only [UJ] at h
  obtain ⟨Ds, h1, h2⟩ := Option.bind_eq_some_iff.1 h
  have h3 : (qc.rep k).cp d = Ds.map cm.rp := bl.Qn k Ds d h2
  show nK _ ((qc.rep k).cp d)
  rw [h3]
  exact Nr h1
 | int k => exact uN rfl h
 | bool => exact uN rfl h
 | str => exact uN rfl h
 | sl t => exact uN rfl h
 | op t => exact uN rfl h
 | mp k v => exact uN rfl h
 | vec k => exact uN rfl h
def opT (P : Program) [bl P] (env : List (Nat × bX)) (G : List (Nat × Sh)) (t : Ty) (x : Operand) : Option t.den := (opC G x).bind (UJ P env t)
theorem HZ {η : Nat → Hd} {Ω : List OB} {x : Operand} {t : Ty} {d : t.den} (h : opT P env G t x = some d) : oR E N (dN ⟨n, env, η⟩ G) Ω x (t.rep.cp d) := by
 obtain ⟨l, h1, h2⟩ := Option.bind_eq_some_iff.1 h
 exact (DV h1).imp (Nl (c := ⟨n, env, η⟩) h2)
end Go.Dc
