/- Part Dc.Clo of a proof: lemmas. -/
import Derived.Test.YtejhbimlekcllaaDoorDcDrawI
/-! Function values that have captured; calls that use objects up. -/
namespace Go.Dc
variable {R : Type} {P : Program} {E : Env} {N : Nat} {Γ : List (Nat × RP)} {Ω : List OB} {ty : TypeId}

/-- what a function value captures: values that are known -/
def CapsOk (Γ : List (Nat × RP)) : List Operand → List Value → Prop
  | [], [] => True
  | x :: xs, v :: vs => lkO Γ x = some (pv v) ∧ CapsOk Γ xs vs
  | _, _ => False

theorem CapsOk.eval {a : Act} {w : World} (hs : Sat E N Γ Ω a w) : ∀ {xs : List Operand} {vs : List Value}, CapsOk Γ xs vs → xs.map a.eval = vs
  | [], [], _ => rfl
  | x :: xs, v :: vs, ⟨h1, h2⟩ => by rw [List.map_cons, CapsOk.eval hs h2, show a.eval x = v from hs.op h1]
  | [], _ :: _, h => h.elim
  | _ :: _, [], h => h.elim

theorem r_mkfn {f : FuncId} {xs : List Operand} {vs : List Value} (h : CapsOk Γ xs vs) : Rd P E N (.makeFunc (.func f) #[] xs.toArray) ty Γ Ω [] (pv (.func (.func f) #[] vs.toArray)) := by
  intro a w hs
  refine ⟨_, [], rfl, by simp, fun w' _ o ho _ => ?_⟩
  simp [execOp, ho, Instr.makeFunc, h.eval hs]

/-- those of a list that stay -/
def keepB : List Bool → List OB → List OB
  | true :: m, o :: os => o :: keepB m os
  | false :: m, _ :: os => keepB m os
  | _, _ => []
def DeadB : List Bool → List OB → Prop
  | true :: m, _ :: os => DeadB m os
  | false :: m, o :: os => o = dead ∧ DeadB m os
  | [], [] => True
  | _, _ => False

theorem keepB_ow : ∀ {m : List Bool} {os : List OB}, DeadB m os → ow (keepB m os) = ow os
  | [], [], _ => rfl
  | true :: m, o :: os, h => by
    show ow (o :: keepB m os) = ow (o :: os)
    rw [show ow (o :: keepB m os) = o.S ++ ow (keepB m os) from by simp [ow], show ow (o :: os) = o.S ++ ow os from by simp [ow], keepB_ow (m := m) h]
  | false :: m, o :: os, ⟨h1, h2⟩ => by
    show ow (keepB m os) = ow (o :: os)
    rw [keepB_ow h2, show ow (o :: os) = o.S ++ ow os from by simp [ow], h1]
    simp [dead]
  | [], _ :: _, h => h.elim
  | true :: _, [], h => h.elim
  | false :: _, [], h => h.elim

theorem keepB_mem : ∀ {m : List Bool} {os : List OB}, DeadB m os → ∀ o ∈ os, o ∈ keepB m os ∨ o = dead
  | [], [], _, o, ho => by simp at ho
  | true :: m, p :: os, h, o, ho => by
    rcases List.mem_cons.1 ho with e | e
    · exact .inl (by rw [e]; exact List.mem_cons_self)
    · exact (keepB_mem (m := m) h o e).imp (fun h => List.mem_cons_of_mem _ h) id
  | false :: m, p :: os, ⟨h1, h2⟩, o, ho => by
    rcases List.mem_cons.1 ho with e | e
    · exact .inr (e.trans h1)
    · exact keepB_mem h2 o e
  | [], _ :: _, h, _, _ => h.elim
  | true :: _, [], h, _, _ => h.elim
  | false :: _, [], h, _, _ => h.elim

theorem FnOk.undead {X : Type} {f : FuncId} {φs : List RP} {Ω0 : List OB} {res : X → List RP} {Ω1 Ω2 : X → List OB} (hf : FnOk P f φs Ω0 res Ω1) (h1 : ∀ x, ow (Ω1 x) = ow (Ω2 x))
    (h2 : ∀ x, ∀ o ∈ Ω2 x, o ∈ Ω1 x ∨ o = dead) : FnOk P f φs Ω0 res Ω2 := by
  intro F w vs a1 a2 a3 a4 a5 a6
  refine (hf F w vs a1 a2 a3 a4 a5 a6).mono ?_
  rintro e w' ⟨x, v, he, hk, hbd, hnd, hob, hres⟩
  rw [h1 x] at hbd hnd hres hob
  refine ⟨x, v, he, hk, hbd, hnd, fun o ho => ?_, hres⟩
  rcases h2 x o ho with h3 | h3
  · exact hob o h3
  · rw [h3]; trivial

/-- a call that is handed the objects js, and gives some of them back -/
theorem s_callC {X : Type} {f : FuncId} {x : Operand} {args : List Operand} {caps : List Value} {ats : Array TypeId} {φs : List RP} (js : List Nat) (mask : List Bool) {Ω0 : List OB} {res : X → List RP} {Ω1 : X → List OB} (os ex : X → List OB) (ψ : X → RP)
    (hcall : ∀ args w, (callFunc f args).run P w = .ok (.enter f args) w) (hx : lkO Γ x = some (pv (.func (.func f) #[] caps.toArray)))
    (hf : FnOk P f φs Ω0 res Ω1) (hob : ObjsAt Ω js Ω0) (hex : ∀ x, Ω1 x = keepB mask (os x) ++ ex x) (hdd : ∀ x, DeadB mask (os x)) (hl : ∀ x, js.length = (os x).length)
    (ha : ArgsOk E N Γ Ω frF (args ++ caps.map .const) φs) (hψ : ∀ x F w v, resH F w (res x) v → (ψ x).h F w v) :
    St P E N (.call ⟨.value x, args.toArray, ats⟩) ty Γ Ω js ψ (fun x => setAll js (os x) Ω ++ ex x) := by
  refine s_callI (Ω1 := fun x => os x ++ ex x) hcall hx (hf.undead (fun x => ?_) fun x o ho => ?_) hob (fun _ => rfl) hl ha hψ
  · rw [hex x, ow_append, ow_append, keepB_ow (hdd x)]
  · rw [hex x]
    rcases List.mem_append.1 ho with h | h
    · exact (keepB_mem (hdd x) o h).imp (fun h => List.mem_append_left _ h) id
    · exact .inl (List.mem_append_right _ h)

section
variable {α : Type} {e t : TypeId} {ρ : Rep α} {bytes : Nat} {x : Operand}
/-- the part l..m of a slice -/
def subV (v : Value) (sz l m : Nat) : Value := match v with
  | .slice ad _ c => .slice (if c = l then ad else ad.map (·.add (l * sz))) (m - l) (c - l)
  | v => v

/-- x[lo:hi] beside x, which stays ours -/
theorem r_osub {lo hi : Option Operand} {d d' : List α} {l m : Int} {hv : Value} {S : List Nat} {j : Nat} (hd : slM d l m = some d') (hu : P.underlying t = some (.slice e)) (h : ElT P e ρ bytes)
    (hx : lkO Γ x = some (pv hv)) (hj : Ω[j]? = some (oa ρ hv S d)) (hlo : BdOk Γ 0 lo l) (hhi : BdOk Γ d.length hi m) :
    Rd P E N (.slice t x lo hi none) ty Γ Ω [] (pv (subV hv ρ.size l.toNat m.toNat)) := .mk fun a w hs => by
  obtain ⟨h0, h1, h2, rfl⟩ := slM_some hd
  have hvx : a.eval x = hv := hs.op hx
  obtain ⟨ad, c, rfl, hc, hob⟩ := hs.objAt hj
  obtain ⟨l, rfl⟩ := Int.eq_ofNat_of_zero_le h0
  obtain ⟨m, rfl⟩ := Int.eq_ofNat_of_zero_le (Int.le_trans h0 h1)
  have hl := hlo.val hs
  have hm := hhi.val hs
  have e1 : l ≤ m := by omega
  have e2 : m ≤ d.length := by omega
  refine ⟨_, rfl, fun w' o ho _ => ?_⟩
  have hrun := run_slice (P := P) hu h (ad := ad) (n := d.length) (c := c) (lo := lo.map a.eval) (hi := hi.map a.eval) (l := l) (hh := m)
    (hl.imp (fun ⟨e1, e2⟩ => ⟨e1, by omega⟩) id) (hm.imp (fun ⟨e1, e2⟩ => ⟨e1, by omega⟩) id) e1 (by omega) w'
  simp [execOp, ho, hvx, hrun, subV]

theorem zero_get {zs : Array Value} {n i k sz : Nat} (hs : zs.size = sz) (hi : i < n) (hk : k < sz) : (Builtin.zeroCells zs n).toList[i * sz + k]? = zs.toList[k]? := by
  have hlt : i * sz + k < n * sz := by
    have : (i + 1) * sz ≤ n * sz := Nat.mul_le_mul_right _ hi
    rw [Nat.succ_mul] at this; omega
  rw [Array.getElem?_toList, Builtin.zeroCells, Array.getElem?_map, Array.getElem?_range, hs, if_pos hlt]
  have hmod : (i * sz + k) % sz = k := by rw [Nat.mul_comm, Nat.mul_add_mod, Nat.mod_eq_of_lt hk]
  have hk' : k < zs.size := by omega
  simp only [Option.map_some, hmod]
  rw [Array.getElem?_toList, Array.getElem?_eq_getElem hk', getElem!_pos zs k hk']

/-- clear(x[l:m]) -/
theorem s_clear {d d' : List α} {l m : Int} {z : α} {hv : Value} {S : List Nat} {j : Nat} (hd : slM d l m = some d') (hu : P.underlying t = some (.slice e)) (h : ElT P e ρ bytes) (hz : ZeroT P e ρ z)
    (hx : lkO Γ x = some (pv (subV hv ρ.size l.toNat m.toNat))) (hj : Ω[j]? = some (oa ρ hv S d)) :
    St P E N (.call ⟨.builtin .clear, #[x], #[t]⟩) ty Γ Ω [j] (fun _ : Unit => pv (.tuple #[])) (fun _ => Ω.set j (oa ρ hv S (d.take l.toNat ++ List.replicate (m.toNat - l.toNat) z ++ d.drop m.toNat))) := by
  intro a w hs
  obtain ⟨h0, h1, h2, rfl⟩ := slM_some hd
  have hvx : a.eval x = subV hv ρ.size l.toNat m.toNat := hs.op hx
  obtain ⟨ad, c, rfl, hc, hob⟩ := hs.objAt hj
  obtain ⟨i, zv, hi, hzz, hzs⟩ := hz
  obtain ⟨i', hi', his, hib, z', hz', hzsz⟩ := h.info
  rw [hi] at hi'; cases hi'
  rw [hzz] at hz'; cases hz'
  obtain ⟨l, rfl⟩ := Int.eq_ofNat_of_zero_le h0
  obtain ⟨m, rfl⟩ := Int.eq_ofNat_of_zero_le (Int.le_trans h0 h1)
  simp only [Int.toNat_natCast] at hvx ⊢
  have e1 : l ≤ m := by omega
  have e2 : m ≤ d.length := by omega
  by_cases hlm : m = l
  · have hsame : d.take l ++ List.replicate (m - l) z ++ d.drop m = d := by rw [hlm]; simp
    rw [hsame]
    refine opwp_val (v := .tuple #[]) (w' := w) (fun o ho _ => ?_) ⟨(), by rw [set_same hj]; exact hs, rfl, Nat.le_refl _, fun _ _ _ => rfl, fun b _ hb => by rw [set_same hj] at hb; exact hb⟩
    have : (Builtin.clear_ #[t] o.type #[a.eval x]).run P w = .ok (.tuple #[]) w := by
      rw [hvx]
      simp only [subV, hlm, Nat.sub_self]
      unfold Builtin.clear_
      simp [run_underlying hu]
      split <;> simp_all
    simp [execOp, ho, resolve, invoke, builtin, this]
  · rcases hob with ⟨rfl, _, rfl⟩ | ⟨b, off, cells, ct, rfl, rfl, hb, hsz, hH⟩
    · omega
    · have hcl : c ≠ l := by omega
      have hle : m * ρ.size ≤ c * ρ.size := Nat.mul_le_mul_right _ (by omega)
      have hms : (m - l) * ρ.size + l * ρ.size = m * ρ.size := by rw [← Nat.add_mul]; congr 1; omega
      have hzl : (Builtin.zeroCells zv.cells (m - l)).size = (m - l) * ρ.size := by simp [Builtin.zeroCells, hzsz]
      have hat : ∀ u ∈ (Builtin.zeroCells zv.cells (m - l)).toList, u.oneCell' = true := by
        intro u hu
        have hall := hzs (fun _ => True) w
        have hz1 := hall.atoms (ρ.at_ z)
        obtain ⟨q, hq, rfl⟩ := List.mem_iff_getElem.1 hu
        have hq' : q < (m - l) * ρ.size := by simpa [hzl] using hq
        have hp := h.pos
        have hg := zero_get (zs := zv.cells) (n := m - l) (i := q / ρ.size) (k := q % ρ.size) hzsz (Nat.div_lt_of_lt_mul (by rw [Nat.mul_comm]; exact hq')) (Nat.mod_lt _ hp)
        rw [Nat.mul_comm, Nat.div_add_mod, List.getElem?_eq_getElem hq] at hg
        exact hz1 _ (List.mem_of_getElem? hg.symm)
      have hst := run_storeCells_at P b (off + l * ρ.size) ct (Builtin.zeroCells zv.cells (m - l)).toList 0 cells w hb (by simp [hzl]; omega) hat
      simp only [Nat.add_zero, Array.length_toList, hzl] at hst
      intro o hop ht
      have hr : (execOp a.eval o).run P w = .ok (.value (.tuple #[])) (w.setRow b (cells.toList.take (off + l * ρ.size) ++ (Builtin.zeroCells zv.cells (m - l)).toList ++ cells.toList.drop (off + l * ρ.size + (m - l) * ρ.size)).toArray) := by
        have hc1 : (Builtin.clear_ #[t] o.type #[a.eval x]).run P w = .ok (.tuple #[]) (w.setRow b (cells.toList.take (off + l * ρ.size) ++ (Builtin.zeroCells zv.cells (m - l)).toList ++ cells.toList.drop (off + l * ρ.size + (m - l) * ρ.size)).toArray) := by
          rw [hvx]
          obtain ⟨k, hk⟩ : ∃ k, m - l = k + 1 := ⟨m - l - 1, by omega⟩
          simp only [subV, if_neg hcl, Option.map_some, addr_add]
          rw [hk] at hst ⊢
          unfold Builtin.clear_
          simp [run_underlying hu, zeroValue, typeInfo, hi, hzz, hst]
        simp [execOp, hop, resolve, invoke, builtin, hc1]
      rw [hr]
      refine ⟨(), ?_, rfl, by simp, fun b' hb' hn' => setRow_other w b b' _ fun e => hn' j (by simp) _ hj (by rw [e]; simp [oa]), own_set hj fun b hb => .inl hb⟩
      refine hs.upd hj ⟨rfl, rfl, rfl, by first | exact Nat.le_refl _ | exact Nat.le_add_right _ _⟩ (by simp) (fun b' _ hn' => setRow_other w b b' _ fun e => hn' (by rw [e]; simp [oa])) (fun b' hb' => .inl hb') (by simp [oa]) ?_
      have hlen : (d.take l ++ List.replicate (m - l) z ++ d.drop m).length = d.length := by simp; omega
      have hag : Ag (fr E Ω) (fr E (Ω.set j (oa ρ (.slice (some ⟨b, off, none⟩) d.length c) [b] (d.take l ++ List.replicate (m - l) z ++ d.drop m)))) w
          (w.setRow b (cells.toList.take (off + l * ρ.size) ++ (Builtin.zeroCells zv.cells (m - l)).toList ++ cells.toList.drop (off + l * ρ.size + (m - l) * ρ.size)).toArray) :=
        ⟨fun b' _ hf => fr_set hj hf fun hm => hf.2 (Sat.notin hj (b := b') hm), fun b' _ hf => setRow_other w b b' _ fun e => hf.2 (Sat.notin hj (b := b') (by rw [e]; simp [oa]))⟩
      have hll : cells.toList.length = cells.size := Array.length_toList
      have hzl' : (Builtin.zeroCells zv.cells (m - l)).toList.length = (m - l) * ρ.size := by rw [Array.length_toList, hzl]
      have htk : (cells.toList.take (off + l * ρ.size)).length = off + l * ρ.size := by rw [List.length_take]; omega
      refine ⟨some ⟨b, off, none⟩, c, by rw [hlen], by rw [hlen]; exact hc, .inr ⟨b, off, _, ct, rfl, rfl, setRow_heap w b cells _ ct (0, 0) hb, ?_, ?_⟩⟩
      · simp only [List.size_toArray, List.length_append, List.length_take, List.length_drop, Array.length_toList, hzl]; omega
      · intro q hq
        rw [hlen] at hq
        have hle2 : (q + 1) * ρ.size ≤ c * ρ.size := Nat.mul_le_mul_right _ (by omega)
        rw [Nat.succ_mul] at hle2
        by_cases hq1 : q < l
        · obtain ⟨es, hes, hcs⟩ := hH q hq
          have hl2 : (q + 1) * ρ.size ≤ l * ρ.size := Nat.mul_le_mul_right _ hq1
          rw [Nat.succ_mul] at hl2
          refine ⟨es, ?_, fun k hk => ?_⟩
          · have : (d.take l ++ List.replicate (m - l) z ++ d.drop m)[q] = d[q] := by
              rw [List.getElem_append_left (by simp; omega), List.getElem_append_left (by simp; omega), List.getElem_take]
            rw [this]; exact hes.mono hag
          · rw [← hcs k hk, List.getElem?_toArray, List.append_assoc, List.getElem?_append_left (by omega), List.getElem?_take, if_pos (by omega)]; simp
        · by_cases hq2 : q < m
          · refine ⟨zv.cells.toList, ?_, fun k hk => ?_⟩
            · have : (d.take l ++ List.replicate (m - l) z ++ d.drop m)[q] = z := by
                rw [List.getElem_append_left (by simp; omega), List.getElem_append_right (by simp; omega), List.getElem_replicate]
              rw [this]; exact hzs _ _
            · have hm2 : (q + 1) * ρ.size ≤ m * ρ.size := Nat.mul_le_mul_right _ hq2
              have hl2 : l * ρ.size ≤ q * ρ.size := Nat.mul_le_mul_right _ (by omega)
              rw [Nat.succ_mul] at hm2
              have hql : (q - l) * ρ.size + l * ρ.size = q * ρ.size := by rw [← Nat.add_mul]; congr 1; omega
              rw [List.getElem?_toArray, List.append_assoc, List.getElem?_append_right (by omega), htk, List.getElem?_append_left (by omega),
                show off + q * ρ.size + k - (off + l * ρ.size) = (q - l) * ρ.size + k from by omega]
              exact zero_get hzsz (by omega) hk
          · obtain ⟨es, hes, hcs⟩ := hH q hq
            have hm2 : m * ρ.size ≤ q * ρ.size := Nat.mul_le_mul_right _ (by omega)
            refine ⟨es, ?_, fun k hk => ?_⟩
            · have : (d.take l ++ List.replicate (m - l) z ++ d.drop m)[q] = d[q] := by
                rw [List.getElem_append_right (by simp; omega), List.getElem_drop]
                congr 1; simp; omega
              rw [this]; exact hes.mono hag
            · rw [← hcs k hk, List.getElem?_toArray, List.getElem?_append_right (by rw [List.length_append, htk, hzl']; omega), List.length_append, htk, hzl', List.getElem?_drop]
              simp
              congr 1; omega
end

section
variable {α : Type} {e t : TypeId} {ρ : Rep α} {bytes : Nat} {x : Operand}
end

/-! the two commonest steps, in few words -/
section
variable {K : KT R} {m : Option R} {ops : Array Oper} {rest : List Oper}
theorem mv1 {x : Operand} {d : Nat} {φ : RP} {pos : String} {aft : Array Edge} (hx : lkO Γ x = some φ) (hd : Nat.blt d N = true) (h : RefL P E N m ops rest ((d, φ) :: Γ) Ω K) : RefL P E N m ops (⟨some d, .move x, ty, pos, aft, none⟩ :: rest) Γ Ω K := s_rd (r_move hx) hd h
theorem as1 {x : Operand} {d : Nat} {φ : RP} {pos : String} {aft : Array Edge} (hx : lkO Γ x = some φ) (hd : Nat.blt d N = true) (h : RefL P E N m ops rest ((d, φ) :: Γ) Ω K) : RefL P E N m ops (⟨some d, .assign x, ty, pos, aft, none⟩ :: rest) Γ Ω K := s_rd (r_assign hx) hd h
end
end Go.Dc
