/- Part Dc.DrawI of a proof: lemmas. -/
import Derived.Test.YtejhbimlekcllaaDoorDcEqS
/-! A region that draws its order, proved once: every operation is shown on its own, over what the operations ahead of it leave. -/
namespace Go.Dc
variable {R : Type} {P : Program} {E : Env} {N : Nat} {Γ Γ' : List (Nat × RP)} {Ω Ω' : List OB} {K : KT R} {m : Option R} {op : Op} {ty : TypeId} {js : List Nat}

/-- what an operation's rule chose -/
inductive XU where
  | none
  | nat (b : Nat)
  | val (x : Value × List Nat)
  | two (a b : XU)
def XU.Nn : XU → Nat | .nat b => b | _ => 0
def XU.V : XU → Value × List Nat | .val x => x | _ => (undef, [])
def XU.A : XU → XU | .two a _ => a | _ => .none
def XU.B : XU → XU | .two _ b => b | _ => .none
def XU.U (_ : XU) : Unit := ()
theorem XU.hN (x : Nat) : ∃ u : XU, u.Nn = x := ⟨.nat x, rfl⟩
theorem XU.hV (x : Value × List Nat) : ∃ u : XU, u.V = x := ⟨.val x, rfl⟩
theorem XU.hU (x : Unit) : ∃ u : XU, u.U = x := ⟨.none, rfl⟩
theorem XU.hP {α β : Type} {f : XU → α} {g : XU → β} (hf : ∀ x, ∃ u, f u = x) (hg : ∀ x, ∃ u, g u = x) (x : α × β) : ∃ u : XU, (f u.A, g u.B) = x := by
  obtain ⟨a, ha⟩ := hf x.1
  obtain ⟨b, hb⟩ := hg x.2
  exact ⟨.two a b, by simp [XU.A, XU.B, ha, hb]⟩

theorem resW.mono {k k' : Value → World → Prop} (h : ∀ v w, k v w → k' v w) : ∀ {r : Result Next}, resW P k r → resW P k' r := by
  intro r hr
  unfold resW at hr ⊢
  split at hr
  · exact h _ _ hr
  · exact h _ _ hr
  · refine hr.mono ?_
    rintro e w ⟨v, rfl, hk⟩
    exact ⟨v, rfl, h _ _ hk⟩
  · exact hr.elim

theorem Eff.ag {w w' : World} (he : Eff Ω Ω' js w w') : Ag (fr E Ω) (fr E Ω') w w' :=
  ⟨fun b hb ⟨h1, h2⟩ => ⟨h1, fun hm => h2 (he.own b hb hm)⟩, fun b hb ⟨_, h2⟩ => he.keep b hb fun _ _ _ hob hbS => h2 (Sat.notin hob hbS)⟩

theorem St.frame {X : Type} {φ : X → RP} {Ω' : X → List OB} (h : St P E N op ty Γ' Ω js φ Ω') (hΓ : ∀ t ψ, lk Γ' t = some ψ → lk Γ t = some ψ) : St P E N op ty Γ Ω js φ Ω' := by
  intro a w hs o ho ht
  refine (h a w (hs.weak hΓ) o ho ht).mono ?_
  rintro v w' ⟨x, h1, h2, h3⟩
  exact ⟨x, ⟨h1.sz, h1.df, fun t ψ ht => ψ.mono h3.ag (hs.sl t ψ ht), h1.ob, h1.nd, h1.bd, h1.kp, h1.fs⟩, h2, h3⟩

/-- a conversion ahead of an operation -/
theorem St.pre {X : Type} {φ : X → RP} {Ω2 : List OB} {Ω' : X → List OB} {js2 : List Nat} (hw : ∀ a w, Sat E N Γ Ω a w → Sat E N Γ' Ω2 a w) (hs1 : ∀ b ∈ ow Ω2, b ∈ ow Ω)
    (hs2 : ∀ j ∈ js2, ∀ ob, Ω2[j]? = some ob → ∀ b ∈ ob.S, ∃ k ∈ js, ∃ oc, Ω[k]? = some oc ∧ b ∈ oc.S)
    (h : St P E N op ty Γ' Ω2 js2 φ Ω') : St P E N op ty Γ Ω js φ Ω' := by
  intro a w hs o ho ht
  refine (h a w (hw a w hs) o ho ht).mono ?_
  rintro v w' ⟨x, h1, h2, h3⟩
  have he : Eff Ω (Ω' x) js w w' := ⟨h3.size, fun b hb hn => h3.keep b hb fun j hj ob hob hbS => by
    obtain ⟨k, hk, oc, hoc, hbS'⟩ := hs2 j hj ob hob b hbS
    exact hn k hk oc hoc hbS', fun b hb hm => hs1 b (h3.own b hb hm)⟩
  exact ⟨x, ⟨h1.sz, h1.df, fun t ψ ht => ψ.mono he.ag (hs.sl t ψ ht), h1.ob, h1.nd, h1.bd, h1.kp, h1.fs⟩, h2, he⟩

theorem St.dec {X : Type} {φ : X → RP} {Ω' : X → List OB} (f : XU → X) (hf : ∀ x, ∃ u, f u = x) (h : St P E N op ty Γ Ω js φ Ω') : St P E N op ty Γ Ω js (fun u => φ (f u)) (fun u => Ω' (f u)) := by
  intro a w hs o ho ht
  refine (h a w hs o ho ht).mono ?_
  rintro v w' ⟨x, h1⟩
  obtain ⟨u, rfl⟩ := hf x
  exact ⟨u, h1⟩

theorem place_perm {A : List OB} {o : OB} {k : Nat} (hk : A[k]? = some dead) : (ow (A.set k o)).Perm (ow (A ++ [o])) := by
  obtain ⟨B, C, hA, hB⟩ := ow_split hk
  rw [hA, ← hB, set_split, ow_mid]
  simp only [ow, List.flatMap_append, List.flatMap_cons, List.flatMap_nil, dead, List.nil_append, List.append_nil, List.append_assoc]
  exact List.Perm.append_left _ List.perm_append_comm

/-- a new object goes into its room -/
theorem St.place {X : Type} {φ : X → RP} {A : X → List OB} {o : X → OB} (k : Nat) (h : St P E N op ty Γ Ω js φ (fun x => A x ++ [o x])) (hk : ∀ x, (A x)[k]? = some dead) :
    St P E N op ty Γ Ω js φ (fun x => (A x).set k (o x)) := by
  intro a w hs p hp ht
  refine (h a w hs p hp ht).mono ?_
  rintro v w' ⟨x, h1, h2, h3⟩
  have hperm := place_perm (o := o x) (hk x)
  have hmem : ∀ b, b ∈ ow ((A x).set k (o x)) ↔ b ∈ ow (A x ++ [o x]) := fun b => hperm.mem_iff
  have ef : fr E ((A x).set k (o x)) = fr E (A x ++ [o x]) := by funext b; simp only [fr, hmem]
  refine ⟨x, ⟨h1.sz, h1.df, by rw [ef]; exact h1.sl, ?_, hperm.nodup_iff.2 h1.nd, fun b hb => h1.bd b ((hmem b).1 hb), h1.kp, h1.fs⟩, by rw [ef]; exact h2, h3.size, h3.keep, fun b hb hm => h3.own b hb ((hmem b).1 hm)⟩
  rw [ef]
  intro y hy
  rcases List.mem_or_eq_of_mem_set hy with h | rfl
  · exact h1.ob y (List.mem_append_left _ h)
  · exact h1.ob _ (by simp)

/-- an operation's account: the choices it names, the operations ahead of it, the objects it writes, those it touches, what it yields and what it leaves -/
structure DO where
  cl : List Nat
  deps : List Nat
  uk : List Nat
  tch : List Nat
  js : List Nat
  φ : List XU → XU → RP
  up : List XU → XU → List OB

def gam (Γ0 : List (Nat × RP)) (L : Nat → Bool) (χ : Nat → XU) : Nat → List Oper → List DO → List (Nat × RP)
  | i, o :: os, D :: Ds => bif L i then putΓ (gam Γ0 L χ (i + 1) os Ds) o.dst (D.φ (D.deps.map χ) (χ i)) else gam Γ0 L χ (i + 1) os Ds
  | _, _, _ => Γ0

def setAll : List Nat → List OB → List OB → List OB
  | k :: ks, o :: os, Ω => setAll ks os (Ω.set k o)
  | _, _, Ω => Ω

def omg (L : Nat → Bool) (χ : Nat → XU) : Nat → List DO → List OB → List OB
  | i, D :: Ds, Ω => omg L χ (i + 1) Ds (bif L i then setAll D.uk (D.up (D.deps.map χ) (χ i)) Ω else Ω)
  | _, [], Ω => Ω

/-! ### lemmas -/
theorem setAll_out {j : Nat} : ∀ {ks : List Nat} {os Ω : List OB}, j ∉ ks → (setAll ks os Ω)[j]? = Ω[j]?
  | [], _, _, _ => by simp [setAll]
  | _ :: _, [], _, _ => by simp [setAll]
  | k :: ks, o :: os, Ω, h => by
    simp only [List.mem_cons, not_or] at h
    simp only [setAll]
    rw [setAll_out h.2, List.getElem?_set_ne (Ne.symm h.1)]

theorem setAll_at {j : Nat} : ∀ {ks : List Nat} {os Ω Ω' : List OB}, Ω[j]? = Ω'[j]? → (setAll ks os Ω)[j]? = (setAll ks os Ω')[j]?
  | [], _, _, _, h => by simpa [setAll] using h
  | _ :: _, [], _, _, h => by simpa [setAll] using h
  | k :: ks, o :: os, Ω, Ω', h => by
    simp only [setAll]
    refine setAll_at ?_
    by_cases e : k = j
    · subst e
      have : k < Ω.length ↔ k < Ω'.length := by
        constructor <;> intro hk <;> refine Classical.byContradiction fun hn => ?_
        · rw [List.getElem?_eq_getElem hk, List.getElem?_eq_none (by omega)] at h; cases h
        · rw [List.getElem?_eq_getElem hk, List.getElem?_eq_none (by omega)] at h; cases h
      simp only [List.getElem?_set_self']
      by_cases hk : k < Ω.length
      · rw [List.getElem?_eq_getElem hk, List.getElem?_eq_getElem (this.1 hk)]; rfl
      · rw [List.getElem?_eq_none (by omega), List.getElem?_eq_none (by have := mt this.2 hk; omega)]
    · rw [List.getElem?_set_ne e, List.getElem?_set_ne e]; exact h

theorem set_comm {k j : Nat} {o p : OB} {Ω : List OB} (h : k ≠ j) : (Ω.set k o).set j p = (Ω.set j p).set k o := List.set_comm _ _ h

theorem setAll_set {k : Nat} {o : OB} : ∀ {ks : List Nat} {os Ω : List OB}, k ∉ ks → setAll ks os (Ω.set k o) = (setAll ks os Ω).set k o
  | [], _, _, _ => by simp [setAll]
  | _ :: _, [], _, _ => by simp [setAll]
  | j :: ks, p :: os, Ω, h => by
    simp only [List.mem_cons, not_or] at h
    simp only [setAll]
    rw [set_comm h.1, setAll_set h.2]

theorem setAll_comm : ∀ {ks js : List Nat} {os ps Ω : List OB}, (∀ k ∈ ks, k ∉ js) → setAll js ps (setAll ks os Ω) = setAll ks os (setAll js ps Ω)
  | [], _, _, _, _, _ => by simp [setAll]
  | _ :: _, _, [], _, _, _ => by simp [setAll]
  | k :: ks, js, o :: os, ps, Ω, h => by
    simp only [setAll]
    rw [setAll_comm (fun x hx => h x (List.mem_cons_of_mem _ hx)), setAll_set (h k (by simp))]

theorem omg_comm {L : Nat → Bool} {χ : Nat → XU} {ks : List Nat} {os : List OB} : ∀ {Ds : List DO} {s : Nat} {Ω : List OB},
    (∀ k D, Ds[k]? = some D → L (s + k) = true → ∀ x ∈ ks, x ∉ D.uk) → omg L χ s Ds (setAll ks os Ω) = setAll ks os (omg L χ s Ds Ω)
  | [], _, _, _ => rfl
  | D :: Ds, s, Ω, h => by
    simp only [omg]
    have hr : ∀ k D', Ds[k]? = some D' → L (s + 1 + k) = true → ∀ x ∈ ks, x ∉ D'.uk := fun k D' hk hl => h (k + 1) D' (by simpa using hk) (by rw [← hl]; congr 1; omega)
    cases hl : L s with
    | false => simp only [cond_false]; exact omg_comm hr
    | true =>
      simp only [cond_true]
      rw [setAll_comm (fun x hx => h 0 D rfl hl x hx), omg_comm hr]

theorem omg_agree {χ : Nat → XU} {j : Nat} {L L2 : Nat → Bool} : ∀ {Ds : List DO} {s : Nat} {Ω Ω' : List OB},
    (∀ k D, Ds[k]? = some D → j ∈ D.uk → L (s + k) = L2 (s + k)) → Ω[j]? = Ω'[j]? → (omg L χ s Ds Ω)[j]? = (omg L2 χ s Ds Ω')[j]?
  | [], _, _, _, _, h => h
  | D :: Ds, s, Ω, Ω', hl, h => by
    simp only [omg]
    refine omg_agree (fun k D' hk hj => by have := hl (k + 1) D' (by simpa using hk) hj; rwa [show s + (k + 1) = s + 1 + k from by omega] at this) ?_
    by_cases hj : j ∈ D.uk
    · have := hl 0 D rfl hj
      simp only [Nat.add_zero] at this
      rw [this]
      cases L2 s with
      | true => exact setAll_at h
      | false => exact h
    · have e1 : ∀ (b : Bool) (os Ω : List OB), (bif b then setAll D.uk os Ω else Ω)[j]? = Ω[j]? := fun b os Ω => by
        cases b with
        | true => exact setAll_out hj
        | false => rfl
      rw [e1, e1]; exact h

/-- one more operation is done -/
theorem omg_add {L : Nat → Bool} {χ : Nat → XU} {i : Nat} {u : XU} : ∀ {Ds : List DO} {s : Nat} {Ω : List OB} {D : DO}, Ds[i - s]? = some D → s ≤ i → L i = false → i ∉ D.deps →
    (∀ k D', Ds[k]? = some D' → L (s + k) = true → i ∉ D'.deps) → (∀ k D', Ds[k]? = some D' → L (s + k) = true → i < s + k → ∀ x ∈ D.uk, x ∉ D'.uk) →
    omg (fun k => L k || Nat.beq k i) (fun k => bif Nat.beq k i then u else χ k) s Ds Ω = setAll D.uk (D.up (D.deps.map χ) u) (omg L χ s Ds Ω)
  | [], s, Ω, D, h, _, _, _, _, _ => by simp at h
  | D0 :: Ds, s, Ω, D, h, hs, hL, hself, hd, hu => by
    have hmap : ∀ D' : DO, i ∉ D'.deps → D'.deps.map (fun k => bif Nat.beq k i then u else χ k) = D'.deps.map χ := fun D' hD => List.map_congr_left fun k hk => by
      rw [beq_ne (fun e : k = i => hD (e ▸ hk))]; rfl
    have hd' : ∀ k D', Ds[k]? = some D' → L (s + 1 + k) = true → i ∉ D'.deps := fun k D' hk hl => hd (k + 1) D' (by simpa using hk) (by rw [← hl]; congr 1; omega)
    by_cases e : s = i
    · subst e
      simp only [Nat.sub_self, List.getElem?_cons_zero, Option.some.injEq] at h
      subst h
      simp only [omg, hL, Nat.beq_refl, Bool.or_true, cond_true, cond_false]
      rw [hmap D0 hself]
      have hc := omg_comm (L := L) (χ := χ) (ks := D0.uk) (os := D0.up (D0.deps.map χ) u) (Ds := Ds) (s := s + 1) (Ω := Ω) fun k D' hk hl x hx =>
        hu (k + 1) D' (by simpa using hk) (by rw [← hl]; congr 1; omega) (by omega) x hx
      rw [← hc]
      -- behind i nothing is new
      have : ∀ {Ds : List DO} {q : Nat} {Ω : List OB}, s < q → (∀ k D', Ds[k]? = some D' → L (q + k) = true → s ∉ D'.deps) →
          omg (fun k => L k || Nat.beq k s) (fun k => bif Nat.beq k s then u else χ k) q Ds Ω = omg L χ q Ds Ω := by
        intro Ds
        induction Ds with
        | nil => intros; rfl
        | cons D1 Ds ih =>
          intro q Ω hq hdd
          have hne : Nat.beq q s = false := beq_ne (by omega)
          simp only [omg, hne, Bool.or_false, cond_false]
          rw [ih (by omega) fun k D' hk hl => hdd (k + 1) D' (by simpa using hk) (by rw [← hl]; congr 1; omega)]
          cases hl : L q with
          | false => rfl
          | true => rw [hmap D1 (hdd 0 D1 rfl hl)]
      exact this (by omega) hd'
    · have hlt : s < i := by omega
      have hne : Nat.beq s i = false := beq_ne e
      simp only [omg, hne, Bool.or_false, cond_false]
      have h' : Ds[i - (s + 1)]? = some D := by
        rw [show i - s = (i - (s + 1)) + 1 from by omega] at h; simpa using h
      have hu' : ∀ k D', Ds[k]? = some D' → L (s + 1 + k) = true → i < s + 1 + k → ∀ x ∈ D.uk, x ∉ D'.uk := fun k D' hk hl hk2 => hu (k + 1) D' (by simpa using hk) (by rw [← hl]; congr 1; omega) (by omega)
      cases hl : L s with
      | false => simp only [cond_false]; exact omg_add h' (by omega) hL hself hd' hu'
      | true => simp only [cond_true]; rw [hmap D0 (hd 0 D0 rfl hl)]; exact omg_add h' (by omega) hL hself hd' hu'

theorem lk_putΓ {d : Option Nat} {φ : RP} {t : Nat} : lk (putΓ Γ d φ) t = if d = some t then some φ else lk Γ t := by
  cases d with
  | none => simp [putΓ]
  | some d =>
    simp only [putΓ, Option.some.injEq]
    by_cases e : d = t
    · subst e; rw [lk_cons_eq, if_pos rfl]
    · rw [lk_cons_ne e, if_neg e]

theorem gam_agree {Γ0 : List (Nat × RP)} {χ : Nat → XU} {t : Nat} {L L2 : Nat → Bool} : ∀ {os : List Oper} {Ds : List DO} {s : Nat},
    (∀ k o, os[k]? = some o → o.dst = some t → L (s + k) = L2 (s + k)) → lk (gam Γ0 L χ s os Ds) t = lk (gam Γ0 L2 χ s os Ds) t
  | [], _, _, _ => by simp [gam]
  | _ :: _, [], _, _ => by simp [gam]
  | o :: os, D :: Ds, s, h => by
    have hr := gam_agree (Γ0 := Γ0) (χ := χ) (os := os) (Ds := Ds) (s := s + 1) fun k o' hk hd => by
      have := h (k + 1) o' (by simpa using hk) hd
      have e0 : s + (k + 1) = s + 1 + k := by omega
      exact e0 ▸ this
    have e1 : ∀ (b : Bool) (G : List (Nat × RP)) φ, lk (bif b then putΓ G o.dst φ else G) t = if b = true ∧ o.dst = some t then some φ else lk G t := fun b G φ => by
      cases b with
      | true => simp only [cond_true, lk_putΓ, true_and]
      | false => simp
    simp only [gam, e1]
    by_cases hd : o.dst = some t
    · have := h 0 o rfl hd
      simp only [Nat.add_zero] at this
      rw [this, hr]
    · simp only [hd, and_false, if_false]; exact hr

theorem gam_add {Γ0 : List (Nat × RP)} {L : Nat → Bool} {χ : Nat → XU} {i : Nat} {u : XU} {t : Nat} {ψ : RP} : ∀ {os : List Oper} {Ds : List DO} {s : Nat} {o : Oper} {D : DO}, os[i - s]? = some o → Ds[i - s]? = some D → s ≤ i → L i = false →
    i ∉ D.deps → (∀ k D', Ds[k]? = some D' → L (s + k) = true → i ∉ D'.deps) → (∀ k o', os[k]? = some o' → s + k ≠ i → o.dst ≠ none → o'.dst ≠ o.dst) →
    lk (gam Γ0 (fun k => L k || Nat.beq k i) (fun k => bif Nat.beq k i then u else χ k) s os Ds) t = some ψ → lk (putΓ (gam Γ0 L χ s os Ds) o.dst (D.φ (D.deps.map χ) u)) t = some ψ
  | [], _, s, o, D, h, _, _, _, _, _, _, _ => by simp at h
  | _ :: _, [], s, o, D, _, h, _, _, _, _, _, _ => by simp at h
  | o0 :: os, D0 :: Ds, s, o, D, ho, hD, hs, hL, hself, hd, hdst, h => by
    have hmap : ∀ D' : DO, i ∉ D'.deps → D'.deps.map (fun k => bif Nat.beq k i then u else χ k) = D'.deps.map χ := fun D' hD => List.map_congr_left fun k hk => by
      rw [beq_ne (fun e : k = i => hD (e ▸ hk))]; rfl
    have hd' : ∀ k D', Ds[k]? = some D' → L (s + 1 + k) = true → i ∉ D'.deps := fun k D' hk hl => hd (k + 1) D' (by simpa using hk) (by rw [← hl]; congr 1; omega)
    by_cases e : s = i
    · subst e
      simp only [Nat.sub_self, List.getElem?_cons_zero, Option.some.injEq] at ho hD
      subst ho; subst hD
      have tail : ∀ {os : List Oper} {Ds : List DO} {q : Nat}, s < q → (∀ k D', Ds[k]? = some D' → L (q + k) = true → s ∉ D'.deps) →
          gam Γ0 (fun k => L k || Nat.beq k s) (fun k => bif Nat.beq k s then u else χ k) q os Ds = gam Γ0 L χ q os Ds := by
        intro os
        induction os with
        | nil => intros; simp [gam]
        | cons o1 os ih =>
          intro Ds q hq hdd
          cases Ds with
          | nil => simp [gam]
          | cons D1 Ds =>
            have hne : Nat.beq q s = false := beq_ne (by omega)
            simp only [gam, hne, Bool.or_false, cond_false]
            rw [ih (by omega) fun k D' hk hl => hdd (k + 1) D' (by simpa using hk) (by rw [← hl]; congr 1; omega)]
            cases hl : L q with
            | false => rfl
            | true => rw [hmap D1 (hdd 0 D1 rfl hl)]
      simp only [gam, hL, Nat.beq_refl, Bool.or_true, cond_true, cond_false] at h ⊢
      rwa [tail (by omega) hd', hmap D0 hself] at h
    · have hne : Nat.beq s i = false := beq_ne e
      have ho' : os[i - (s + 1)]? = some o := by rw [show i - s = (i - (s + 1)) + 1 from by omega] at ho; simpa using ho
      have hD' : Ds[i - (s + 1)]? = some D := by rw [show i - s = (i - (s + 1)) + 1 from by omega] at hD; simpa using hD
      have hdst' : ∀ k o', os[k]? = some o' → s + 1 + k ≠ i → o.dst ≠ none → o'.dst ≠ o.dst := fun k o' hk hne => hdst (k + 1) o' (by simpa using hk) (by omega)
      have ih := gam_add (Γ0 := Γ0) (χ := χ) (u := u) (t := t) (ψ := ψ) ho' hD' (by omega) hL hself hd' hdst'
      simp only [gam, hne, Bool.or_false, cond_false] at h ⊢
      cases hl : L s with
      | false => rw [hl] at h; exact ih h
      | true =>
        rw [hl] at h
        simp only [cond_true] at h ⊢
        rw [hmap D0 (hd 0 D0 rfl hl)] at h
        rw [lk_putΓ] at h ⊢
        rw [lk_putΓ]
        by_cases h1 : o.dst = some t
        · have h0 := hdst 0 o0 rfl (by omega) (by rw [h1]; simp)
          rw [if_neg (fun h2 => h0 (by rw [h2, h1]))] at h
          rw [if_pos h1]
          have := ih h
          rwa [lk_putΓ, if_pos h1] at this
        · rw [if_neg h1]
          by_cases h2 : o0.dst = some t
          · rw [if_pos h2] at h ⊢; exact h
          · rw [if_neg h2] at h ⊢
            have := ih h
            rwa [lk_putΓ, if_neg h1] at this

/-! ### the region -/
def meets (a b : List Nat) : Bool := a.any (hasN b)
theorem meets_false {a b : List Nat} (h : meets a b = false) : ∀ x ∈ a, x ∉ b := fun x hx hb => by
  have : meets a b = true := List.any_eq_true.2 ⟨x, hx, hasN_iff.2 hb⟩
  rw [h] at this; cases this

def okOne (ops : Array Oper) (Ds : List DO) (i : Nat) (o : Oper) (D : DO) : Bool :=
  o.guard.isNone && (predsOf o).all (hasN D.cl) &&
  D.cl.all (fun e => Nat.blt e i && (hasN (predsOf o) e || (predsOf o).any fun p => match Ds[p]? with | some Dp => hasN Dp.cl e | none => false)) &&
  D.deps.all (hasN D.cl) && D.uk.all (hasN D.tch) &&
  (Ds.zipIdx.all fun (Dk, k) => !(Nat.blt k i) || !(meets Dk.uk D.tch || meets Dk.tch D.uk) || hasN D.cl k) &&
  (ops.toList.zipIdx.all fun (ok, k) => Nat.beq k i || (match o.dst, ok.dst with | some a, some b => !Nat.beq a b | _, _ => true))

def okI (ops : Array Oper) (Ds : List DO) : Bool :=
  okDraw ops [] && Nat.beq ops.size Ds.length && (ops.toList.zipIdx.all fun (o, i) => match Ds[i]? with | some D => okOne ops Ds i o D | none => false)

def TchEq (Ω pre : List OB) : List Nat → Prop
  | [] => True
  | j :: js => Ω[j]? = pre[j]? ∧ TchEq Ω pre js

theorem tchEq {Ω pre : List OB} : ∀ {js : List Nat}, (∀ j ∈ js, Ω[j]? = pre[j]?) → TchEq Ω pre js
  | [], _ => trivial
  | j :: _, h => ⟨h j (by simp), tchEq fun k hk => h k (List.mem_cons_of_mem _ hk)⟩

/-- the slots that an operation reads, as the operations ahead of it leave them -/
def gamI (Γ0 : List (Nat × RP)) (ops : Array Oper) (lo : List Oper) (Ds : List DO) (χ : Nat → XU) (o : Oper) (D : DO) : List (Nat × RP) :=
  (o.looksAt ops).filterMap fun t => (lk (gam Γ0 (hasN D.cl) χ 0 lo Ds) t).map fun φ => (t, φ)

theorem gamI_lk {G : List (Nat × RP)} {t : Nat} {ψ : RP} : ∀ {ts : List Nat}, lk (ts.filterMap fun t => (lk G t).map fun φ => (t, φ)) t = some ψ → t ∈ ts ∧ lk G t = some ψ
  | [], h => by simp [lk] at h
  | s :: ts, h => by
    simp only [List.filterMap_cons] at h
    cases hs : lk G s with
    | none => rw [hs] at h; obtain ⟨h1, h2⟩ := gamI_lk (ts := ts) h; exact ⟨List.mem_cons_of_mem _ h1, h2⟩
    | some φ =>
      rw [hs] at h
      simp only [Option.map_some] at h
      by_cases e : s = t
      · subst e; rw [lk_cons_eq] at h; cases h; exact ⟨by simp, hs⟩
      · rw [lk_cons_ne e] at h; obtain ⟨h1, h2⟩ := gamI_lk (ts := ts) h; exact ⟨List.mem_cons_of_mem _ h1, h2⟩

def OkAll (P : Program) (E : Env) (N : Nat) (ops : Array Oper) (Γ0 : List (Nat × RP)) (Ω0 : List OB) (lo : List Oper) (Da : List DO) : Nat → List Oper → List DO → Prop
  | i, o :: os, D :: Ds =>
    (∀ χ Ω, TchEq Ω (omg (Nat.blt · i) χ 0 Da Ω0) D.tch → St P E N o.op o.type (gamI Γ0 ops lo Da χ o D) Ω D.js (D.φ (D.deps.map χ)) (fun u => setAll D.uk (D.up (D.deps.map χ) u) Ω)) ∧
    (∀ d, o.dst = some d → Nat.blt d N = true) ∧ OkAll P E N ops Γ0 Ω0 lo Da (i + 1) os Ds
  | _, [], [] => True
  | _, _, _ => False

theorem OkAll.get {ops : Array Oper} {Γ0 : List (Nat × RP)} {Ω0 : List OB} {lo : List Oper} {Da : List DO} : ∀ {os : List Oper} {Ds : List DO} {s : Nat}, OkAll P E N ops Γ0 Ω0 lo Da s os Ds → ∀ {k o D}, os[k]? = some o → Ds[k]? = some D →
    (∀ χ Ω, TchEq Ω (omg (Nat.blt · (s + k)) χ 0 Da Ω0) D.tch → St P E N o.op o.type (gamI Γ0 ops lo Da χ o D) Ω D.js (D.φ (D.deps.map χ)) (fun u => setAll D.uk (D.up (D.deps.map χ) u) Ω)) ∧
    (∀ d, o.dst = some d → Nat.blt d N = true)
  | [], [], _, _, k, o, D, h, _ => by simp at h
  | o0 :: os, D0 :: Ds, s, ⟨h1, h2, h3⟩, k, o, D, ho, hD => by
    cases k with
    | zero => simp at ho hD; subst ho; subst hD; exact ⟨h1, h2⟩
    | succ k =>
      have := h3.get (k := k) (by simpa using ho) (by simpa using hD)
      rwa [show s + 1 + k = s + (k + 1) from by omega] at this
  | [], _ :: _, _, h, _, _, _, _, _ => h.elim
  | _ :: _, [], _, h, _, _, _, _, _ => h.elim

theorem ow_room (k : Nat) : ow (Ω ++ List.replicate k dead) = ow Ω := by
  have : ow (List.replicate k dead) = [] := by
    induction k with
    | zero => rfl
    | succ k ih => simp [List.replicate_succ, ow, dead]
  rw [ow_append, this, List.append_nil]

theorem Sat.room {a : Act} {w : World} (hs : Sat E N Γ Ω a w) (k : Nat) : Sat E N Γ (Ω ++ List.replicate k dead) a w := by
  have e := ow_room (Ω := Ω) k
  have ef : fr E (Ω ++ List.replicate k dead) = fr E Ω := by funext x; simp only [fr, e]
  refine ⟨hs.sz, hs.df, by rw [ef]; exact hs.sl, ?_, by rw [e]; exact hs.nd, by rw [e]; exact hs.bd, hs.kp, hs.fs⟩
  rw [ef]
  intro o ho
  rcases List.mem_append.1 ho with h | h
  · exact hs.ob o h
  · rw [(List.mem_replicate.1 h).2]; trivial

theorem ref_drawI {id : Nat} {lo : List Oper} (k : Nat) (Ds : List DO) (ΓF : (Nat → XU) → List (Nat × RP)) (ΩF : (Nat → XU) → List OB) (hm : P.follows .mixedOrders = true) (hok : okI lo.toArray Ds = true)
    (ok : OkAll P E N lo.toArray Γ (Ω ++ List.replicate k dead) lo Ds 0 lo Ds)
    (hΓ : ∀ χ, SubΓ (gam Γ (fun _ => true) χ 0 lo Ds) (ΓF χ)) (hΩ : ∀ χ, omg (fun _ => true) χ 0 Ds (Ω ++ List.replicate k dead) = ΩF χ)
    (h : ∀ χ, RefE E N .normal m (ΓF χ) (ΩF χ) K) : Ref P E N m (.region id lo.toArray true) Γ Ω K := by
  intro r hr a w hs
  refine wp_region_any hm ?_
  simp only [okI, Bool.and_eq_true, List.all_eq_true] at hok
  obtain ⟨⟨hok1, hlen⟩, hall⟩ := hok
  have hlen' : lo.length = Ds.length := by have := Nat.eq_of_beq_eq_true hlen; simpa using this
  have one : ∀ i o D, lo[i]? = some o → Ds[i]? = some D → okOne lo.toArray Ds i o D = true := fun i (o : Oper) (D : DO) ho hD => by
    have := hall (o, i) (List.mk_mem_zipIdx_iff_getElem?.2 (by simpa using ho))
    simpa [hD] using this
  have dof : ∀ i o, lo[i]? = some o → ∃ D, Ds[i]? = some D := fun i o ho => by
    have hi := (List.getElem?_eq_some_iff.1 ho).1
    exact ⟨_, List.getElem?_eq_getElem (by omega)⟩
  have oof : ∀ i D, Ds[i]? = some D → ∃ o, lo[i]? = some o := fun i D hD => by
    have hi := (List.getElem?_eq_some_iff.1 hD).1
    exact ⟨_, List.getElem?_eq_getElem (by omega)⟩
  -- the parts of the check
  have c_guard : ∀ i (o : Oper) (D : DO), lo[i]? = some o → Ds[i]? = some D → o.guard = none := fun i (o : Oper) (D : DO) ho hD => by
    have := one i o D ho hD; simp only [okOne, Bool.and_eq_true] at this
    exact Option.isNone_iff_eq_none.1 this.1.1.1.1.1.1
  have c_pre : ∀ i (o : Oper) (D : DO), lo[i]? = some o → Ds[i]? = some D → ∀ e ∈ predsOf o, e ∈ D.cl := fun i o D ho hD e he => by
    have := one i o D ho hD; simp only [okOne, Bool.and_eq_true, List.all_eq_true] at this
    exact hasN_iff.1 (this.1.1.1.1.1.2 e he)
  have c_cl : ∀ i (o : Oper) (D : DO), lo[i]? = some o → Ds[i]? = some D → ∀ e ∈ D.cl, e < i ∧ (e ∈ predsOf o ∨ ∃ p ∈ predsOf o, ∃ Dp, Ds[p]? = some Dp ∧ e ∈ Dp.cl) := fun i o D ho hD e he => by
    have := one i o D ho hD; simp only [okOne, Bool.and_eq_true, List.all_eq_true] at this
    obtain ⟨h1, h2⟩ := this.1.1.1.1.2 e he
    refine ⟨by simpa [Nat.blt_eq] using h1, ?_⟩
    simp only [Bool.or_eq_true, List.any_eq_true] at h2
    rcases h2 with h2 | ⟨p, hp, h2⟩
    · exact .inl (hasN_iff.1 h2)
    · refine .inr ⟨p, hp, ?_⟩
      cases hDp : Ds[p]? with
      | none => rw [hDp] at h2; cases h2
      | some Dp => rw [hDp] at h2; exact ⟨Dp, rfl, hasN_iff.1 h2⟩
  have c_deps : ∀ i (o : Oper) (D : DO), lo[i]? = some o → Ds[i]? = some D → ∀ e ∈ D.deps, e ∈ D.cl := fun i o D ho hD e he => by
    have := one i o D ho hD; simp only [okOne, Bool.and_eq_true, List.all_eq_true] at this
    exact hasN_iff.1 (this.1.1.1.2 e he)
  have c_uk : ∀ i (o : Oper) (D : DO), lo[i]? = some o → Ds[i]? = some D → ∀ e ∈ D.uk, e ∈ D.tch := fun i o D ho hD e he => by
    have := one i o D ho hD; simp only [okOne, Bool.and_eq_true, List.all_eq_true] at this
    exact hasN_iff.1 (this.1.1.2 e he)
  have c_obj : ∀ i (D : DO), Ds[i]? = some D → ∀ k (Dk : DO), Ds[k]? = some Dk → k < i → ∀ j, (j ∈ Dk.uk ∧ j ∈ D.tch ∨ j ∈ Dk.tch ∧ j ∈ D.uk) → k ∈ D.cl := fun i D hD k Dk hDk hki j hj => by
    obtain ⟨o, ho⟩ := oof i D hD
    have := one i o D ho hD; simp only [okOne, Bool.and_eq_true, List.all_eq_true] at this
    have := this.1.2 (Dk, k) (List.mk_mem_zipIdx_iff_getElem?.2 hDk)
    simp only [Bool.or_eq_true] at this
    rcases this with (h1 | h1) | h1
    · rw [show Nat.blt k i = true from by simpa [Nat.blt_eq] using hki] at h1; cases h1
    · exfalso
      simp only [Bool.not_eq_true', Bool.or_eq_false_iff] at h1
      rcases hj with hj | hj
      · exact meets_false h1.1 j hj.1 hj.2
      · exact meets_false h1.2 j hj.1 hj.2
    · exact hasN_iff.1 h1
  have c_dst : ∀ i (o : Oper) (D : DO), lo[i]? = some o → Ds[i]? = some D → ∀ k (o' : Oper), lo[k]? = some o' → k ≠ i → o.dst ≠ none → o'.dst ≠ o.dst := fun i o D ho hD k o' ho' hki hn he => by
    have := one i o D ho hD; simp only [okOne, Bool.and_eq_true, List.all_eq_true] at this
    have := this.2 (o', k) (List.mk_mem_zipIdx_iff_getElem?.2 (by simpa using ho'))
    rw [beq_ne hki] at this
    cases hd : o.dst with
    | none => exact hn hd
    | some d => rw [he, hd] at this; simp at this
  -- what is done is closed
  have closed : ∀ l : Nat → Bool, (∀ (i : Nat) (o : Oper), l i = true → lo[i]? = some o → ∀ e ∈ predsOf o, l e = true) → ∀ (i : Nat) (o : Oper) (D : DO), lo[i]? = some o → Ds[i]? = some D → (∀ e ∈ predsOf o, l e = true) → ∀ e ∈ D.cl, l e = true := by
    intro l hl i
    induction i using Nat.strongRecOn with
    | _ i ih =>
      intro o D ho hD hp e he
      obtain ⟨hlt, h1 | ⟨p, hp1, Dp, hDp, h2⟩⟩ := c_cl i o D ho hD e he
      · exact hp e h1
      · obtain ⟨op', hop⟩ := oof p Dp hDp
        have hpi := (c_cl i o D ho hD p (c_pre i o D ho hD p hp1)).1
        exact ih p hpi op' Dp hop hDp (hl p op' (hp p hp1) hop) e h2
  let L : Array Bool → Nat → Bool := fun l i => l.getD i false
  suffices main : ∀ n (l : Array Bool) (χ : Nat → XU) a w, cntF l = n → l.size = lo.length → (∀ (i : Nat) (o : Oper), L l i = true → lo[i]? = some o → ∀ e ∈ predsOf o, L l e = true) →
      Sat E N (gam Γ (L l) χ 0 lo Ds) (omg (L l) χ 0 Ds (Ω ++ List.replicate k dead)) a w → wpAny P .any lo.toArray (K r) n l a w by
    have hfalse : ∀ i, L (Array.replicate lo.length false) i = false := fun i => by
      simp only [L, Array.getD]
      split
      · simp
      · rfl
    have hg : ∀ (os : List Oper) (Ds : List DO) s χ, gam Γ (L (Array.replicate lo.length false)) χ s os Ds = Γ := by
      intro os
      induction os with
      | nil => intros; simp [gam]
      | cons o os ih =>
        intro Ds s χ
        cases Ds with
        | nil => simp [gam]
        | cons D Ds => simp only [gam, hfalse, cond_false]; exact ih _ _ _
    have ho : ∀ (Ds : List DO) s χ Ω, omg (L (Array.replicate lo.length false)) χ s Ds Ω = Ω := by
      intro Ds
      induction Ds with
      | nil => intros; rfl
      | cons D Ds ih => intro s χ Ω; simp only [omg, hfalse, cond_false]; exact ih _ _ _
    have hs' : Sat E N Γ Ω a { w with drawn := w.drawn + 1 } := hs.ext ⟨rfl, rfl, rfl, by first | exact Nat.le_refl _ | exact Nat.le_add_right _ _⟩ (Nat.le_refl _) fun _ _ => rfl
    have := main lo.length (Array.replicate lo.length false) (fun _ => .none) a _ (by simp [cntF]) (by simp) (fun i o hi => by rw [hfalse] at hi; cases hi) (by rw [hg, ho]; exact hs'.room k)
    simpa using this
  -- all is done
  have fin : ∀ (l : Array Bool) (χ : Nat → XU) a w, (∀ i, i < lo.length → L l i = true) →
      Sat E N (gam Γ (L l) χ 0 lo Ds) (omg (L l) χ 0 Ds (Ω ++ List.replicate k dead)) a w → K r .normal a w := by
    intro l χ a w hl hs
    refine h χ r hr a w ?_
    have e1 : omg (L l) χ 0 Ds (Ω ++ List.replicate k dead) = ΩF χ := by
      rw [← hΩ χ]
      refine List.ext_getElem? fun j => omg_agree (fun q D hq _ => ?_) rfl
      rw [Nat.zero_add]; exact hl q (by rw [hlen']; exact (List.getElem?_eq_some_iff.1 hq).1)
    rw [e1] at hs
    refine hs.weak fun t φ ht => ?_
    rw [gam_agree (L2 := fun _ => true) fun q o hq _ => by rw [Nat.zero_add]; exact hl q (List.getElem?_eq_some_iff.1 hq).1]
    exact (hΓ χ).lk t φ ht
  intro n
  induction n with
  | zero =>
    intro l χ a w hn hsz hcl hs
    have hl : ∀ i, i < lo.length → L l i = true := fun i hi => cntF_zero hn (by omega)
    refine ⟨List.eq_nil_iff_forall_not_mem.2 fun i hi => ?_, fin l χ a w hl hs⟩
    obtain ⟨h1, o, ho, _⟩ := (ready_iff (by simpa using hsz)).1 hi
    exact h1 (hl i (by simpa using (Array.getElem?_eq_some_iff.1 ho).1))
  | succ n ih =>
    intro l χ a w hn hsz hcl hs
    refine ⟨fun h0 => fin l χ a w (fun i hi => ready_nil hok1 (by simpa using hsz) h0 i (by simpa using hi)) hs, fun i hi => ?_⟩
    obtain ⟨hiL, o, ho, hpre⟩ := (ready_iff (by simpa using hsz)).1 hi
    have hiL' : L l i = false := by
      cases hh : L l i
      · rfl
      · exact absurd hh hiL
    have ho' : lo[i]? = some o := by simpa using ho
    obtain ⟨D, hD⟩ := dof i o ho'
    have hpre' : ∀ e ∈ predsOf o, L l e = true := fun e he => by
      obtain ⟨e2, he2, heq⟩ := List.mem_map.1 he
      obtain ⟨he3, he4⟩ := List.mem_filter.1 he2
      exact heq ▸ hpre e2 (Array.mem_toList_iff.1 he3) he4
    have hclL : ∀ e ∈ D.cl, L l e = true := closed (L l) hcl i o D ho' hD hpre'
    -- whoever comes behind i is not done yet
    have later : ∀ k Dk, Ds[k]? = some Dk → i ∈ Dk.cl → L l k = false := fun k Dk hDk hik => by
      cases hk : L l k with
      | false => rfl
      | true =>
        obtain ⟨ok', hok'⟩ := oof k Dk hDk
        have := closed (L l) hcl k ok' Dk hok' hDk (hcl k ok' hk hok') i hik
        rw [hiL'] at this; cases this
    obtain ⟨hst, hdN⟩ := ok.get ho' hD
    have hT : TchEq (omg (L l) χ 0 Ds (Ω ++ List.replicate k dead)) (omg (Nat.blt · (0 + i)) χ 0 Ds (Ω ++ List.replicate k dead)) D.tch := tchEq fun j hj => omg_agree (fun q Dq hq hjq => by
      simp only [Nat.zero_add]
      by_cases hqi : q < i
      · rw [show Nat.blt q i = true from by simpa [Nat.blt_eq] using hqi]
        exact hclL q (c_obj i D hD q Dq hq hqi j (.inl ⟨hjq, hj⟩))
      · have hb : Nat.blt q i = false := by
          cases hh : Nat.blt q i
          · rfl
          · exact absurd (by simpa [Nat.blt_eq] using hh) hqi
        rw [hb]
        by_cases e : q = i
        · rw [e]; exact hiL'
        · exact later q Dq hq (c_obj q Dq hq i D hD (by omega) j (.inr ⟨hj, hjq⟩))) rfl
    have hst' := (hst χ _ hT).frame (Γ := gam Γ (L l) χ 0 lo Ds) fun t ψ ht => by
      obtain ⟨h1, h2⟩ := gamI_lk ht
      rw [← h2]
      refine gam_agree fun q oq hq hdq => ?_
      rw [Nat.zero_add]
      by_cases e : q = i
      · subst e
        rw [hiL']
        cases hh : hasN D.cl q
        · rfl
        · exact absurd (c_cl q o D ho' hD q (hasN_iff.1 hh)).1 (Nat.lt_irrefl _)
      · rcases okDraw_any hok1 (i := q) (j := i) (by simpa using hq) ho hdq e (.inl h1) with ⟨e2, he2, hb2, heq⟩ | ⟨e2, he2, hb2, heq⟩
        · have hp : q ∈ predsOf o := List.mem_map.2 ⟨e2, List.mem_filter.2 ⟨Array.mem_toList_iff.2 he2, hb2⟩, heq⟩
          rw [hpre' q hp, hasN_iff.2 (c_pre i o D ho' hD q hp)]
        · obtain ⟨Dq, hDq⟩ := dof q oq hq
          have hp : i ∈ predsOf oq := List.mem_map.2 ⟨e2, List.mem_filter.2 ⟨Array.mem_toList_iff.2 he2, hb2⟩, heq⟩
          have hic := c_pre q oq Dq hq hDq i hp
          rw [later q Dq hDq hic]
          cases hh : hasN D.cl q
          · rfl
          · have h3 := (c_cl i o D ho' hD q (hasN_iff.1 hh)).1
            have h4 := (c_cl q oq Dq hq hDq i hic).1
            omega
    have hg := c_guard i o D ho' hD
    unfold wpOp
    simp only [ho]
    rw [if_pos (by simp [Region.wanted, hg])]
    refine .inl ?_
    unfold Oper.wp
    refine resW.upon ?_ (hst' a w hs o rfl rfl)
    rintro v w' ⟨u, hs1, hv, he⟩
    have his : i < l.size := by rw [hsz]; exact (List.getElem?_eq_some_iff.1 ho').1
    have hL' : ∀ q, L (l.setIfInBounds i true) q = (L l q || Nat.beq q i) := fun q => by
      have := isL_set (j := q) his
      unfold isL at this
      simp only [L]
      rw [Bool.eq_iff_iff, this, Bool.or_eq_true]
      exact ⟨fun h => h.elim (fun e => .inr (by rw [e]; exact Nat.beq_refl _)) .inl, fun h => h.elim .inr fun e => .inl (Nat.eq_of_beq_eq_true e)⟩
    have hLf : L (l.setIfInBounds i true) = fun q => L l q || Nat.beq q i := funext hL'
    have hndep : i ∉ D.deps := fun hh => Nat.lt_irrefl _ (c_cl i o D ho' hD i (c_deps i o D ho' hD i hh)).1
    have hdeps : ∀ q D', Ds[q]? = some D' → L l (0 + q) = true → i ∉ D'.deps := fun q D' hq hl hh => by
      obtain ⟨oq, hoq⟩ := oof q D' hq
      have := later q D' hq (c_deps q oq D' hoq hq i hh)
      rw [Nat.zero_add] at hl
      rw [hl] at this; cases this
    refine ih (l.setIfInBounds i true) (fun q => bif Nat.beq q i then u else χ q) _ _ (by have := cntF_set his hiL; omega) (by simpa using hsz) ?_ ?_
    · intro q oq hq hoq e he
      rw [hL'] at hq ⊢
      rw [Bool.or_eq_true] at hq ⊢
      rcases hq with hq | hq
      · exact .inl (hcl q oq hq hoq e he)
      · have := Nat.eq_of_beq_eq_true hq
        subst this
        rw [ho'] at hoq; cases hoq
        exact .inl (hpre' e he)
    · rw [hLf, omg_add (D := D) (by simpa using hD) (Nat.zero_le _) hiL' hndep hdeps]
      · have hs2 : Sat E N (putΓ (gam Γ (L l) χ 0 lo Ds) o.dst (D.φ (D.deps.map χ) u)) (setAll D.uk (D.up (D.deps.map χ) u) (omg (L l) χ 0 Ds (Ω ++ List.replicate k dead))) (a.put o.dst v) w' := by
          cases hdst : o.dst with
          | none => exact hs1
          | some d => exact hs1.put (by have := hdN d hdst; simpa [Nat.blt_eq] using this) hv
        refine hs2.weak fun t ψ ht => gam_add (D := D) (by simpa using ho') (by simpa using hD) (Nat.zero_le _) hiL' hndep hdeps ?_ ht
        intro q o' hq hqi hn
        exact c_dst i o D ho' hD q o' hq (by omega) hn
      · intro q D' hq hl hiq x hx hx'
        rw [Nat.zero_add] at hl hiq
        obtain ⟨oq, hoq⟩ := oof q D' hq
        have := later q D' hq (c_obj q D' hq i D hD hiq x (.inl ⟨hx, c_uk q oq D' hoq hq x hx'⟩))
        rw [hl] at this; cases this

/-! ### rules for single operations, over objects that are known in part -/
theorem St.ofR {φ : RP} {J : List Nat} (h : Rd P E N op ty Γ Ω J φ) : St P E N op ty Γ Ω [] (fun _ : XU => φ) (fun _ => Ω) := (St.ofRd h).dec XU.U XU.hU

def Rooms (A : List OB) : List Nat → Prop
  | [] => True
  | k :: ks => A[k]? = some dead ∧ hasN ks k = false ∧ Rooms A ks

theorem Rooms.set {A : List OB} {j : Nat} {o : OB} : ∀ {ks : List Nat}, Rooms A ks → j ∉ ks → Rooms (A.set j o) ks
  | [], _, _ => trivial
  | k :: ks, ⟨h1, h2, h3⟩, hj => by
    simp only [List.mem_cons, not_or] at hj
    exact ⟨by rw [List.getElem?_set_ne hj.1]; exact h1, h2, h3.set hj.2⟩

theorem placeL_perm : ∀ {ks : List Nat} {os A : List OB}, ks.length = os.length → Rooms A ks → (ow (setAll ks os A)).Perm (ow (A ++ os))
  | [], [], A, _, _ => by simp [setAll]
  | [], _ :: _, _, h, _ => by simp at h
  | _ :: _, [], _, h, _ => by simp at h
  | k :: ks, o :: os, A, hl, ⟨h1, h2, h3⟩ => by
    simp only [setAll]
    have hk : k ∉ ks := fun h => by rw [hasN_iff.2 h] at h2; cases h2
    have e1 := placeL_perm (A := A.set k o) (by simpa using hl : ks.length = os.length) (h3.set hk)
    refine e1.trans ?_
    rw [ow_append, show A ++ o :: os = (A ++ [o]) ++ os from by simp, ow_append]
    exact (place_perm h1).append_right _

theorem setAll_mem : ∀ {ks : List Nat} {os A : List OB} {o : OB}, o ∈ setAll ks os A → o ∈ A ∨ o ∈ os
  | [], _, _, _, h => by simp only [setAll] at h; exact .inl h
  | _ :: _, [], _, _, h => by simp only [setAll] at h; exact .inl h
  | k :: ks, p :: os, A, o, h => by
    simp only [setAll] at h
    rcases setAll_mem h with h | h
    · rcases List.mem_or_eq_of_mem_set h with h | h
      · exact .inl h
      · exact .inr (by simp [h])
    · exact .inr (List.mem_cons_of_mem _ h)

theorem St.placeL {X : Type} {φ : X → RP} {A os : X → List OB} (ks : List Nat) (h : St P E N op ty Γ Ω js φ (fun x => A x ++ os x)) (hl : ∀ x, ks.length = (os x).length) (hk : ∀ x, Rooms (A x) ks) :
    St P E N op ty Γ Ω js φ (fun x => setAll ks (os x) (A x)) := by
  intro a w hs p hp ht
  refine (h a w hs p hp ht).mono ?_
  rintro v w' ⟨x, h1, h2, h3⟩
  have hperm := placeL_perm (hl x) (hk x)
  have hmem : ∀ b, b ∈ ow (setAll ks (os x) (A x)) ↔ b ∈ ow (A x ++ os x) := fun b => hperm.mem_iff
  have ef : fr E (setAll ks (os x) (A x)) = fr E (A x ++ os x) := by funext b; simp only [fr, hmem]
  refine ⟨x, ⟨h1.sz, h1.df, by rw [ef]; exact h1.sl, ?_, hperm.nodup_iff.2 h1.nd, fun b hb => h1.bd b ((hmem b).1 hb), h1.kp, h1.fs⟩, by rw [ef]; exact h2, h3.size, h3.keep, fun b hb hm => h3.own b hb ((hmem b).1 hm)⟩
  rw [ef]
  intro y hy
  exact h1.ob y (List.mem_append.2 (setAll_mem hy))

def ObjsAt (Ω : List OB) : List Nat → List OB → Prop
  | [], [] => True
  | j :: js, o :: os => Ω[j]? = some o ∧ hasN js j = false ∧ ObjsAt Ω js os
  | _, _ => False

theorem ObjsAt.set {Ω : List OB} {j : Nat} {o : OB} : ∀ {ks : List Nat} {os : List OB}, ObjsAt Ω ks os → j ∉ ks → ObjsAt (Ω.set j o) ks os
  | [], [], _, _ => trivial
  | k :: ks, _ :: _, ⟨h1, h2, h3⟩, hj => by
    simp only [List.mem_cons, not_or] at hj
    exact ⟨by rw [List.getElem?_set_ne hj.1]; exact h1, h2, h3.set hj.2⟩
  | [], _ :: _, h, _ => h.elim
  | _ :: _, [], h, _ => h.elim

theorem ObjsAt.picks : ∀ {js : List Nat} {Ω os : List OB}, ObjsAt Ω js os → Picks Ω js os
  | [], _, [], _ => trivial
  | j :: js, Ω, o :: os, ⟨h1, h2, h3⟩ => ⟨h1, (h3.set (fun h => by rw [hasN_iff.2 h] at h2; cases h2)).picks⟩
  | [], _, _ :: _, h => h.elim
  | _ :: _, _, [], h => h.elim

theorem delL_set {k : Nat} {o : OB} : ∀ {js : List Nat} {Ω : List OB}, k ∉ js → delL (Ω.set k o) js = (delL Ω js).set k o
  | [], _, _ => rfl
  | j :: js, Ω, h => by
    simp only [List.mem_cons, not_or] at h
    simp only [delL]
    rw [set_comm h.1, delL_set h.2]

theorem ObjsAt.puts : ∀ {js : List Nat} {Ω os os' : List OB}, ObjsAt Ω js os → js.length = os'.length → Puts (delL Ω js) js os' ∧ putL (delL Ω js) js os' = setAll js os' Ω
  | [], _, [], [], _, _ => ⟨trivial, by simp [putL, setAll, delL]⟩
  | [], _, [], _ :: _, _, h => by simp at h
  | _ :: _, _, _ :: _, [], _, h => by simp at h
  | j :: js, Ω, o :: os, p :: os', ⟨h1, h2, h3⟩, hl => by
    have hj : j ∉ js := fun h => by rw [hasN_iff.2 h] at h2; cases h2
    have e : (delL (Ω.set j dead) js).set j p = delL (Ω.set j p) js := by rw [← delL_set hj, List.set_set]
    have ih := (h3.set (o := p) hj).puts (os' := os') (by simpa using hl)
    refine ⟨⟨?_, ?_⟩, ?_⟩
    · simp only [delL]
      rw [delL_set hj]
      have hlt : ∀ {js : List Nat} {Ω : List OB}, (delL Ω js).length = Ω.length := by
        intro js
        induction js with
        | nil => intros; rfl
        | cons k js ih => intro Ω; simp only [delL]; rw [ih]; simp
      rw [List.getElem?_set_self (by rw [hlt]; exact (List.getElem?_eq_some_iff.1 h1).1)]
    · simp only [delL]; rw [e]; exact ih.1
    · simp only [delL, putL, setAll]; rw [e]; exact ih.2
  | [], _, _ :: _, _, h, _ => h.elim
  | _ :: _, _, [], _, h, _ => h.elim

theorem s_callI {X : Type} {f : FuncId} {x : Operand} {args : List Operand} {caps : List Value} {ats : Array TypeId} {φs : List RP} {js : List Nat} {Ω0 : List OB} {res : X → List RP} {Ω1 os ex : X → List OB} {ψ : X → RP}
    (hcall : ∀ args w, (callFunc f args).run P w = .ok (.enter f args) w) (hx : lkO Γ x = some (pv (.func (.func f) #[] caps.toArray)))
    (hf : FnOk P f φs Ω0 res Ω1) (hob : ObjsAt Ω js Ω0) (hex : ∀ x, Ω1 x = os x ++ ex x) (hl : ∀ x, js.length = (os x).length) (ha : ArgsOk E N Γ Ω frF (args ++ caps.map .const) φs)
    (hψ : ∀ x F w v, resH F w (res x) v → (ψ x).h F w v) :
    St P E N (.call ⟨.value x, args.toArray, ats⟩) ty Γ Ω js ψ (fun x => setAll js (os x) Ω ++ ex x) := by
  have h := s_callO (ty := ty) (ats := ats) hcall hx hf hob.picks hex (fun x => (hob.puts (hl x)).1) ha hψ
  have e : (fun x => putL (delL Ω js) js (os x) ++ ex x) = (fun x => setAll js (os x) Ω ++ ex x) := funext fun x => by rw [(hob.puts (hl x)).2]
  rw [e] at h; exact h

/-- an object is given up ahead of an operation -/
theorem St.frz {X : Type} {φ : X → RP} {Ω' : X → List OB} {j : Nat} {o : OB} (hj : Ω[j]? = some o) (hw : ∀ a w, Sat E N Γ Ω a w → Sat E N Γ' (Ω.set j dead) a w)
    (h : St P E N op ty Γ' (Ω.set j dead) js φ Ω') : St P E N op ty Γ Ω js φ Ω' := by
  have hlt := (List.getElem?_eq_some_iff.1 hj).1
  refine St.pre hw ?_ ?_ h
  · intro b hb
    obtain ⟨A, B, rfl, rfl⟩ := ow_split hj
    rw [set_split] at hb
    rw [ow_mid] at hb ⊢
    simp only [dead, List.nil_append, List.mem_append] at hb ⊢
    exact hb.elim .inl fun h => .inr (.inr h)
  · intro k hk ob hob b hb
    by_cases e : j = k
    · subst e
      rw [List.getElem?_set_self hlt] at hob
      cases hob
      simp [dead] at hb
    · rw [List.getElem?_set_ne e] at hob
      exact ⟨k, hk, ob, hob, hb⟩

theorem St.conv {X : Type} {φ : X → RP} {Ω' : X → List OB} (hw : ∀ a w, Sat E N Γ Ω a w → Sat E N Γ' Ω a w) (h : St P E N op ty Γ' Ω js φ Ω') : St P E N op ty Γ Ω js φ Ω' :=
  St.pre hw (fun _ h => h) (fun k hk ob hob _ hb => ⟨k, hk, ob, hob, hb⟩) h

theorem St.to {X : Type} {φ : X → RP} {Ω' : X → List OB} {φ2 : XU → RP} {Ω2 : XU → List OB} (f : XU → X) (hf : ∀ x, ∃ u, f u = x) (h : St P E N op ty Γ Ω js φ Ω') (h1 : ∀ u, φ2 u = φ (f u)) (h2 : ∀ u, Ω2 u = Ω' (f u)) :
    St P E N op ty Γ Ω js φ2 Ω2 := by
  rw [show φ2 = fun u => φ (f u) from funext h1, show Ω2 = fun u => Ω' (f u) from funext h2]
  exact h.dec f hf
theorem St.toR {φ : RP} {J : List Nat} {φ2 : XU → RP} {Ω2 : XU → List OB} (h : Rd P E N op ty Γ Ω J φ) (h1 : ∀ u, φ2 u = φ) (h2 : ∀ u, Ω2 u = Ω) : St P E N op ty Γ Ω [] φ2 Ω2 := by
  rw [show φ2 = fun _ => φ from funext h1, show Ω2 = fun _ => Ω from funext h2]
  exact St.ofR h

theorem nrm (Ω' : List OB) (h : Ω = Ω') : ∀ a w, Sat E N Γ Ω a w → Sat E N Γ Ω' a w := fun _ _ hs => h ▸ hs
end Go.Dc
