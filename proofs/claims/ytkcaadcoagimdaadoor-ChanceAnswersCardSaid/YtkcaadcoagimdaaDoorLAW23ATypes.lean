/- Part LAW23A.Types of a proof: lemmas. -/
import Derived.Test.YtkcaadcoagimdaaDoorDcCut4
import Derived.Test.YtkcaadcoagimdaaDoorDcTab
import Derived.Test.YtkcaadcoagimdaaDoorDcRec
import Derived.Test.YtkcaadcoagimdaaDoorProg
set_option linter.unusedVariables false
set_option maxRecDepth 100000
set_option maxHeartbeats 4000000
namespace Go.Dc
open Go.Proofs
open Go.Proofs.Tryd (prog)

structure T_api_Pair where
  From : Int
  To : Int
  deriving DecidableEq, Inhabited

def rT_api_Pair : Rep T_api_Pair := rSt [⟨(rI .i64), T_api_Pair.From⟩, ⟨(rI .i64), T_api_Pair.To⟩]

structure T_api_Graph where
  N : Int
  L : (List T_api_Pair)
  deriving DecidableEq, Inhabited

def rT_api_Graph : Rep T_api_Graph := rSt [⟨(rI .i64), T_api_Graph.N⟩, ⟨(rSl rT_api_Pair), T_api_Graph.L⟩]

structure T_api_Fraction where
  Num : Int
  Den : Int
  deriving DecidableEq, Inhabited

def rT_api_Fraction : Rep T_api_Fraction := rSt [⟨(rI .i64), T_api_Fraction.Num⟩, ⟨(rI .i64), T_api_Fraction.Den⟩]

structure T_api_Odds where
  Nodes : (List T_api_Fraction)
  Attacks : (List T_api_Fraction)
  deriving DecidableEq, Inhabited

def rT_api_Odds : Rep T_api_Odds := rSt [⟨(rSl rT_api_Fraction), T_api_Odds.Nodes⟩, ⟨(rSl rT_api_Fraction), T_api_Odds.Attacks⟩]

structure T_network_Net where
  All : Int
  By : (List Int)
  Out : (List Int)
  deriving DecidableEq, Inhabited

def rT_network_Net : Rep T_network_Net := rSt [⟨(rI .u64), T_network_Net.All⟩, ⟨(rSl (rI .u64)), T_network_Net.By⟩, ⟨(rSl (rI .u64)), T_network_Net.Out⟩]

structure T_deliberationkeep_Src where
  L : (List Int)
  At : Int
  deriving DecidableEq, Inhabited

def rT_deliberationkeep_Src : Rep T_deliberationkeep_Src := rSt [⟨(rSl (rI .i64)), T_deliberationkeep_Src.L⟩, ⟨(rI .i64), T_deliberationkeep_Src.At⟩]

structure T_deliberationref23_world where
  g : T_api_Graph
  gone : (List Int)
  num : Int
  deriving DecidableEq, Inhabited

def rT_deliberationref23_world : Rep T_deliberationref23_world := rSt [⟨rT_api_Graph, T_deliberationref23_world.g⟩, ⟨(rSl (rI .i64)), T_deliberationref23_world.gone⟩, ⟨(rI .i64), T_deliberationref23_world.num⟩]

structure T_anon55 where
  g : T_api_Graph
  o : T_api_Odds
  a' : (List Int)
  b : (List Int)
  q : Int
  deriving DecidableEq, Inhabited

def rT_anon55 : Rep T_anon55 := rSt [⟨rT_api_Graph, T_anon55.g⟩, ⟨rT_api_Odds, T_anon55.o⟩, ⟨(rSl (rI .i64)), T_anon55.a'⟩, ⟨(rSl (rI .i64)), T_anon55.b⟩, ⟨(rI .i64), T_anon55.q⟩]

def tab_0 : List Int := [0, 1, 56, 2, 57, 49, 28, 3, 61, 58, 42, 50, 38, 29, 17, 4, 62, 47, 59, 36, 45, 43, 51, 22, 53, 39, 33, 30, 24, 18, 12, 5, 63, 55, 48, 27, 60, 41, 37, 16, 46, 35, 44, 21, 52, 32, 23, 11, 54, 26, 40, 15, 34, 20, 31, 10, 25, 14, 19, 9, 13, 8, 7, 6]

theorem el_3 : ElT prog 3 (rI .i64) 8 := ⟨⟨_, Tryd.type3, rfl, rfl, _, rfl, rfl⟩, Tryd.isAgg3, by decide, by decide⟩

theorem el_4 : ElT prog 4 rB 1 := ⟨⟨_, Tryd.type4, rfl, rfl, _, rfl, rfl⟩, Tryd.isAgg4, by decide, by decide⟩

theorem el_5 : ElT prog 5 (rI .u8) 1 := ⟨⟨_, Tryd.type5, rfl, rfl, _, rfl, rfl⟩, Tryd.isAgg5, by decide, by decide⟩

theorem el_22 : ElT prog 22 (rSl (rI .i64)) 24 := ⟨⟨_, Tryd.type22, rfl, rfl, _, rfl, rfl⟩, Tryd.isAgg22, by decide, by decide⟩

theorem el_29 : ElT prog 29 (rSl rT_api_Fraction) 24 := ⟨⟨_, Tryd.type29, rfl, rfl, _, rfl, rfl⟩, Tryd.isAgg29, by decide, by decide⟩

theorem el_36 : ElT prog 36 rT_api_Fraction 16 := ⟨⟨_, Tryd.type36, rfl, rfl, _, rfl, rfl⟩, Tryd.isAgg36, by decide, by decide⟩

theorem el_55 : ElT prog 55 rT_anon55 136 := ⟨⟨_, Tryd.type55, rfl, rfl, _, rfl, rfl⟩, Tryd.isAgg55, by decide, by decide⟩

theorem el_63 : ElT prog 63 rT_api_Pair 16 := ⟨⟨_, Tryd.type63, rfl, rfl, _, rfl, rfl⟩, Tryd.isAgg63, by decide, by decide⟩

theorem el_67 : ElT prog 67 (rI .u64) 8 := ⟨⟨_, Tryd.type67, rfl, rfl, _, rfl, rfl⟩, Tryd.isAgg67, by decide, by decide⟩

theorem el_89 : ElT prog 89 rT_deliberationref23_world 64 := ⟨⟨_, Tryd.type89, rfl, rfl, _, rfl, rfl⟩, Tryd.isAgg89, by decide, by decide⟩

theorem zt_3 : ∃ i z, prog.info? 3 = some i ∧ i.zero = some z ∧ ∀ F w, AllP F w [iv .i64 0] z.cells.toList := ⟨_, _, Tryd.type3, rfl, fun _ _ => ⟨rfl, trivial⟩⟩

theorem ze_3 : ZeroT prog 3 (rI .i64) 0 := ⟨_, _, Tryd.type3, rfl, fun _ _ => ⟨rfl, trivial⟩⟩

theorem zt_4 : ∃ i z, prog.info? 4 = some i ∧ i.zero = some z ∧ ∀ F w, AllP F w [bv false] z.cells.toList := ⟨_, _, Tryd.type4, rfl, fun _ _ => ⟨rfl, trivial⟩⟩

theorem ze_4 : ZeroT prog 4 rB false := ⟨_, _, Tryd.type4, rfl, fun _ _ => ⟨rfl, trivial⟩⟩

theorem zt_27 : ∃ i z, prog.info? 27 = some i ∧ i.zero = some z ∧ ∀ F w, AllP F w [iv .i64 0, pv (.slice none 0 0)] z.cells.toList := ⟨_, _, Tryd.type27, rfl, fun _ _ => ⟨rfl, rfl, trivial⟩⟩

theorem ze_27 : ZeroT prog 27 rT_api_Graph (T_api_Graph.mk 0 []) := ⟨_, _, Tryd.type27, rfl, fun _ _ => ⟨rfl, ⟨none, 0, rfl, Nat.le_refl _, fun h => absurd rfl h⟩, trivial⟩⟩

theorem zt_29 : ∃ i z, prog.info? 29 = some i ∧ i.zero = some z ∧ ∀ F w, AllP F w [pv (.slice none 0 0)] z.cells.toList := ⟨_, _, Tryd.type29, rfl, fun _ _ => ⟨rfl, trivial⟩⟩

theorem ze_29 : ZeroT prog 29 (rSl rT_api_Fraction) [] := ⟨_, _, Tryd.type29, rfl, fun _ _ => ⟨⟨none, 0, rfl, Nat.le_refl _, fun h => absurd rfl h⟩, trivial⟩⟩

theorem zt_31 : ∃ i z, prog.info? 31 = some i ∧ i.zero = some z ∧ ∀ F w, AllP F w [pv (.slice none 0 0), pv (.slice none 0 0)] z.cells.toList := ⟨_, _, Tryd.type31, rfl, fun _ _ => ⟨rfl, rfl, trivial⟩⟩

theorem ze_31 : ZeroT prog 31 rT_api_Odds (T_api_Odds.mk [] []) := ⟨_, _, Tryd.type31, rfl, fun _ _ => ⟨⟨none, 0, rfl, Nat.le_refl _, fun h => absurd rfl h⟩, ⟨none, 0, rfl, Nat.le_refl _, fun h => absurd rfl h⟩, trivial⟩⟩

theorem zt_36 : ∃ i z, prog.info? 36 = some i ∧ i.zero = some z ∧ ∀ F w, AllP F w [iv .i64 0, iv .i64 0] z.cells.toList := ⟨_, _, Tryd.type36, rfl, fun _ _ => ⟨rfl, rfl, trivial⟩⟩

theorem ze_36 : ZeroT prog 36 rT_api_Fraction (T_api_Fraction.mk 0 0) := ⟨_, _, Tryd.type36, rfl, fun _ _ => ⟨rfl, rfl, trivial⟩⟩

theorem zt_55 : ∃ i z, prog.info? 55 = some i ∧ i.zero = some z ∧ ∀ F w, AllP F w [iv .i64 0, pv (.slice none 0 0), pv (.slice none 0 0), pv (.slice none 0 0), pv (.slice none 0 0), pv (.slice none 0 0), iv .i64 0] z.cells.toList := ⟨_, _, Tryd.type55, rfl, fun _ _ => ⟨rfl, rfl, rfl, rfl, rfl, rfl, rfl, trivial⟩⟩

theorem ze_55 : ZeroT prog 55 rT_anon55 (T_anon55.mk (T_api_Graph.mk 0 []) (T_api_Odds.mk [] []) [] [] 0) := ⟨_, _, Tryd.type55, rfl, fun _ _ => ⟨rfl, ⟨none, 0, rfl, Nat.le_refl _, fun h => absurd rfl h⟩, ⟨none, 0, rfl, Nat.le_refl _, fun h => absurd rfl h⟩, ⟨none, 0, rfl, Nat.le_refl _, fun h => absurd rfl h⟩, ⟨none, 0, rfl, Nat.le_refl _, fun h => absurd rfl h⟩, ⟨none, 0, rfl, Nat.le_refl _, fun h => absurd rfl h⟩, rfl, trivial⟩⟩

theorem zt_63 : ∃ i z, prog.info? 63 = some i ∧ i.zero = some z ∧ ∀ F w, AllP F w [iv .i64 0, iv .i64 0] z.cells.toList := ⟨_, _, Tryd.type63, rfl, fun _ _ => ⟨rfl, rfl, trivial⟩⟩

theorem ze_63 : ZeroT prog 63 rT_api_Pair (T_api_Pair.mk 0 0) := ⟨_, _, Tryd.type63, rfl, fun _ _ => ⟨rfl, rfl, trivial⟩⟩

theorem zt_67 : ∃ i z, prog.info? 67 = some i ∧ i.zero = some z ∧ ∀ F w, AllP F w [iv .u64 0] z.cells.toList := ⟨_, _, Tryd.type67, rfl, fun _ _ => ⟨rfl, trivial⟩⟩

theorem ze_67 : ZeroT prog 67 (rI .u64) 0 := ⟨_, _, Tryd.type67, rfl, fun _ _ => ⟨rfl, trivial⟩⟩

theorem zt_74 : ∃ i z, prog.info? 74 = some i ∧ i.zero = some z ∧ ∀ F w, AllP F w [iv .u64 0, pv (.slice none 0 0), pv (.slice none 0 0)] z.cells.toList := ⟨_, _, Tryd.type74, rfl, fun _ _ => ⟨rfl, rfl, rfl, trivial⟩⟩

theorem ze_74 : ZeroT prog 74 rT_network_Net (T_network_Net.mk 0 [] []) := ⟨_, _, Tryd.type74, rfl, fun _ _ => ⟨rfl, ⟨none, 0, rfl, Nat.le_refl _, fun h => absurd rfl h⟩, ⟨none, 0, rfl, Nat.le_refl _, fun h => absurd rfl h⟩, trivial⟩⟩

theorem zt_89 : ∃ i z, prog.info? 89 = some i ∧ i.zero = some z ∧ ∀ F w, AllP F w [iv .i64 0, pv (.slice none 0 0), pv (.slice none 0 0), iv .i64 0] z.cells.toList := ⟨_, _, Tryd.type89, rfl, fun _ _ => ⟨rfl, rfl, rfl, rfl, trivial⟩⟩

theorem ze_89 : ZeroT prog 89 rT_deliberationref23_world (T_deliberationref23_world.mk (T_api_Graph.mk 0 []) [] 0) := ⟨_, _, Tryd.type89, rfl, fun _ _ => ⟨rfl, ⟨none, 0, rfl, Nat.le_refl _, fun h => absurd rfl h⟩, ⟨none, 0, rfl, Nat.le_refl _, fun h => absurd rfl h⟩, rfl, trivial⟩⟩

theorem zt_97 : ∃ i z, prog.info? 97 = some i ∧ i.zero = some z ∧ ∀ F w, AllP F w [pv (.slice none 0 0)] z.cells.toList := ⟨_, _, Tryd.type97, rfl, fun _ _ => ⟨rfl, trivial⟩⟩

theorem ze_97 : ZeroT prog 97 (rSl rB) [] := ⟨_, _, Tryd.type97, rfl, fun _ _ => ⟨⟨none, 0, rfl, Nat.le_refl _, fun h => absurd rfl h⟩, trivial⟩⟩

theorem zt_98 : ∃ i z, prog.info? 98 = some i ∧ i.zero = some z ∧ ∀ F w, AllP F w [pv .nilFunc] z.cells.toList := ⟨_, _, Tryd.type98, rfl, fun _ _ => ⟨rfl, trivial⟩⟩

theorem st_27 : StT prog 27 2 [(0, 1), (1, 1)] := ⟨_, Tryd.underlying27, ⟨_, _, Tryd.type27, rfl, rfl⟩, fun w => by simp⟩

theorem zs_27 : ∀ i z, prog.info? 27 = some i → i.zero = some z → ∀ F w, AllP F w [iv .i64 0, pv (.slice none 0 0)] z.cells.toList := by
  intro i z hi hz F w
  have h1 : some i = some Tryd.t27 := hi.symm.trans Tryd.type27
  cases h1; cases hz
  exact ⟨rfl, rfl, trivial⟩

theorem st_31 : StT prog 31 2 [(0, 1), (1, 1)] := ⟨_, Tryd.underlying31, ⟨_, _, Tryd.type31, rfl, rfl⟩, fun w => by simp⟩

theorem zs_31 : ∀ i z, prog.info? 31 = some i → i.zero = some z → ∀ F w, AllP F w [pv (.slice none 0 0), pv (.slice none 0 0)] z.cells.toList := by
  intro i z hi hz F w
  have h1 : some i = some Tryd.t31 := hi.symm.trans Tryd.type31
  cases h1; cases hz
  exact ⟨rfl, rfl, trivial⟩

theorem st_36 : StT prog 36 2 [(0, 1), (1, 1)] := ⟨_, Tryd.underlying36, ⟨_, _, Tryd.type36, rfl, rfl⟩, fun w => by simp⟩

theorem zs_36 : ∀ i z, prog.info? 36 = some i → i.zero = some z → ∀ F w, AllP F w [iv .i64 0, iv .i64 0] z.cells.toList := by
  intro i z hi hz F w
  have h1 : some i = some Tryd.t36 := hi.symm.trans Tryd.type36
  cases h1; cases hz
  exact ⟨rfl, rfl, trivial⟩

theorem st_55 : StT prog 55 7 [(0, 2), (2, 2), (4, 1), (5, 1), (6, 1)] := ⟨_, Tryd.underlying55, ⟨_, _, Tryd.type55, rfl, rfl⟩, fun w => by simp⟩

theorem zs_55 : ∀ i z, prog.info? 55 = some i → i.zero = some z → ∀ F w, AllP F w [iv .i64 0, pv (.slice none 0 0), pv (.slice none 0 0), pv (.slice none 0 0), pv (.slice none 0 0), pv (.slice none 0 0), iv .i64 0] z.cells.toList := by
  intro i z hi hz F w
  have h1 : some i = some Tryd.t55 := hi.symm.trans Tryd.type55
  cases h1; cases hz
  exact ⟨rfl, rfl, rfl, rfl, rfl, rfl, rfl, trivial⟩

theorem st_61 : StT prog 61 2 [(0, 1), (1, 1)] := ⟨_, Tryd.underlying61, ⟨_, _, Tryd.type61, rfl, rfl⟩, fun w => by simp⟩

theorem zs_61 : ∀ i z, prog.info? 61 = some i → i.zero = some z → ∀ F w, AllP F w [pv (.slice none 0 0), iv .i64 0] z.cells.toList := by
  intro i z hi hz F w
  have h1 : some i = some Tryd.t61 := hi.symm.trans Tryd.type61
  cases h1; cases hz
  exact ⟨rfl, rfl, trivial⟩

theorem st_63 : StT prog 63 2 [(0, 1), (1, 1)] := ⟨_, Tryd.underlying63, ⟨_, _, Tryd.type63, rfl, rfl⟩, fun w => by simp⟩

theorem zs_63 : ∀ i z, prog.info? 63 = some i → i.zero = some z → ∀ F w, AllP F w [iv .i64 0, iv .i64 0] z.cells.toList := by
  intro i z hi hz F w
  have h1 : some i = some Tryd.t63 := hi.symm.trans Tryd.type63
  cases h1; cases hz
  exact ⟨rfl, rfl, trivial⟩

theorem st_74 : StT prog 74 3 [(0, 1), (1, 1), (2, 1)] := ⟨_, Tryd.underlying74, ⟨_, _, Tryd.type74, rfl, rfl⟩, fun w => by simp⟩

theorem zs_74 : ∀ i z, prog.info? 74 = some i → i.zero = some z → ∀ F w, AllP F w [iv .u64 0, pv (.slice none 0 0), pv (.slice none 0 0)] z.cells.toList := by
  intro i z hi hz F w
  have h1 : some i = some Tryd.t74 := hi.symm.trans Tryd.type74
  cases h1; cases hz
  exact ⟨rfl, rfl, rfl, trivial⟩

theorem st_89 : StT prog 89 4 [(0, 2), (2, 1), (3, 1)] := ⟨_, Tryd.underlying89, ⟨_, _, Tryd.type89, rfl, rfl⟩, fun w => by simp⟩

theorem zs_89 : ∀ i z, prog.info? 89 = some i → i.zero = some z → ∀ F w, AllP F w [iv .i64 0, pv (.slice none 0 0), pv (.slice none 0 0), iv .i64 0] z.cells.toList := by
  intro i z hi hz F w
  have h1 : some i = some Tryd.t89 := hi.symm.trans Tryd.type89
  cases h1; cases hz
  exact ⟨rfl, rfl, rfl, rfl, trivial⟩

theorem eq_36 : EqT prog 36 rT_api_Fraction := eqT_struct Tryd.underlying36 (by kernel_rfl) (by kernel_rfl) fun x y F w cs ds h1 h2 => by
  match cs, ds, h1, h2 with
  | [_, _], [_, _], ⟨e0, e1, _⟩, ⟨f0, f1, _⟩ =>
    cases e0; cases e1; cases f0; cases f1
    exact ⟨_, ⟨⟨by decide, rfl, Tryd.isAgg3⟩, _, _, .int Tryd.underlying3, ⟨⟨by decide, rfl, Tryd.isAgg3⟩, _, _, .int Tryd.underlying3, rfl, rfl⟩, rfl⟩, by cases x; cases y; rw [Bool.eq_iff_iff]; simp⟩

theorem eq_63 : EqT prog 63 rT_api_Pair := eqT_struct Tryd.underlying63 (by kernel_rfl) (by kernel_rfl) fun x y F w cs ds h1 h2 => by
  match cs, ds, h1, h2 with
  | [_, _], [_, _], ⟨e0, e1, _⟩, ⟨f0, f1, _⟩ =>
    cases e0; cases e1; cases f0; cases f1
    exact ⟨_, ⟨⟨by decide, rfl, Tryd.isAgg3⟩, _, _, .int Tryd.underlying3, ⟨⟨by decide, rfl, Tryd.isAgg3⟩, _, _, .int Tryd.underlying3, rfl, rfl⟩, rfl⟩, by cases x; cases y; rw [Bool.eq_iff_iff]; simp⟩
end Go.Dc
