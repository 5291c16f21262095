/-
  TopStores: its beginning, with a play that came in.
-/
import Derived.Test.YtghmpcnchjjikaaGreatRlZtq
import Derived.Test.YtghmpcnchjjikaaGreatRlZte
set_option linter.all false
set_option linter.unusedVariables false
set_option linter.unusedSimpArgs false
set_option linter.unnecessarySimpa false
open Go Go.Rl
namespace Go.Rl.Z
set_option maxRecDepth 100000
section
variable (p : TP) (bs : Option Addr) (tv : Value)
noncomputable def uS : SS := sOf Pr 4 [fArg p bs tv] []
noncomputable def uS1 : SS := (adv Pr tSt 100000 [] [] (uS p bs tv)).st
theorem u0 : entersB Pr 4 [fArg p bs tv] = true := by kernel_rfl
theorem u1 : (adv Pr tSt 100000 [] [] (uS p bs tv)).atObs = some [] := by kernel_rfl
theorem u2 : calleeAt Pr (uS1 p bs tv) = some (16, [fArg p bs tv]) := by kernel_rfl
theorem u3 : runV (run Pr tSt [.seg [], .call (.b true), .seg []] [] (behind (uS1 p bs tv) (.b false) (uS1 p bs tv).heap)) = some ([.call 17 [] (.b true)], .b true) := by kernel_rfl
theorem u4 : runV (run Pr tSt [.seg [true], .call (.b true), .seg []] [] (behind (uS1 p bs tv) (.b true) (uS1 p bs tv).heap)) = some ([.eq ((p.n : Int) == 0) true, .call 17 [] (.b true)], .b true) := by kernel_rfl
end
noncomputable def c_initb : List Cmd := [.seg [false, true, true, true, true, true, true, true, true, true, true, true, false, false, false, false, false], .make 1, .seg [false, false], .make 1, .seg [false, false, false, false, true, false, true, true, true, false, false, false, false, false]]
theorem u5 (p : TP) (tv : Value) (o0 o1 : Orc) : run Pr tSt c_initb [o0, o1] (behind (uS1 p (some p.ad) tv) (.b true) (uS1 p (some p.ad) tv).heap) =
    some ([.eq (decide (p.c > 1099511627776)) false, .eq (decide (p.c < 1)) false, .eq (decide (p.a > 4096)) false, .eq (decide (p.a < 1)) false, .eq (!(decide (p.c ≤ 1099511627776))) false, .eq (decide (p.c ≥ 8)) true, .eq (decide (p.h ≤ 64)) true, .eq (decide (p.h ≥ 2)) true, .eq (decide (p.r ≤ 64)) true, .eq (decide (p.r ≥ 2)) true, .eq (decide (p.t ≤ 64)) true, .eq (decide (p.t ≥ 1)) true, .eq (decide (p.b ≤ 256)) true, .eq (decide (p.b ≥ 3)) true, .eq (decide (p.a ≤ 4096)) true, .eq (decide (p.a ≥ 4)) true, .eq ((p.n : Int) == 0) false, .make 1 p.a p.a o0.n 17 [.i .i64 0, .b false, .i .i64 0, .s ByteArray.empty, .s ByteArray.empty, .b false, .i .i64 0, .nsl, .nsl, .s ByteArray.empty, .s ByteArray.empty, .i .i64 0, .i .i64 0, .i .i64 0, .s ByteArray.empty, .i .i64 0, .i .i64 0] o0.l, .eq (decide (p.b > 256)) false, .eq (decide (p.b < 1)) false, .make 1 p.b p.b o1.n 3 [.b false, .i .i64 0, .i .i64 0] o1.l, .eq (decide (p.c > 1099511627776)) false, .eq (decide (p.c < 1)) false, .eq (decide (p.t > 64)) false, .eq (decide (p.t < 1)) false, .eq (decide (0 ≥ (o1.n : Int))) false, .eq (decide (0 < (o1.n : Int))) true, .eq true true, .eq true true, .eq (0 == p.c) false, .eq (decide (0 < (o0.n : Int))) true, .eq (decide (p.c > 1099511627776)) false, .eq (decide (p.c < 1)) false, .eq (decide (p.t > 64)) false, .eq (decide (p.t < 1)) false], .at (tLS p tv o0 o1)) := by kernel_rfl
theorem u6 (p : TP) (tv : Value) (o0 o1 : Orc) : calleeAt Pr (tLS p tv o0 o1) = some (47, [.p 6 0]) := by kernel_rfl
section
variable (p : TP) (q : TQ) (now tl : Int) (lI : List (Int × Int × Nat)) (cI : Nat) (lM : List (Int × Int × Nat)) (cM : Nat) (j : Nat → Value) (jc : Nat → Nat → Value) (i : Int) (pa : Addr) (pc : Nat) (o0 o1 o2 o3 o4 o5 : Orc)
theorem e1c : calleeAt Pr (tE1 p q now tl lI cI lM cM j jc i) = some (107, [.p 3 0]) := by kernel_rfl
theorem e2c : calleeAt Pr (tE2 p q now tl lI cI lM cM j jc i pa pc o0 o1 o2 o3) = some (107, [.p 3 0]) := by kernel_rfl
theorem e3c : calleeAt Pr (tE3 p q now tl lI cI lM cM j jc i pa pc o0 o1 o2 o3 o4 o5) = some (47, [.p 1 0]) := by kernel_rfl
end
end Go.Rl.Z
