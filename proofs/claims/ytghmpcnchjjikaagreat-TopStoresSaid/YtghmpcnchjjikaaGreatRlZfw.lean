/-
  rowlocklaw17.Few: what it says when it says yes.
-/
import Derived.Test.YtghmpcnchjjikaaGreatRlZtd
set_option linter.all false
set_option linter.unusedVariables false
set_option linter.unusedSimpArgs false
set_option linter.unnecessarySimpa false
open Go Go.Rl
namespace Go.Rl.Z
set_option maxRecDepth 100000
def st13 : Stops := fun k => Nat.beq k 13
def fArg (p : TP) (bs : Option Addr) (tv : Value) : SV := .ag [.v (.int .i64 p.a), .v (.int .i64 p.b), .v (.int .i64 p.t), .v (.int .i64 p.r), .v (.int .i64 p.h), .v (.int .i64 p.c), .v (.slice bs p.n p.cap), .v tv]
section
variable (p : TP) (bs tb : Option Addr) (tn tc : Nat)
noncomputable def fS0 : SS := sOf Pr 16 [fArg p bs (.slice tb tn tc)] []
noncomputable def fS1 : SS := (adv Pr st13 100000 [] [] (fS0 p bs tb tn tc)).st
def scF : List Nat := classes 105 [1, 8, 9, 11] [3, 10]
def scG : List Nat := classes 105 [1, 3, 5, 8, 9, 10, 22] [6]
noncomputable def fO (j : Nat → Value) (s i : Int) : SS :=
  putSl (putSl (putSl (orSS (canonS [(0, [])] scF j (fun _ _ => .nilIface) (fS1 p bs tb tn tc))) 3 (.v (.int .i64 s))) 10 (.v (.int .i64 i))) 11 (.v (.bool (decide (i < (p.n : Int)))))
variable (j : Nat → Value) (s i : Int) (bo : Option Addr) (m mc : Nat)
noncomputable def fI1 : SS := (adv Pr st13 100000 [true, true] [] (fO p (some p.ad) tb tn tc j s i)).st
noncomputable def fI2 : SS := (adv Pr st13 100000 [] [] (behind (fI1 p tb tn tc j s i) (.v (.slice bo m mc)) (fI1 p tb tn tc j s i).heap)).st
noncomputable def fI (e : Int) : SS :=
  putSl (putSl (putSl (orSS (canonS [(0, [])] scG j (fun _ _ => .nilIface) (fI2 p tb tn tc j s i bo m mc))) 3 (.v (.int .i64 s))) 6 (.v (.int .i64 e))) 22 (.v (.bool (decide (e < (m : Int)))))
theorem f0 : entersB Pr 16 [fArg p bs (.slice tb tn tc)] = true := by kernel_rfl
theorem f1 (o : Orc) : run Pr st13 [.seg [], .canon [(0, [])] scF] [o] (fS0 p bs tb tn tc) = some ([.keep [(0, [])]], .at (fO p bs tb tn tc o.j 0 0)) := by kernel_rfl
theorem f2 (o : Orc) : run Pr st13 [.seg [true, true], .imm1 (.slice bo m mc), .seg [], .canon [(0, [])] scG] [o] (fO p (some p.ad) tb tn tc j s i) =
    some ([.eq (decide (0 ≤ i) && decide (i < (p.n : Int))) true, .eq (decide (i < (p.n : Int))) true, .imm1 (p.ad.add (i.toNat * 1)) (.slice bo m mc), .keep [(0, [])]], .at (fI p tb tn tc o.j (IntKind.i64.wrap (s + m)) i bo m mc 0)) := by kernel_rfl
variable (e : Int) (bd : Addr) (ky vl lo hi : ByteArray)
theorem f3 (o : Orc) : run Pr st13 [.seg [true, true, true], .imm1 (.string ky), .seg [false, true], .imm1 (.string vl), .seg [false, true], .imm1 (.string lo), .seg [false, true], .imm1 (.string hi), .seg [false], .canon [(0, [])] scG] [o] (fI p tb tn tc j s i (some bd) m mc e) =
    some ([.eq (decide (0 ≤ e) && decide (e < (m : Int))) true, .eq (decide (e ≤ 40)) true, .eq (decide (e < (m : Int))) true, .imm1 ((bd.add (e.toNat * 9)).add 2) (.string ky),
      .eq (decide (0 ≤ e) && decide (e < (m : Int))) true, .eq (decide ((ky.size : Int) > 100)) false, .imm1 ((bd.add (e.toNat * 9)).add 3) (.string vl),
      .eq (decide (0 ≤ e) && decide (e < (m : Int))) true, .eq (decide ((vl.size : Int) > 100)) false, .imm1 (((bd.add (e.toNat * 9)).add 4).add 0) (.string lo),
      .eq (decide (0 ≤ e) && decide (e < (m : Int))) true, .eq (decide ((lo.size : Int) > 100)) false, .imm1 (((bd.add (e.toNat * 9)).add 4).add 1) (.string hi),
      .eq (decide ((hi.size : Int) > 100)) false, .keep [(0, [])]], .at (fI p tb tn tc o.j s i (some bd) m mc (IntKind.i64.wrap (e + 1)))) := by kernel_rfl
theorem f4a : runV (run Pr st13 [.seg [true, true, true], .imm1 (.string ky), .seg [true]] [] (fI p tb tn tc j s i (some bd) m mc e)) =
    some ([.eq (decide (0 ≤ e) && decide (e < (m : Int))) true, .eq (decide (e ≤ 40)) true, .eq (decide (e < (m : Int))) true, .imm1 ((bd.add (e.toNat * 9)).add 2) (.string ky), .eq (decide ((ky.size : Int) > 100)) true], .b false) := by kernel_rfl
theorem f4b : runV (run Pr st13 [.seg [true, true, true], .imm1 (.string ky), .seg [false, true], .imm1 (.string vl), .seg [true]] [] (fI p tb tn tc j s i (some bd) m mc e)) =
    some ([.eq (decide (0 ≤ e) && decide (e < (m : Int))) true, .eq (decide (e ≤ 40)) true, .eq (decide (e < (m : Int))) true, .imm1 ((bd.add (e.toNat * 9)).add 2) (.string ky),
      .eq (decide (0 ≤ e) && decide (e < (m : Int))) true, .eq (decide ((ky.size : Int) > 100)) false, .imm1 ((bd.add (e.toNat * 9)).add 3) (.string vl), .eq (decide ((vl.size : Int) > 100)) true], .b false) := by kernel_rfl
theorem f4c : runV (run Pr st13 [.seg [true, true, true], .imm1 (.string ky), .seg [false, true], .imm1 (.string vl), .seg [false, true], .imm1 (.string lo), .seg [true]] [] (fI p tb tn tc j s i (some bd) m mc e)) =
    some ([.eq (decide (0 ≤ e) && decide (e < (m : Int))) true, .eq (decide (e ≤ 40)) true, .eq (decide (e < (m : Int))) true, .imm1 ((bd.add (e.toNat * 9)).add 2) (.string ky),
      .eq (decide (0 ≤ e) && decide (e < (m : Int))) true, .eq (decide ((ky.size : Int) > 100)) false, .imm1 ((bd.add (e.toNat * 9)).add 3) (.string vl),
      .eq (decide (0 ≤ e) && decide (e < (m : Int))) true, .eq (decide ((vl.size : Int) > 100)) false, .imm1 (((bd.add (e.toNat * 9)).add 4).add 0) (.string lo), .eq (decide ((lo.size : Int) > 100)) true], .b false) := by kernel_rfl
theorem f4d : runV (run Pr st13 [.seg [true, true, true], .imm1 (.string ky), .seg [false, true], .imm1 (.string vl), .seg [false, true], .imm1 (.string lo), .seg [false, true], .imm1 (.string hi), .seg [true]] [] (fI p tb tn tc j s i (some bd) m mc e)) =
    some ([.eq (decide (0 ≤ e) && decide (e < (m : Int))) true, .eq (decide (e ≤ 40)) true, .eq (decide (e < (m : Int))) true, .imm1 ((bd.add (e.toNat * 9)).add 2) (.string ky),
      .eq (decide (0 ≤ e) && decide (e < (m : Int))) true, .eq (decide ((ky.size : Int) > 100)) false, .imm1 ((bd.add (e.toNat * 9)).add 3) (.string vl),
      .eq (decide (0 ≤ e) && decide (e < (m : Int))) true, .eq (decide ((vl.size : Int) > 100)) false, .imm1 (((bd.add (e.toNat * 9)).add 4).add 0) (.string lo),
      .eq (decide (0 ≤ e) && decide (e < (m : Int))) true, .eq (decide ((lo.size : Int) > 100)) false, .imm1 (((bd.add (e.toNat * 9)).add 4).add 1) (.string hi), .eq (decide ((hi.size : Int) > 100)) true], .b false) := by kernel_rfl
theorem f5a (o : Orc) : run Pr st13 [.seg [false], .canon [(0, [])] scF] [o] (fI p tb tn tc j s i bo m mc e) = some ([.eq (decide (e < (m : Int))) false, .keep [(0, [])]], .at (fO p (some p.ad) tb tn tc o.j s (IntKind.i64.wrap (i + 1)))) := by kernel_rfl
theorem f5b (o : Orc) : run Pr st13 [.seg [true, false], .canon [(0, [])] scF] [o] (fI p tb tn tc j s i bo m mc e) = some ([.eq (decide (e ≤ 40)) false, .eq (decide (e < (m : Int))) true, .keep [(0, [])]], .at (fO p (some p.ad) tb tn tc o.j s (IntKind.i64.wrap (i + 1)))) := by kernel_rfl
variable (q : Bool)
def lmS (p : TP) : SV := .ag [.v (.int .i64 p.a), .v (.int .i64 p.b), .v (.int .i64 p.t), .v (.int .i64 p.r), .v (.int .i64 p.h), .v (.int .i64 p.c)]
theorem f6a : runV (run Pr st13 [.seg [false], .call (.v (.bool q)), .seg [false]] [] (fO p bs tb tn tc j s i)) = some ([.eq (decide (i < (p.n : Int))) false, .call 13 [lmS p] (.v (.bool q)), .eq q false], .b false) := by kernel_rfl
theorem f6b : runV (run Pr st13 [.seg [false], .call (.v (.bool q)), .seg [true, false]] [] (fO p bs tb tn tc j s i)) = some ([.eq (decide (i < (p.n : Int))) false, .call 13 [lmS p] (.v (.bool q)), .eq (decide (p.a ≤ 300)) false, .eq q true], .b false) := by kernel_rfl
theorem f6c : runV (run Pr st13 [.seg [false], .call (.v (.bool q)), .seg [true, true, false]] [] (fO p bs tb tn tc j s i)) = some ([.eq (decide (i < (p.n : Int))) false, .call 13 [lmS p] (.v (.bool q)), .eq (decide (p.b ≤ 60)) false, .eq (decide (p.a ≤ 300)) true, .eq q true], .b false) := by kernel_rfl
theorem f6d : runV (run Pr st13 [.seg [false], .call (.v (.bool q)), .seg [true, true, true, false]] [] (fO p bs tb tn tc j s i)) = some ([.eq (decide (i < (p.n : Int))) false, .call 13 [lmS p] (.v (.bool q)), .eq (decide (p.t ≤ 8)) false, .eq (decide (p.b ≤ 60)) true, .eq (decide (p.a ≤ 300)) true, .eq q true], .b false) := by kernel_rfl
theorem f6e : runV (run Pr st13 [.seg [false], .call (.v (.bool q)), .seg [true, true, true, true, false]] [] (fO p bs tb tn tc j s i)) = some ([.eq (decide (i < (p.n : Int))) false, .call 13 [lmS p] (.v (.bool q)), .eq (decide ((p.n : Int) ≤ p.t)) false, .eq (decide (p.t ≤ 8)) true, .eq (decide (p.b ≤ 60)) true, .eq (decide (p.a ≤ 300)) true, .eq q true], .b false) := by kernel_rfl
theorem f6f : runV (run Pr st13 [.seg [false], .call (.v (.bool q)), .seg [true, true, true, true, true, false]] [] (fO p bs tb tn tc j s i)) = some ([.eq (decide (i < (p.n : Int))) false, .call 13 [lmS p] (.v (.bool q)), .eq (decide (s ≤ 40)) false, .eq (decide ((p.n : Int) ≤ p.t)) true, .eq (decide (p.t ≤ 8)) true, .eq (decide (p.b ≤ 60)) true, .eq (decide (p.a ≤ 300)) true, .eq q true], .b false) := by kernel_rfl
theorem f6g : runV (run Pr st13 [.seg [false], .call (.v (.bool q)), .seg [true, true, true, true, true, true]] [] (fO p bs tb tn tc j s i)) = some ([.eq (decide (i < (p.n : Int))) false, .call 13 [lmS p] (.v (.bool q)), .eq (decide (s ≤ 40)) true, .eq (decide ((p.n : Int) ≤ p.t)) true, .eq (decide (p.t ≤ 8)) true, .eq (decide (p.b ≤ 60)) true, .eq (decide (p.a ≤ 300)) true, .eq q true], .v (.bool (decide ((tn : Int) ≤ 3000)))) := by kernel_rfl
end
end Go.Rl.Z
