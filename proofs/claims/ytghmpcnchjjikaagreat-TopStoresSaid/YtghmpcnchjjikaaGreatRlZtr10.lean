/-
  TopStores: a round of its inner loop, all its ways joined (10).
-/
import Derived.Test.YtghmpcnchjjikaaGreatRlZtd
import Derived.Test.YtghmpcnchjjikaaGreatRlZtq
set_option linter.all false
set_option linter.unusedVariables false
set_option linter.unusedSimpArgs false
set_option linter.unnecessarySimpa false
open Go Go.Rl
namespace Go.Rl.Z
set_option maxRecDepth 100000

def k_get10 : List (Nat × List Nat) := [(0, []), (1, []), (2, []), (3, []), (4, []), (5, [1]), (6, [1]), (7, []), (8, []), (9, []), (10, []), (11, []), (12, []), (13, [1, 0, 2, 2, 2, 2, 2, 2, 2, 2, 2, 0]), (14, [1, 0, 0, 0, 0, 0, 0, 0, 0, 0, 0, 0, 0, 0, 3, 0]), (23, [])]
noncomputable def c_get10 (rd : Bool) (ky vl lo hi : ByteArray) (ub : Bool) (lm : Int) (rv : Bool) : List Cmd := [.seg [true, true], .imm [(.int .i64 2), (.bool rd), (.string ky), (.string vl), (.string lo), (.string hi), (.bool ub), (.int .i64 lm), (.bool rv)], .seg [true, true, false], .app true, .seg [true, false, false, true, false, false, false, false, false, false, true, true], .app false, .seg [], .app false, .seg [], .app false, .seg [true, true], .app false, .seg [], .call (.v (.int .i64 (cmpI ByteArray.empty ky))), .seg [true, true, false, false], .ext (.ifc 216 (.v rt)), .seg [], .ext (.b true), .seg [], .canon k_get10 scI]
theorem p_get10 (p : TP) (q : TQ) (now tl : Int) (cI : Nat) (lM : List (Int × Int × Nat)) (cM : Nat) (j : Nat → Value) (jc : Nat → Nat → Value) (i : Int) (bd : Addr) (m mcap : Nat) (e : Int) (kl kc : Nat) (kr : List Value) (rd : Bool) (ky vl lo hi : ByteArray) (ub : Bool) (lm : Int) (rv : Bool) (er : SV) (o0 o1 o2 o3 o4 oc : Orc) : run Pr tSt (c_get10 rd ky vl lo hi ub lm rv) [o0, o1, o2, o3, o4, oc] (tIH10 p q now tl [] cI lM cM j jc i (some bd) m mcap e kl kc kr er) =
    some ([.eq (decide (0 ≤ e) && decide (e < (m : Int))) true, .eq (decide (e < (m : Int))) true, .imm (bd.add ((e).toNat * 9)) 9 [(.int .i64 2), (.bool rd), (.string ky), (.string vl), (.string lo), (.string hi), (.bool ub), (.int .i64 lm), (.bool rv)], .eq (!(decide ((ky.size : Int) ≤ 16))) false, .eq (decide ((ky.size : Int) ≥ 1)) true, .eq (2 == 2) true, .app kl kc kr.length 1 (kl + 1) 16 0 o0.l.length o0.n, .eq true true, .eq true true, .eq (decide (1 > (q.na : Int))) false, .eq (decide (0 ≥ (q.nb : Int))) false, .eq (decide ((IntKind.i64.wrap (now + 1)) > (IntKind.i64.wrap (now + 1)))) false, .eq (decide ((IntKind.i64.wrap (now + 1)) < 1)) false, .eq false false, .eq (!(decide (i < p.t))) false, .eq (decide (i ≥ 0)) true, .eq (now == p.c) false, .eq (!(decide ((ky.size : Int) ≤ 16))) false, .eq (decide ((ky.size : Int) ≥ 1)) true, .app 0 0 0 15 1 192 15 o1.l.length o1.n, .app 0 0 0 2 1 16 2 o2.l.length o2.n, .app 0 0 0 2 1 16 2 o3.l.length o3.n, .eq true true, .eq true true, .app 0 0 0 15 1 192 15 o4.l.length o4.n, .call 96 [.s ByteArray.empty, .v (.string ky)] (.v (.int .i64 (cmpI ByteArray.empty ky))), .eq (!(imHas i [(i, IntKind.i64.wrap (now + 1), cI)])) false, .eq (!(decide (i < p.t))) false, .eq (decide (i ≥ 0)) true, .eq (decide ((cmpI ByteArray.empty ky) ≤ 0)) true, .ext 72 [.ifc 40 (.i .i64 6)] (.ifc 216 (.v rt)), .ext 306 [.v rt] (.b true), .keep k_get10], .at (tIH10 p q (IntKind.i64.wrap (now + 1)) (tk 5 tl) (imDel i [(i, IntKind.i64.wrap (now + 1), cI)]) (cI + 1) lM cM oc.j oc.jc i (some bd) m mcap (IntKind.i64.wrap (e + 1)) (kl + 1) o0.n o0.l  .ni)) := by kernel_rfl
def k_getx10 : List (Nat × List Nat) := [(0, []), (1, []), (2, []), (3, []), (4, []), (5, [1]), (6, [1]), (7, []), (8, []), (9, []), (10, []), (11, []), (12, []), (13, [1, 0, 2, 2, 2, 2, 2, 2, 2, 2, 2, 0]), (14, [1, 0, 0, 0, 0, 0, 0, 0, 0, 0, 0, 0, 0, 0, 3, 0]), (23, [])]
noncomputable def c_getx10 (rd : Bool) (ky vl lo hi : ByteArray) (ub : Bool) (lm : Int) (rv : Bool) : List Cmd := [.seg [true, true], .imm [(.int .i64 2), (.bool rd), (.string ky), (.string vl), (.string lo), (.string hi), (.bool ub), (.int .i64 lm), (.bool rv)], .seg [true, true, false], .app true, .seg [true, false, true], .ext (.ifc 216 (.v rt)), .seg [], .ext (.b true), .seg [], .canon k_getx10 scI]
theorem p_getx10 (p : TP) (q : TQ) (now tl : Int) (cI : Nat) (lM : List (Int × Int × Nat)) (cM : Nat) (j : Nat → Value) (jc : Nat → Nat → Value) (i : Int) (bd : Addr) (m mcap : Nat) (e : Int) (kl kc : Nat) (kr : List Value) (rd : Bool) (ky vl lo hi : ByteArray) (ub : Bool) (lm : Int) (rv : Bool) (er : SV) (o0 oc : Orc) : run Pr tSt (c_getx10 rd ky vl lo hi ub lm rv) [o0, oc] (tIH10 p q now tl [] cI lM cM j jc i (some bd) m mcap e kl kc kr er) =
    some ([.eq (decide (0 ≤ e) && decide (e < (m : Int))) true, .eq (decide (e < (m : Int))) true, .imm (bd.add ((e).toNat * 9)) 9 [(.int .i64 2), (.bool rd), (.string ky), (.string vl), (.string lo), (.string hi), (.bool ub), (.int .i64 lm), (.bool rv)], .eq (!(decide ((ky.size : Int) ≤ 16))) false, .eq (decide ((ky.size : Int) ≥ 1)) true, .eq (2 == 2) true, .app kl kc kr.length 1 (kl + 1) 16 0 o0.l.length o0.n, .eq (now == p.c) true, .eq (!(decide ((ky.size : Int) ≤ 16))) false, .eq (decide ((ky.size : Int) ≥ 1)) true, .ext 72 [.ifc 40 (.i .i64 6)] (.ifc 216 (.v rt)), .ext 306 [.v rt] (.b true), .keep k_getx10], .at (tIH10 p q now (tk 1 tl) [] cI lM cM oc.j oc.jc i (some bd) m mcap (IntKind.i64.wrap (e + 1)) (kl + 1) o0.n o0.l  (.ifc 252 (.v (innerV (oc.jc 14 14)))))) := by kernel_rfl
def k_rngb10 : List (Nat × List Nat) := [(0, []), (1, []), (2, []), (3, []), (4, []), (5, [1]), (6, [1]), (7, []), (8, []), (9, []), (10, []), (11, []), (12, []), (13, [1, 0, 2, 2, 2, 2, 2, 2, 2, 2, 2, 0]), (14, [1, 0, 0, 0, 0, 0, 0, 0, 0, 0, 0, 0, 0, 0, 3, 0]), (15, []), (25, [])]
noncomputable def c_rngb10 (rd : Bool) (ky vl lo hi : ByteArray) (lm : Int) (rv : Bool) : List Cmd := [.seg [true, true], .imm [(.int .i64 5), (.bool rd), (.string ky), (.string vl), (.string lo), (.string hi), (.bool false), (.int .i64 lm), (.bool rv)], .seg [false, true, false, false, false, true], .call (.v (.int .i64 (cmpI lo hi))), .seg [false], .app true, .seg [false, false, false], .call (.v (.int .i64 (cmpI lo hi))), .seg [false, false, true, false, false, false, false, false, false, true, true], .app false, .seg [], .app false, .seg [], .app false, .seg [true, true], .app false, .seg [], .call (.v (.int .i64 (cmpI ByteArray.empty lo))), .seg [true, true, false, false], .app false, .seg [], .canon k_rngb10 scI]
theorem p_rngb10 (p : TP) (q : TQ) (now tl : Int) (cI : Nat) (lM : List (Int × Int × Nat)) (cM : Nat) (j : Nat → Value) (jc : Nat → Nat → Value) (i : Int) (bd : Addr) (m mcap : Nat) (e : Int) (kl kc : Nat) (kr : List Value) (rd : Bool) (ky vl lo hi : ByteArray) (lm : Int) (rv : Bool) (er : SV) (o0 o1 o2 o3 o4 o5 oc : Orc) : run Pr tSt (c_rngb10 rd ky vl lo hi lm rv) [o0, o1, o2, o3, o4, o5, oc] (tIH10 p q now tl [] cI lM cM j jc i (some bd) m mcap e kl kc kr er) =
    some ([.eq (decide (0 ≤ e) && decide (e < (m : Int))) true, .eq (decide (e < (m : Int))) true, .imm (bd.add ((e).toNat * 9)) 9 [(.int .i64 5), (.bool rd), (.string ky), (.string vl), (.string lo), (.string hi), (.bool false), (.int .i64 lm), (.bool rv)], .eq true true, .eq false false, .eq (decide ((hi.size : Int) > 16)) false, .eq (decide ((lo.size : Int) > 16)) false, .eq (5 == 5) true, .eq (5 == 2) false, .call 96 [.v (.string lo), .v (.string hi)] (.v (.int .i64 (cmpI lo hi))), .eq (decide ((cmpI lo hi) ≥ 0)) false, .app 0 0 0 3 1 40 0 o0.l.length o0.n, .eq false false, .eq (decide ((hi.size : Int) > 16)) false, .eq (decide ((lo.size : Int) > 16)) false, .call 96 [.v (.string lo), .v (.string hi)] (.v (.int .i64 (cmpI lo hi))), .eq true true, .eq true true, .eq (decide (1 > (q.na : Int))) false, .eq (decide (0 ≥ (q.nb : Int))) false, .eq (decide ((IntKind.i64.wrap (now + 1)) > (IntKind.i64.wrap (now + 1)))) false, .eq (decide ((IntKind.i64.wrap (now + 1)) < 1)) false, .eq false false, .eq (!(decide (i < p.t))) false, .eq (decide (i ≥ 0)) true, .eq (now == p.c) false, .eq (!(decide ((cmpI lo hi) < 0))) false, .app 0 0 0 15 1 192 15 o1.l.length o1.n, .app 0 0 0 2 1 16 2 o2.l.length o2.n, .app 0 0 0 2 1 16 2 o3.l.length o3.n, .eq true true, .eq true true, .app 0 0 0 15 1 192 15 o4.l.length o4.n, .call 96 [.s ByteArray.empty, .v (.string lo)] (.v (.int .i64 (cmpI ByteArray.empty lo))), .eq (!(imHas i [(i, IntKind.i64.wrap (now + 1), cI)])) false, .eq (!(decide (i < p.t))) false, .eq (decide (i ≥ 0)) true, .eq (decide ((cmpI ByteArray.empty lo) ≤ 0)) true, .app 0 0 0 4 1 64 4 o5.l.length o5.n, .keep k_rngb10], .at (tIH11 p q (IntKind.i64.wrap (now + 1)) (tk 5 tl) (imDel i [(i, IntKind.i64.wrap (now + 1), cI)]) (cI + 1) lM cM oc.j oc.jc i (some bd) m mcap (IntKind.i64.wrap (e + 1)) kl kc kr 1 o0.n o0.l .ni)) := by kernel_rfl
def k_rngbx10 : List (Nat × List Nat) := [(0, []), (1, []), (2, []), (3, []), (4, []), (5, [1]), (6, [1]), (7, []), (8, []), (9, []), (10, []), (11, []), (12, []), (13, [1, 0, 2, 2, 2, 2, 2, 2, 2, 2, 2, 0]), (14, [1, 0, 0, 0, 0, 0, 0, 0, 0, 0, 0, 0, 0, 0, 3, 0]), (15, []), (25, [])]
noncomputable def c_rngbx10 (rd : Bool) (ky vl lo hi : ByteArray) (lm : Int) (rv : Bool) : List Cmd := [.seg [true, true], .imm [(.int .i64 5), (.bool rd), (.string ky), (.string vl), (.string lo), (.string hi), (.bool false), (.int .i64 lm), (.bool rv)], .seg [false, true, false, false, false, true], .call (.v (.int .i64 (cmpI lo hi))), .seg [false], .app true, .seg [false, false, false], .call (.v (.int .i64 (cmpI lo hi))), .seg [false, true], .canon k_rngbx10 scI]
theorem p_rngbx10 (p : TP) (q : TQ) (now tl : Int) (cI : Nat) (lM : List (Int × Int × Nat)) (cM : Nat) (j : Nat → Value) (jc : Nat → Nat → Value) (i : Int) (bd : Addr) (m mcap : Nat) (e : Int) (kl kc : Nat) (kr : List Value) (rd : Bool) (ky vl lo hi : ByteArray) (lm : Int) (rv : Bool) (er : SV) (o0 oc : Orc) : run Pr tSt (c_rngbx10 rd ky vl lo hi lm rv) [o0, oc] (tIH10 p q now tl [] cI lM cM j jc i (some bd) m mcap e kl kc kr er) =
    some ([.eq (decide (0 ≤ e) && decide (e < (m : Int))) true, .eq (decide (e < (m : Int))) true, .imm (bd.add ((e).toNat * 9)) 9 [(.int .i64 5), (.bool rd), (.string ky), (.string vl), (.string lo), (.string hi), (.bool false), (.int .i64 lm), (.bool rv)], .eq true true, .eq false false, .eq (decide ((hi.size : Int) > 16)) false, .eq (decide ((lo.size : Int) > 16)) false, .eq (5 == 5) true, .eq (5 == 2) false, .call 96 [.v (.string lo), .v (.string hi)] (.v (.int .i64 (cmpI lo hi))), .eq (decide ((cmpI lo hi) ≥ 0)) false, .app 0 0 0 3 1 40 0 o0.l.length o0.n, .eq false false, .eq (decide ((hi.size : Int) > 16)) false, .eq (decide ((lo.size : Int) > 16)) false, .call 96 [.v (.string lo), .v (.string hi)] (.v (.int .i64 (cmpI lo hi))), .eq (now == p.c) true, .eq (!(decide ((cmpI lo hi) < 0))) false, .keep k_rngbx10], .at (tIH11 p q now (tk 1 tl) [] cI lM cM oc.j oc.jc i (some bd) m mcap (IntKind.i64.wrap (e + 1)) kl kc kr 1 o0.n o0.l (.ifc 252 (.v (innerV (oc.jc 14 14)))))) := by kernel_rfl
def k_rngu10 : List (Nat × List Nat) := [(0, []), (1, []), (2, []), (3, []), (4, []), (5, [1]), (6, [1]), (7, []), (8, []), (9, []), (10, []), (11, []), (12, []), (13, [1, 0, 2, 2, 2, 2, 2, 2, 2, 2, 2, 0]), (14, [1, 0, 0, 0, 0, 0, 0, 0, 0, 0, 0, 0, 0, 0, 3, 0]), (15, []), (25, [])]
noncomputable def c_rngu10 (rd : Bool) (ky vl lo hi : ByteArray) (lm : Int) (rv : Bool) : List Cmd := [.seg [true, true], .imm [(.int .i64 5), (.bool rd), (.string ky), (.string vl), (.string lo), (.string hi), (.bool true), (.int .i64 lm), (.bool rv)], .seg [false, true, false, false, true, false, false], .app true, .seg [false, false, true, false, false, true, false, false, false, false, false, false, true, true], .app false, .seg [], .app false, .seg [], .app false, .seg [true, true], .app false, .seg [], .call (.v (.int .i64 (cmpI ByteArray.empty lo))), .seg [true, true, false, false], .app false, .seg [], .canon k_rngu10 scI]
theorem p_rngu10 (p : TP) (q : TQ) (now tl : Int) (cI : Nat) (lM : List (Int × Int × Nat)) (cM : Nat) (j : Nat → Value) (jc : Nat → Nat → Value) (i : Int) (bd : Addr) (m mcap : Nat) (e : Int) (kl kc : Nat) (kr : List Value) (rd : Bool) (ky vl lo hi : ByteArray) (lm : Int) (rv : Bool) (er : SV) (o0 o1 o2 o3 o4 o5 oc : Orc) : run Pr tSt (c_rngu10 rd ky vl lo hi lm rv) [o0, o1, o2, o3, o4, o5, oc] (tIH10 p q now tl [] cI lM cM j jc i (some bd) m mcap e kl kc kr er) =
    some ([.eq (decide (0 ≤ e) && decide (e < (m : Int))) true, .eq (decide (e < (m : Int))) true, .imm (bd.add ((e).toNat * 9)) 9 [(.int .i64 5), (.bool rd), (.string ky), (.string vl), (.string lo), (.string hi), (.bool true), (.int .i64 lm), (.bool rv)], .eq false false, .eq (!(decide (hi.data.toList = ByteArray.empty.data.toList))) false, .eq true true, .eq (decide ((hi.size : Int) > 16)) false, .eq (decide ((lo.size : Int) > 16)) false, .eq (5 == 5) true, .eq (5 == 2) false, .app 0 0 0 3 1 40 0 o0.l.length o0.n, .eq true true, .eq true true, .eq (decide (1 > (q.na : Int))) false, .eq (decide (0 ≥ (q.nb : Int))) false, .eq (decide ((IntKind.i64.wrap (now + 1)) > (IntKind.i64.wrap (now + 1)))) false, .eq (decide ((IntKind.i64.wrap (now + 1)) < 1)) false, .eq false false, .eq (!(decide (i < p.t))) false, .eq (decide (i ≥ 0)) true, .eq (now == p.c) false, .eq (!(decide (hi.data.toList = ByteArray.empty.data.toList))) false, .eq true true, .eq (decide ((hi.size : Int) > 16)) false, .eq (decide ((lo.size : Int) > 16)) false, .app 0 0 0 15 1 192 15 o1.l.length o1.n, .app 0 0 0 2 1 16 2 o2.l.length o2.n, .app 0 0 0 2 1 16 2 o3.l.length o3.n, .eq true true, .eq true true, .app 0 0 0 15 1 192 15 o4.l.length o4.n, .call 96 [.s ByteArray.empty, .v (.string lo)] (.v (.int .i64 (cmpI ByteArray.empty lo))), .eq (!(imHas i [(i, IntKind.i64.wrap (now + 1), cI)])) false, .eq (!(decide (i < p.t))) false, .eq (decide (i ≥ 0)) true, .eq (decide ((cmpI ByteArray.empty lo) ≤ 0)) true, .app 0 0 0 4 1 64 4 o5.l.length o5.n, .keep k_rngu10], .at (tIH11 p q (IntKind.i64.wrap (now + 1)) (tk 5 tl) (imDel i [(i, IntKind.i64.wrap (now + 1), cI)]) (cI + 1) lM cM oc.j oc.jc i (some bd) m mcap (IntKind.i64.wrap (e + 1)) kl kc kr 1 o0.n o0.l .ni)) := by kernel_rfl
def k_rngux10 : List (Nat × List Nat) := [(0, []), (1, []), (2, []), (3, []), (4, []), (5, [1]), (6, [1]), (7, []), (8, []), (9, []), (10, []), (11, []), (12, []), (13, [1, 0, 2, 2, 2, 2, 2, 2, 2, 2, 2, 0]), (14, [1, 0, 0, 0, 0, 0, 0, 0, 0, 0, 0, 0, 0, 0, 3, 0]), (15, []), (25, [])]
noncomputable def c_rngux10 (rd : Bool) (ky vl lo hi : ByteArray) (lm : Int) (rv : Bool) : List Cmd := [.seg [true, true], .imm [(.int .i64 5), (.bool rd), (.string ky), (.string vl), (.string lo), (.string hi), (.bool true), (.int .i64 lm), (.bool rv)], .seg [false, true, false, false, true, false, false], .app true, .seg [false, false, true, false, true], .canon k_rngux10 scI]
theorem p_rngux10 (p : TP) (q : TQ) (now tl : Int) (cI : Nat) (lM : List (Int × Int × Nat)) (cM : Nat) (j : Nat → Value) (jc : Nat → Nat → Value) (i : Int) (bd : Addr) (m mcap : Nat) (e : Int) (kl kc : Nat) (kr : List Value) (rd : Bool) (ky vl lo hi : ByteArray) (lm : Int) (rv : Bool) (er : SV) (o0 oc : Orc) : run Pr tSt (c_rngux10 rd ky vl lo hi lm rv) [o0, oc] (tIH10 p q now tl [] cI lM cM j jc i (some bd) m mcap e kl kc kr er) =
    some ([.eq (decide (0 ≤ e) && decide (e < (m : Int))) true, .eq (decide (e < (m : Int))) true, .imm (bd.add ((e).toNat * 9)) 9 [(.int .i64 5), (.bool rd), (.string ky), (.string vl), (.string lo), (.string hi), (.bool true), (.int .i64 lm), (.bool rv)], .eq false false, .eq (!(decide (hi.data.toList = ByteArray.empty.data.toList))) false, .eq true true, .eq (decide ((hi.size : Int) > 16)) false, .eq (decide ((lo.size : Int) > 16)) false, .eq (5 == 5) true, .eq (5 == 2) false, .app 0 0 0 3 1 40 0 o0.l.length o0.n, .eq (now == p.c) true, .eq (!(decide (hi.data.toList = ByteArray.empty.data.toList))) false, .eq true true, .eq (decide ((hi.size : Int) > 16)) false, .eq (decide ((lo.size : Int) > 16)) false, .keep k_rngux10], .at (tIH11 p q now (tk 1 tl) [] cI lM cM oc.j oc.jc i (some bd) m mcap (IntKind.i64.wrap (e + 1)) kl kc kr 1 o0.n o0.l (.ifc 252 (.v (innerV (oc.jc 14 14)))))) := by kernel_rfl
def k_getSN10 : List (Nat × List Nat) := [(0, []), (1, []), (2, []), (3, []), (4, []), (5, [1]), (6, [1]), (7, []), (8, []), (9, []), (10, []), (11, []), (12, []), (13, [1, 0, 2, 2, 2, 2, 2, 2, 2, 2, 2, 0]), (14, [1, 0, 0, 0, 0, 0, 0, 0, 0, 0, 0, 0, 0, 0, 3, 0]), (15, [])]
noncomputable def c_getSN10 (rd : Bool) (ky vl lo hi : ByteArray) (ub : Bool) (lm : Int) (rv : Bool) : List Cmd := [.seg [true, true], .imm [(.int .i64 2), (.bool rd), (.string ky), (.string vl), (.string lo), (.string hi), (.bool ub), (.int .i64 lm), (.bool rv)], .seg [true, false], .canon k_getSN10 scI]
theorem p_getSN10 (p : TP) (q : TQ) (now tl : Int) (cI : Nat) (lM : List (Int × Int × Nat)) (cM : Nat) (j : Nat → Value) (jc : Nat → Nat → Value) (i : Int) (bd : Addr) (m mcap : Nat) (e : Int) (kl kc : Nat) (kr : List Value) (rd : Bool) (ky vl lo hi : ByteArray) (ub : Bool) (lm : Int) (rv : Bool) (oc : Orc) : run Pr tSt (c_getSN10 rd ky vl lo hi ub lm rv) [oc] (tIH10 p q now tl [] cI lM cM j jc i (some bd) m mcap e kl kc kr .ni) =
    some ([.eq (decide (0 ≤ e) && decide (e < (m : Int))) true, .eq (decide (e < (m : Int))) true, .imm (bd.add ((e).toNat * 9)) 9 [(.int .i64 2), (.bool rd), (.string ky), (.string vl), (.string lo), (.string hi), (.bool ub), (.int .i64 lm), (.bool rv)], .eq (decide ((ky.size : Int) ≥ 1)) false, .eq (2 == 2) true, .keep k_getSN10], .at (tIH10 p q now tl [] cI lM cM oc.j oc.jc i (some bd) m mcap (IntKind.i64.wrap (e + 1)) kl kc kr  .ni)) := by kernel_rfl
def k_getSI10 : List (Nat × List Nat) := [(0, []), (1, []), (2, []), (3, []), (4, []), (5, [1]), (6, [1]), (7, []), (8, []), (9, []), (10, []), (11, []), (12, []), (13, [1, 0, 2, 2, 2, 2, 2, 2, 2, 2, 2, 0]), (14, [1, 0, 0, 0, 0, 0, 0, 0, 0, 0, 0, 0, 0, 0, 3, 0]), (15, [])]
noncomputable def c_getSI10 (rd : Bool) (ky vl lo hi : ByteArray) (ub : Bool) (lm : Int) (rv : Bool) : List Cmd := [.seg [true, true], .imm [(.int .i64 2), (.bool rd), (.string ky), (.string vl), (.string lo), (.string hi), (.bool ub), (.int .i64 lm), (.bool rv)], .seg [true, false], .canon k_getSI10 scI]
theorem p_getSI10 (p : TP) (q : TQ) (now tl : Int) (cI : Nat) (lM : List (Int × Int × Nat)) (cM : Nat) (j : Nat → Value) (jc : Nat → Nat → Value) (i : Int) (bd : Addr) (m mcap : Nat) (e : Int) (kl kc : Nat) (kr : List Value) (rd : Bool) (ky vl lo hi : ByteArray) (ub : Bool) (lm : Int) (rv : Bool) (x : Value) (oc : Orc) : run Pr tSt (c_getSI10 rd ky vl lo hi ub lm rv) [oc] (tIH10 p q now tl [] cI lM cM j jc i (some bd) m mcap e kl kc kr (.ifc 252 (.v x))) =
    some ([.eq (decide (0 ≤ e) && decide (e < (m : Int))) true, .eq (decide (e < (m : Int))) true, .imm (bd.add ((e).toNat * 9)) 9 [(.int .i64 2), (.bool rd), (.string ky), (.string vl), (.string lo), (.string hi), (.bool ub), (.int .i64 lm), (.bool rv)], .eq (decide ((ky.size : Int) ≥ 1)) false, .eq (2 == 2) true, .keep k_getSI10], .at (tIH10 p q now tl [] cI lM cM oc.j oc.jc i (some bd) m mcap (IntKind.i64.wrap (e + 1)) kl kc kr  (.ifc 252 (.v (innerV (oc.jc 14 14)))))) := by kernel_rfl
def k_getLN10 : List (Nat × List Nat) := [(0, []), (1, []), (2, []), (3, []), (4, []), (5, [1]), (6, [1]), (7, []), (8, []), (9, []), (10, []), (11, []), (12, []), (13, [1, 0, 2, 2, 2, 2, 2, 2, 2, 2, 2, 0]), (14, [1, 0, 0, 0, 0, 0, 0, 0, 0, 0, 0, 0, 0, 0, 3, 0]), (15, [])]
noncomputable def c_getLN10 (rd : Bool) (ky vl lo hi : ByteArray) (ub : Bool) (lm : Int) (rv : Bool) : List Cmd := [.seg [true, true], .imm [(.int .i64 2), (.bool rd), (.string ky), (.string vl), (.string lo), (.string hi), (.bool ub), (.int .i64 lm), (.bool rv)], .seg [true, true, true], .canon k_getLN10 scI]
theorem p_getLN10 (p : TP) (q : TQ) (now tl : Int) (cI : Nat) (lM : List (Int × Int × Nat)) (cM : Nat) (j : Nat → Value) (jc : Nat → Nat → Value) (i : Int) (bd : Addr) (m mcap : Nat) (e : Int) (kl kc : Nat) (kr : List Value) (rd : Bool) (ky vl lo hi : ByteArray) (ub : Bool) (lm : Int) (rv : Bool) (oc : Orc) : run Pr tSt (c_getLN10 rd ky vl lo hi ub lm rv) [oc] (tIH10 p q now tl [] cI lM cM j jc i (some bd) m mcap e kl kc kr .ni) =
    some ([.eq (decide (0 ≤ e) && decide (e < (m : Int))) true, .eq (decide (e < (m : Int))) true, .imm (bd.add ((e).toNat * 9)) 9 [(.int .i64 2), (.bool rd), (.string ky), (.string vl), (.string lo), (.string hi), (.bool ub), (.int .i64 lm), (.bool rv)], .eq (!(decide ((ky.size : Int) ≤ 16))) true, .eq (decide ((ky.size : Int) ≥ 1)) true, .eq (2 == 2) true, .keep k_getLN10], .at (tIH10 p q now tl [] cI lM cM oc.j oc.jc i (some bd) m mcap (IntKind.i64.wrap (e + 1)) kl kc kr  .ni)) := by kernel_rfl
def k_getLI10 : List (Nat × List Nat) := [(0, []), (1, []), (2, []), (3, []), (4, []), (5, [1]), (6, [1]), (7, []), (8, []), (9, []), (10, []), (11, []), (12, []), (13, [1, 0, 2, 2, 2, 2, 2, 2, 2, 2, 2, 0]), (14, [1, 0, 0, 0, 0, 0, 0, 0, 0, 0, 0, 0, 0, 0, 3, 0]), (15, [])]
noncomputable def c_getLI10 (rd : Bool) (ky vl lo hi : ByteArray) (ub : Bool) (lm : Int) (rv : Bool) : List Cmd := [.seg [true, true], .imm [(.int .i64 2), (.bool rd), (.string ky), (.string vl), (.string lo), (.string hi), (.bool ub), (.int .i64 lm), (.bool rv)], .seg [true, true, true], .canon k_getLI10 scI]
theorem p_getLI10 (p : TP) (q : TQ) (now tl : Int) (cI : Nat) (lM : List (Int × Int × Nat)) (cM : Nat) (j : Nat → Value) (jc : Nat → Nat → Value) (i : Int) (bd : Addr) (m mcap : Nat) (e : Int) (kl kc : Nat) (kr : List Value) (rd : Bool) (ky vl lo hi : ByteArray) (ub : Bool) (lm : Int) (rv : Bool) (x : Value) (oc : Orc) : run Pr tSt (c_getLI10 rd ky vl lo hi ub lm rv) [oc] (tIH10 p q now tl [] cI lM cM j jc i (some bd) m mcap e kl kc kr (.ifc 252 (.v x))) =
    some ([.eq (decide (0 ≤ e) && decide (e < (m : Int))) true, .eq (decide (e < (m : Int))) true, .imm (bd.add ((e).toNat * 9)) 9 [(.int .i64 2), (.bool rd), (.string ky), (.string vl), (.string lo), (.string hi), (.bool ub), (.int .i64 lm), (.bool rv)], .eq (!(decide ((ky.size : Int) ≤ 16))) true, .eq (decide ((ky.size : Int) ≥ 1)) true, .eq (2 == 2) true, .keep k_getLI10], .at (tIH10 p q now tl [] cI lM cM oc.j oc.jc i (some bd) m mcap (IntKind.i64.wrap (e + 1)) kl kc kr  (.ifc 252 (.v (innerV (oc.jc 14 14)))))) := by kernel_rfl
def k_rngbcN10 : List (Nat × List Nat) := [(0, []), (1, []), (2, []), (3, []), (4, []), (5, [1]), (6, [1]), (7, []), (8, []), (9, []), (10, []), (11, []), (12, []), (13, [1, 0, 2, 2, 2, 2, 2, 2, 2, 2, 2, 0]), (14, [1, 0, 0, 0, 0, 0, 0, 0, 0, 0, 0, 0, 0, 0, 3, 0]), (15, [])]
noncomputable def c_rngbcN10 (rd : Bool) (ky vl lo hi : ByteArray) (lm : Int) (rv : Bool) : List Cmd := [.seg [true, true], .imm [(.int .i64 5), (.bool rd), (.string ky), (.string vl), (.string lo), (.string hi), (.bool false), (.int .i64 lm), (.bool rv)], .seg [false, true, false, false, false, true], .call (.v (.int .i64 (cmpI lo hi))), .seg [true], .canon k_rngbcN10 scI]
theorem p_rngbcN10 (p : TP) (q : TQ) (now tl : Int) (cI : Nat) (lM : List (Int × Int × Nat)) (cM : Nat) (j : Nat → Value) (jc : Nat → Nat → Value) (i : Int) (bd : Addr) (m mcap : Nat) (e : Int) (kl kc : Nat) (kr : List Value) (rd : Bool) (ky vl lo hi : ByteArray) (lm : Int) (rv : Bool) (oc : Orc) : run Pr tSt (c_rngbcN10 rd ky vl lo hi lm rv) [oc] (tIH10 p q now tl [] cI lM cM j jc i (some bd) m mcap e kl kc kr .ni) =
    some ([.eq (decide (0 ≤ e) && decide (e < (m : Int))) true, .eq (decide (e < (m : Int))) true, .imm (bd.add ((e).toNat * 9)) 9 [(.int .i64 5), (.bool rd), (.string ky), (.string vl), (.string lo), (.string hi), (.bool false), (.int .i64 lm), (.bool rv)], .eq true true, .eq false false, .eq (decide ((hi.size : Int) > 16)) false, .eq (decide ((lo.size : Int) > 16)) false, .eq (5 == 5) true, .eq (5 == 2) false, .call 96 [.v (.string lo), .v (.string hi)] (.v (.int .i64 (cmpI lo hi))), .eq (decide ((cmpI lo hi) ≥ 0)) true, .keep k_rngbcN10], .at (tIH10 p q now tl [] cI lM cM oc.j oc.jc i (some bd) m mcap (IntKind.i64.wrap (e + 1)) kl kc kr  .ni)) := by kernel_rfl
def k_rngbcI10 : List (Nat × List Nat) := [(0, []), (1, []), (2, []), (3, []), (4, []), (5, [1]), (6, [1]), (7, []), (8, []), (9, []), (10, []), (11, []), (12, []), (13, [1, 0, 2, 2, 2, 2, 2, 2, 2, 2, 2, 0]), (14, [1, 0, 0, 0, 0, 0, 0, 0, 0, 0, 0, 0, 0, 0, 3, 0]), (15, [])]
noncomputable def c_rngbcI10 (rd : Bool) (ky vl lo hi : ByteArray) (lm : Int) (rv : Bool) : List Cmd := [.seg [true, true], .imm [(.int .i64 5), (.bool rd), (.string ky), (.string vl), (.string lo), (.string hi), (.bool false), (.int .i64 lm), (.bool rv)], .seg [false, true, false, false, false, true], .call (.v (.int .i64 (cmpI lo hi))), .seg [true], .canon k_rngbcI10 scI]
theorem p_rngbcI10 (p : TP) (q : TQ) (now tl : Int) (cI : Nat) (lM : List (Int × Int × Nat)) (cM : Nat) (j : Nat → Value) (jc : Nat → Nat → Value) (i : Int) (bd : Addr) (m mcap : Nat) (e : Int) (kl kc : Nat) (kr : List Value) (rd : Bool) (ky vl lo hi : ByteArray) (lm : Int) (rv : Bool) (x : Value) (oc : Orc) : run Pr tSt (c_rngbcI10 rd ky vl lo hi lm rv) [oc] (tIH10 p q now tl [] cI lM cM j jc i (some bd) m mcap e kl kc kr (.ifc 252 (.v x))) =
    some ([.eq (decide (0 ≤ e) && decide (e < (m : Int))) true, .eq (decide (e < (m : Int))) true, .imm (bd.add ((e).toNat * 9)) 9 [(.int .i64 5), (.bool rd), (.string ky), (.string vl), (.string lo), (.string hi), (.bool false), (.int .i64 lm), (.bool rv)], .eq true true, .eq false false, .eq (decide ((hi.size : Int) > 16)) false, .eq (decide ((lo.size : Int) > 16)) false, .eq (5 == 5) true, .eq (5 == 2) false, .call 96 [.v (.string lo), .v (.string hi)] (.v (.int .i64 (cmpI lo hi))), .eq (decide ((cmpI lo hi) ≥ 0)) true, .keep k_rngbcI10], .at (tIH10 p q now tl [] cI lM cM oc.j oc.jc i (some bd) m mcap (IntKind.i64.wrap (e + 1)) kl kc kr  (.ifc 252 (.v (innerV (oc.jc 14 14)))))) := by kernel_rfl
def k_rngLN10 : List (Nat × List Nat) := [(0, []), (1, []), (2, []), (3, []), (4, []), (5, [1]), (6, [1]), (7, []), (8, []), (9, []), (10, []), (11, []), (12, []), (13, [1, 0, 2, 2, 2, 2, 2, 2, 2, 2, 2, 0]), (14, [1, 0, 0, 0, 0, 0, 0, 0, 0, 0, 0, 0, 0, 0, 3, 0]), (15, [])]
noncomputable def c_rngLN10 (rd : Bool) (ky vl lo hi : ByteArray) (ub : Bool) (lm : Int) (rv : Bool) : List Cmd := [.seg [true, true], .imm [(.int .i64 5), (.bool rd), (.string ky), (.string vl), (.string lo), (.string hi), (.bool ub), (.int .i64 lm), (.bool rv)], .seg [false, true, true], .canon k_rngLN10 scI]
theorem p_rngLN10 (p : TP) (q : TQ) (now tl : Int) (cI : Nat) (lM : List (Int × Int × Nat)) (cM : Nat) (j : Nat → Value) (jc : Nat → Nat → Value) (i : Int) (bd : Addr) (m mcap : Nat) (e : Int) (kl kc : Nat) (kr : List Value) (rd : Bool) (ky vl lo hi : ByteArray) (ub : Bool) (lm : Int) (rv : Bool) (oc : Orc) : run Pr tSt (c_rngLN10 rd ky vl lo hi ub lm rv) [oc] (tIH10 p q now tl [] cI lM cM j jc i (some bd) m mcap e kl kc kr .ni) =
    some ([.eq (decide (0 ≤ e) && decide (e < (m : Int))) true, .eq (decide (e < (m : Int))) true, .imm (bd.add ((e).toNat * 9)) 9 [(.int .i64 5), (.bool rd), (.string ky), (.string vl), (.string lo), (.string hi), (.bool ub), (.int .i64 lm), (.bool rv)], .eq (decide ((lo.size : Int) > 16)) true, .eq (5 == 5) true, .eq (5 == 2) false, .keep k_rngLN10], .at (tIH10 p q now tl [] cI lM cM oc.j oc.jc i (some bd) m mcap (IntKind.i64.wrap (e + 1)) kl kc kr  .ni)) := by kernel_rfl
def k_rngLI10 : List (Nat × List Nat) := [(0, []), (1, []), (2, []), (3, []), (4, []), (5, [1]), (6, [1]), (7, []), (8, []), (9, []), (10, []), (11, []), (12, []), (13, [1, 0, 2, 2, 2, 2, 2, 2, 2, 2, 2, 0]), (14, [1, 0, 0, 0, 0, 0, 0, 0, 0, 0, 0, 0, 0, 0, 3, 0]), (15, [])]
noncomputable def c_rngLI10 (rd : Bool) (ky vl lo hi : ByteArray) (ub : Bool) (lm : Int) (rv : Bool) : List Cmd := [.seg [true, true], .imm [(.int .i64 5), (.bool rd), (.string ky), (.string vl), (.string lo), (.string hi), (.bool ub), (.int .i64 lm), (.bool rv)], .seg [false, true, true], .canon k_rngLI10 scI]
theorem p_rngLI10 (p : TP) (q : TQ) (now tl : Int) (cI : Nat) (lM : List (Int × Int × Nat)) (cM : Nat) (j : Nat → Value) (jc : Nat → Nat → Value) (i : Int) (bd : Addr) (m mcap : Nat) (e : Int) (kl kc : Nat) (kr : List Value) (rd : Bool) (ky vl lo hi : ByteArray) (ub : Bool) (lm : Int) (rv : Bool) (x : Value) (oc : Orc) : run Pr tSt (c_rngLI10 rd ky vl lo hi ub lm rv) [oc] (tIH10 p q now tl [] cI lM cM j jc i (some bd) m mcap e kl kc kr (.ifc 252 (.v x))) =
    some ([.eq (decide (0 ≤ e) && decide (e < (m : Int))) true, .eq (decide (e < (m : Int))) true, .imm (bd.add ((e).toNat * 9)) 9 [(.int .i64 5), (.bool rd), (.string ky), (.string vl), (.string lo), (.string hi), (.bool ub), (.int .i64 lm), (.bool rv)], .eq (decide ((lo.size : Int) > 16)) true, .eq (5 == 5) true, .eq (5 == 2) false, .keep k_rngLI10], .at (tIH10 p q now tl [] cI lM cM oc.j oc.jc i (some bd) m mcap (IntKind.i64.wrap (e + 1)) kl kc kr  (.ifc 252 (.v (innerV (oc.jc 14 14)))))) := by kernel_rfl
def k_rngHN10 : List (Nat × List Nat) := [(0, []), (1, []), (2, []), (3, []), (4, []), (5, [1]), (6, [1]), (7, []), (8, []), (9, []), (10, []), (11, []), (12, []), (13, [1, 0, 2, 2, 2, 2, 2, 2, 2, 2, 2, 0]), (14, [1, 0, 0, 0, 0, 0, 0, 0, 0, 0, 0, 0, 0, 0, 3, 0]), (15, [])]
noncomputable def c_rngHN10 (rd : Bool) (ky vl lo hi : ByteArray) (ub : Bool) (lm : Int) (rv : Bool) : List Cmd := [.seg [true, true], .imm [(.int .i64 5), (.bool rd), (.string ky), (.string vl), (.string lo), (.string hi), (.bool ub), (.int .i64 lm), (.bool rv)], .seg [false, true, false, true], .canon k_rngHN10 scI]
theorem p_rngHN10 (p : TP) (q : TQ) (now tl : Int) (cI : Nat) (lM : List (Int × Int × Nat)) (cM : Nat) (j : Nat → Value) (jc : Nat → Nat → Value) (i : Int) (bd : Addr) (m mcap : Nat) (e : Int) (kl kc : Nat) (kr : List Value) (rd : Bool) (ky vl lo hi : ByteArray) (ub : Bool) (lm : Int) (rv : Bool) (oc : Orc) : run Pr tSt (c_rngHN10 rd ky vl lo hi ub lm rv) [oc] (tIH10 p q now tl [] cI lM cM j jc i (some bd) m mcap e kl kc kr .ni) =
    some ([.eq (decide (0 ≤ e) && decide (e < (m : Int))) true, .eq (decide (e < (m : Int))) true, .imm (bd.add ((e).toNat * 9)) 9 [(.int .i64 5), (.bool rd), (.string ky), (.string vl), (.string lo), (.string hi), (.bool ub), (.int .i64 lm), (.bool rv)], .eq (decide ((hi.size : Int) > 16)) true, .eq (decide ((lo.size : Int) > 16)) false, .eq (5 == 5) true, .eq (5 == 2) false, .keep k_rngHN10], .at (tIH10 p q now tl [] cI lM cM oc.j oc.jc i (some bd) m mcap (IntKind.i64.wrap (e + 1)) kl kc kr  .ni)) := by kernel_rfl
def k_rngHI10 : List (Nat × List Nat) := [(0, []), (1, []), (2, []), (3, []), (4, []), (5, [1]), (6, [1]), (7, []), (8, []), (9, []), (10, []), (11, []), (12, []), (13, [1, 0, 2, 2, 2, 2, 2, 2, 2, 2, 2, 0]), (14, [1, 0, 0, 0, 0, 0, 0, 0, 0, 0, 0, 0, 0, 0, 3, 0]), (15, [])]
noncomputable def c_rngHI10 (rd : Bool) (ky vl lo hi : ByteArray) (ub : Bool) (lm : Int) (rv : Bool) : List Cmd := [.seg [true, true], .imm [(.int .i64 5), (.bool rd), (.string ky), (.string vl), (.string lo), (.string hi), (.bool ub), (.int .i64 lm), (.bool rv)], .seg [false, true, false, true], .canon k_rngHI10 scI]
theorem p_rngHI10 (p : TP) (q : TQ) (now tl : Int) (cI : Nat) (lM : List (Int × Int × Nat)) (cM : Nat) (j : Nat → Value) (jc : Nat → Nat → Value) (i : Int) (bd : Addr) (m mcap : Nat) (e : Int) (kl kc : Nat) (kr : List Value) (rd : Bool) (ky vl lo hi : ByteArray) (ub : Bool) (lm : Int) (rv : Bool) (x : Value) (oc : Orc) : run Pr tSt (c_rngHI10 rd ky vl lo hi ub lm rv) [oc] (tIH10 p q now tl [] cI lM cM j jc i (some bd) m mcap e kl kc kr (.ifc 252 (.v x))) =
    some ([.eq (decide (0 ≤ e) && decide (e < (m : Int))) true, .eq (decide (e < (m : Int))) true, .imm (bd.add ((e).toNat * 9)) 9 [(.int .i64 5), (.bool rd), (.string ky), (.string vl), (.string lo), (.string hi), (.bool ub), (.int .i64 lm), (.bool rv)], .eq (decide ((hi.size : Int) > 16)) true, .eq (decide ((lo.size : Int) > 16)) false, .eq (5 == 5) true, .eq (5 == 2) false, .keep k_rngHI10], .at (tIH10 p q now tl [] cI lM cM oc.j oc.jc i (some bd) m mcap (IntKind.i64.wrap (e + 1)) kl kc kr  (.ifc 252 (.v (innerV (oc.jc 14 14)))))) := by kernel_rfl
def k_rngucN10 : List (Nat × List Nat) := [(0, []), (1, []), (2, []), (3, []), (4, []), (5, [1]), (6, [1]), (7, []), (8, []), (9, []), (10, []), (11, []), (12, []), (13, [1, 0, 2, 2, 2, 2, 2, 2, 2, 2, 2, 0]), (14, [1, 0, 0, 0, 0, 0, 0, 0, 0, 0, 0, 0, 0, 0, 3, 0]), (15, [])]
noncomputable def c_rngucN10 (rd : Bool) (ky vl lo hi : ByteArray) (lm : Int) (rv : Bool) : List Cmd := [.seg [true, true], .imm [(.int .i64 5), (.bool rd), (.string ky), (.string vl), (.string lo), (.string hi), (.bool true), (.int .i64 lm), (.bool rv)], .seg [false, true, false, false, true, true], .canon k_rngucN10 scI]
theorem p_rngucN10 (p : TP) (q : TQ) (now tl : Int) (cI : Nat) (lM : List (Int × Int × Nat)) (cM : Nat) (j : Nat → Value) (jc : Nat → Nat → Value) (i : Int) (bd : Addr) (m mcap : Nat) (e : Int) (kl kc : Nat) (kr : List Value) (rd : Bool) (ky vl lo hi : ByteArray) (lm : Int) (rv : Bool) (oc : Orc) : run Pr tSt (c_rngucN10 rd ky vl lo hi lm rv) [oc] (tIH10 p q now tl [] cI lM cM j jc i (some bd) m mcap e kl kc kr .ni) =
    some ([.eq (decide (0 ≤ e) && decide (e < (m : Int))) true, .eq (decide (e < (m : Int))) true, .imm (bd.add ((e).toNat * 9)) 9 [(.int .i64 5), (.bool rd), (.string ky), (.string vl), (.string lo), (.string hi), (.bool true), (.int .i64 lm), (.bool rv)], .eq (!(decide (hi.data.toList = ByteArray.empty.data.toList))) true, .eq true true, .eq (decide ((hi.size : Int) > 16)) false, .eq (decide ((lo.size : Int) > 16)) false, .eq (5 == 5) true, .eq (5 == 2) false, .keep k_rngucN10], .at (tIH10 p q now tl [] cI lM cM oc.j oc.jc i (some bd) m mcap (IntKind.i64.wrap (e + 1)) kl kc kr  .ni)) := by kernel_rfl
def k_rngucI10 : List (Nat × List Nat) := [(0, []), (1, []), (2, []), (3, []), (4, []), (5, [1]), (6, [1]), (7, []), (8, []), (9, []), (10, []), (11, []), (12, []), (13, [1, 0, 2, 2, 2, 2, 2, 2, 2, 2, 2, 0]), (14, [1, 0, 0, 0, 0, 0, 0, 0, 0, 0, 0, 0, 0, 0, 3, 0]), (15, [])]
noncomputable def c_rngucI10 (rd : Bool) (ky vl lo hi : ByteArray) (lm : Int) (rv : Bool) : List Cmd := [.seg [true, true], .imm [(.int .i64 5), (.bool rd), (.string ky), (.string vl), (.string lo), (.string hi), (.bool true), (.int .i64 lm), (.bool rv)], .seg [false, true, false, false, true, true], .canon k_rngucI10 scI]
theorem p_rngucI10 (p : TP) (q : TQ) (now tl : Int) (cI : Nat) (lM : List (Int × Int × Nat)) (cM : Nat) (j : Nat → Value) (jc : Nat → Nat → Value) (i : Int) (bd : Addr) (m mcap : Nat) (e : Int) (kl kc : Nat) (kr : List Value) (rd : Bool) (ky vl lo hi : ByteArray) (lm : Int) (rv : Bool) (x : Value) (oc : Orc) : run Pr tSt (c_rngucI10 rd ky vl lo hi lm rv) [oc] (tIH10 p q now tl [] cI lM cM j jc i (some bd) m mcap e kl kc kr (.ifc 252 (.v x))) =
    some ([.eq (decide (0 ≤ e) && decide (e < (m : Int))) true, .eq (decide (e < (m : Int))) true, .imm (bd.add ((e).toNat * 9)) 9 [(.int .i64 5), (.bool rd), (.string ky), (.string vl), (.string lo), (.string hi), (.bool true), (.int .i64 lm), (.bool rv)], .eq (!(decide (hi.data.toList = ByteArray.empty.data.toList))) true, .eq true true, .eq (decide ((hi.size : Int) > 16)) false, .eq (decide ((lo.size : Int) > 16)) false, .eq (5 == 5) true, .eq (5 == 2) false, .keep k_rngucI10], .at (tIH10 p q now tl [] cI lM cM oc.j oc.jc i (some bd) m mcap (IntKind.i64.wrap (e + 1)) kl kc kr  (.ifc 252 (.v (innerV (oc.jc 14 14)))))) := by kernel_rfl
def k_othN10 : List (Nat × List Nat) := [(0, []), (1, []), (2, []), (3, []), (4, []), (5, [1]), (6, [1]), (7, []), (8, []), (9, []), (10, []), (11, []), (12, []), (13, [1, 0, 2, 2, 2, 2, 2, 2, 2, 2, 2, 0]), (14, [1, 0, 0, 0, 0, 0, 0, 0, 0, 0, 0, 0, 0, 0, 3, 0]), (15, [])]
noncomputable def c_othN10 (kd : Int) (rd : Bool) (ky vl lo hi : ByteArray) (ub : Bool) (lm : Int) (rv : Bool) : List Cmd := [.seg [true, true], .imm [(.int .i64 kd), (.bool rd), (.string ky), (.string vl), (.string lo), (.string hi), (.bool ub), (.int .i64 lm), (.bool rv)], .seg [false, false], .canon k_othN10 scI]
theorem p_othN10 (p : TP) (q : TQ) (now tl : Int) (cI : Nat) (lM : List (Int × Int × Nat)) (cM : Nat) (j : Nat → Value) (jc : Nat → Nat → Value) (i : Int) (bd : Addr) (m mcap : Nat) (e : Int) (kl kc : Nat) (kr : List Value) (kd : Int) (rd : Bool) (ky vl lo hi : ByteArray) (ub : Bool) (lm : Int) (rv : Bool) (oc : Orc) : run Pr tSt (c_othN10 kd rd ky vl lo hi ub lm rv) [oc] (tIH10 p q now tl [] cI lM cM j jc i (some bd) m mcap e kl kc kr .ni) =
    some ([.eq (decide (0 ≤ e) && decide (e < (m : Int))) true, .eq (decide (e < (m : Int))) true, .imm (bd.add ((e).toNat * 9)) 9 [(.int .i64 kd), (.bool rd), (.string ky), (.string vl), (.string lo), (.string hi), (.bool ub), (.int .i64 lm), (.bool rv)], .eq (kd == 5) false, .eq (kd == 2) false, .keep k_othN10], .at (tIH10 p q now tl [] cI lM cM oc.j oc.jc i (some bd) m mcap (IntKind.i64.wrap (e + 1)) kl kc kr  .ni)) := by kernel_rfl
def k_othI10 : List (Nat × List Nat) := [(0, []), (1, []), (2, []), (3, []), (4, []), (5, [1]), (6, [1]), (7, []), (8, []), (9, []), (10, []), (11, []), (12, []), (13, [1, 0, 2, 2, 2, 2, 2, 2, 2, 2, 2, 0]), (14, [1, 0, 0, 0, 0, 0, 0, 0, 0, 0, 0, 0, 0, 0, 3, 0]), (15, [])]
noncomputable def c_othI10 (kd : Int) (rd : Bool) (ky vl lo hi : ByteArray) (ub : Bool) (lm : Int) (rv : Bool) : List Cmd := [.seg [true, true], .imm [(.int .i64 kd), (.bool rd), (.string ky), (.string vl), (.string lo), (.string hi), (.bool ub), (.int .i64 lm), (.bool rv)], .seg [false, false], .canon k_othI10 scI]
theorem p_othI10 (p : TP) (q : TQ) (now tl : Int) (cI : Nat) (lM : List (Int × Int × Nat)) (cM : Nat) (j : Nat → Value) (jc : Nat → Nat → Value) (i : Int) (bd : Addr) (m mcap : Nat) (e : Int) (kl kc : Nat) (kr : List Value) (kd : Int) (rd : Bool) (ky vl lo hi : ByteArray) (ub : Bool) (lm : Int) (rv : Bool) (x : Value) (oc : Orc) : run Pr tSt (c_othI10 kd rd ky vl lo hi ub lm rv) [oc] (tIH10 p q now tl [] cI lM cM j jc i (some bd) m mcap e kl kc kr (.ifc 252 (.v x))) =
    some ([.eq (decide (0 ≤ e) && decide (e < (m : Int))) true, .eq (decide (e < (m : Int))) true, .imm (bd.add ((e).toNat * 9)) 9 [(.int .i64 kd), (.bool rd), (.string ky), (.string vl), (.string lo), (.string hi), (.bool ub), (.int .i64 lm), (.bool rv)], .eq (kd == 5) false, .eq (kd == 2) false, .keep k_othI10], .at (tIH10 p q now tl [] cI lM cM oc.j oc.jc i (some bd) m mcap (IntKind.i64.wrap (e + 1)) kl kc kr  (.ifc 252 (.v (innerV (oc.jc 14 14)))))) := by kernel_rfl
theorem p_out10 (p : TP) (q : TQ) (now tl : Int) (lI : List (Int × Int × Nat)) (cI : Nat) (lM : List (Int × Int × Nat)) (cM : Nat) (j : Nat → Value) (jc : Nat → Nat → Value) (i : Int) (bo : Option Addr) (m mcap : Nat) (e : Int) (kl kc : Nat) (kr : List Value) (er : SV) (oc : Orc) : run Pr tSt [.seg [false], .canon keepX scO] [oc] (tIH10 p q now tl lI cI lM cM j jc i bo m mcap e kl kc kr er) =
    some ([.eq (decide (e < (m : Int))) false, .keep keepX], .at (tOH p q now tl lI cI lM cM oc.j oc.jc (IntKind.i64.wrap (i + 1)))) := by kernel_rfl
end Go.Rl.Z

open Go Go.Rl
namespace Go.Rl.Z
set_option maxRecDepth 100000
theorem round10 (p : TP) (q : TQ) (w : World) (I : Imm) (i : Nat) (bd : Addr) (hsp : bd.spot = none) (m mcap e : Nat) (he : e < m) (hm : m * 72 ≤ 140737488355328) (hact : ActIn I bd e) (hq : 1 ≤ q.na ∧ 1 ≤ q.nb) (hit : (i : Int) < p.t) (hpc : p.c ≤ 1099511627776)
    (g : ∀ S, InS p q i (some bd) m mcap (e + 1) S → WPs (Cts w) I S)
    (now tl : Int) (cI : Nat) (lM : List (Int × Int × Nat)) (cM : Nat) (j : Nat → Value) (jc : Nat → Nat → Value) (kl kc : Nat) (kr : List Value) (hkl : kl ≤ e) (hkc : kl ≤ kc) (hkr : kr.length = kc * 1) (er : SV) (h1 : 1 ≤ now) (h2 : now ≤ p.c) (her : ErOK er) :
    WPs (Cts w) I (tIH10 p q now tl [] cI lM cM j jc i (some bd) m mcap (e : Int) kl kc kr er) := by
  obtain ⟨cs, T, fz, kd, rd, ky, vl, lo, hi, ub, lm, rv, hI, hcs⟩ := hact
  have b0 : (decide (0 ≤ (e : Int)) && decide ((e : Int) < (m : Int))) = true := by simp; omega
  have b1 : decide ((e : Int) < (m : Int)) = true := by simp; omega
  have n1 : decide (1 > (q.na : Int)) = false := by simp; omega
  have n2 : decide (0 ≥ (q.nb : Int)) = false := by simp; omega
  have t1 : (!(decide ((i : Int) < p.t))) = false := by simp; omega
  have t2 : decide ((i : Int) ≥ 0) = true := by simp
  have w1 : decide ((IntKind.i64.wrap (now + 1)) > (IntKind.i64.wrap (now + 1))) = false := by simp
  have ww : IntKind.i64.wrap (now + 1) = now + 1 := wrap_id (by omega) (by omega)
  have w2 : decide ((IntKind.i64.wrap (now + 1)) < 1) = false := by rw [ww]; simp; omega
  have we : IntKind.i64.wrap ((e : Int) + 1) = ((e + 1 : Nat) : Int) := by rw [wrap_id (by omega) (by omega)]; simp
  have ih1 : (!(imHas (i : Int) [((i : Int), IntKind.i64.wrap (now + 1), cI)])) = false := imHas_one _ _ _
  have ie : imDel (i : Int) [((i : Int), IntKind.i64.wrap (now + 1), cI)] = [] := imDel_one _ _ _
  have him : IsImm I (bd.add ((e : Int).toNat * 9)) 9 (actV kd rd ky vl lo hi ub lm rv) := act_imm hsp hI hcs
  cases k2 : kd == 2
  rotate_left 1
  · have hk : kd = 2 := by simpa using k2
    subst hk
    cases y1 : decide ((ky.size : Int) ≥ 1)
    · skip
      rcases her with rfl | ⟨xv, rfl⟩
      · skip
        refine WPs.runs (C := Cts w) tSt (c_getSN10 rd ky vl lo hi ub lm rv) fun os hos => ?_
        obtain ⟨oc, rfl⟩ := orcsN1 hos
        refine ⟨_, _, p_getSN10 p q now tl cI lM cM j jc i bd m mcap e kl kc kr rd ky vl lo hi ub lm rv oc, ?_⟩
        refine ⟨b0, b1, him, y1, rfl, (fun n b e => by cases e), ?_⟩
        show WPs _ _ _
        rw [we]
        exact g _ (.s10 _ _ _ _ _ _ _ _ _ _ _ (by omega) (by omega) (.inl rfl) (by omega) (by omega) (by omega))
      · skip
        refine WPs.runs (C := Cts w) tSt (c_getSI10 rd ky vl lo hi ub lm rv) fun os hos => ?_
        obtain ⟨oc, rfl⟩ := orcsN1 hos
        refine ⟨_, _, p_getSI10 p q now tl cI lM cM j jc i bd m mcap e kl kc kr rd ky vl lo hi ub lm rv xv oc, ?_⟩
        refine ⟨b0, b1, him, y1, rfl, (fun n b e => by cases e), ?_⟩
        show WPs _ _ _
        rw [we]
        exact g _ (.s10 _ _ _ _ _ _ _ _ _ _ _ (by omega) (by omega) (.inr ⟨_, rfl⟩) (by omega) (by omega) (by omega))
    · skip
      cases y2 : !(decide ((ky.size : Int) ≤ 16))
      rotate_left 1
      · skip
        rcases her with rfl | ⟨xv, rfl⟩
        · skip
          refine WPs.runs (C := Cts w) tSt (c_getLN10 rd ky vl lo hi ub lm rv) fun os hos => ?_
          obtain ⟨oc, rfl⟩ := orcsN1 hos
          refine ⟨_, _, p_getLN10 p q now tl cI lM cM j jc i bd m mcap e kl kc kr rd ky vl lo hi ub lm rv oc, ?_⟩
          refine ⟨b0, b1, him, y2, y1, rfl, (fun n b e => by cases e), ?_⟩
          show WPs _ _ _
          rw [we]
          exact g _ (.s10 _ _ _ _ _ _ _ _ _ _ _ (by omega) (by omega) (.inl rfl) (by omega) (by omega) (by omega))
        · skip
          refine WPs.runs (C := Cts w) tSt (c_getLI10 rd ky vl lo hi ub lm rv) fun os hos => ?_
          obtain ⟨oc, rfl⟩ := orcsN1 hos
          refine ⟨_, _, p_getLI10 p q now tl cI lM cM j jc i bd m mcap e kl kc kr rd ky vl lo hi ub lm rv xv oc, ?_⟩
          refine ⟨b0, b1, him, y2, y1, rfl, (fun n b e => by cases e), ?_⟩
          show WPs _ _ _
          rw [we]
          exact g _ (.s10 _ _ _ _ _ _ _ _ _ _ _ (by omega) (by omega) (.inr ⟨_, rfl⟩) (by omega) (by omega) (by omega))
      · cases y3 : now == p.c
        · have hne : now ≠ p.c := by simpa using y3
          refine WPs.runs (C := Cts w) tSt (c_get10 rd ky vl lo hi ub lm rv) fun os hos => ?_
          obtain ⟨o0, o1, o2, o3, o4, oc, rfl⟩ := orcsN6 hos
          refine ⟨_, _, p_get10 p q now tl cI lM cM j jc i bd m mcap e kl kc kr rd ky vl lo hi ub lm rv er o0 o1 o2 o3 o4 oc, ?_⟩
          refine ⟨b0, b1, him, y2, y1, rfl, ⟨hkc, hkr, by omega, by omega⟩, fun ha0 hb0 => ⟨rfl, rfl, n1, n2, w1, w2, rfl, t1, t2, y3, y2, y1, ⟨by decide, by decide, by decide, by decide⟩, fun ha1 hb1 => ⟨⟨by decide, by decide, by decide, by decide⟩, fun ha2 hb2 => ⟨⟨by decide, by decide, by decide, by decide⟩, fun ha3 hb3 => ⟨rfl, rfl, ⟨by decide, by decide, by decide, by decide⟩, fun ha4 hb4 => ⟨(cmp_e _), ih1, t1, t2, (decide_eq_true (cmpI_empty ky)), ext72, ext306, (fun n b e => by cases e), ?_⟩⟩⟩⟩⟩⟩
          show WPs _ _ _
          rw [ie, ww, we]
          exact g _ (.s10 _ _ _ _ _ _ _ _ _ _ _ (by omega) (by omega) (.inl rfl) (by omega) (by omega) (by omega))
        · skip
          refine WPs.runs (C := Cts w) tSt (c_getx10 rd ky vl lo hi ub lm rv) fun os hos => ?_
          obtain ⟨o0, oc, rfl⟩ := orcsN2 hos
          refine ⟨_, _, p_getx10 p q now tl cI lM cM j jc i bd m mcap e kl kc kr rd ky vl lo hi ub lm rv er o0 oc, ?_⟩
          refine ⟨b0, b1, him, y2, y1, rfl, ⟨hkc, hkr, by omega, by omega⟩, fun ha0 hb0 => ⟨y3, y2, y1, ext72, ext306, (fun n b e => by cases e), ?_⟩⟩
          show WPs _ _ _
          rw [we]
          exact g _ (.s10 _ _ _ _ _ _ _ _ _ _ _ (by omega) (by omega) (.inr ⟨_, rfl⟩) (by omega) (by omega) (by omega))
  cases k5 : kd == 5
  · skip
    rcases her with rfl | ⟨xv, rfl⟩
    · skip
      refine WPs.runs (C := Cts w) tSt (c_othN10 kd rd ky vl lo hi ub lm rv) fun os hos => ?_
      obtain ⟨oc, rfl⟩ := orcsN1 hos
      refine ⟨_, _, p_othN10 p q now tl cI lM cM j jc i bd m mcap e kl kc kr kd rd ky vl lo hi ub lm rv oc, ?_⟩
      refine ⟨b0, b1, him, k5, k2, (fun n b e => by cases e), ?_⟩
      show WPs _ _ _
      rw [we]
      exact g _ (.s10 _ _ _ _ _ _ _ _ _ _ _ (by omega) (by omega) (.inl rfl) (by omega) (by omega) (by omega))
    · skip
      refine WPs.runs (C := Cts w) tSt (c_othI10 kd rd ky vl lo hi ub lm rv) fun os hos => ?_
      obtain ⟨oc, rfl⟩ := orcsN1 hos
      refine ⟨_, _, p_othI10 p q now tl cI lM cM j jc i bd m mcap e kl kc kr kd rd ky vl lo hi ub lm rv xv oc, ?_⟩
      refine ⟨b0, b1, him, k5, k2, (fun n b e => by cases e), ?_⟩
      show WPs _ _ _
      rw [we]
      exact g _ (.s10 _ _ _ _ _ _ _ _ _ _ _ (by omega) (by omega) (.inr ⟨_, rfl⟩) (by omega) (by omega) (by omega))
  have hk : kd = 5 := by simpa using k5
  subst hk
  cases y1 : decide ((lo.size : Int) > 16)
  rotate_left 1
  · skip
    rcases her with rfl | ⟨xv, rfl⟩
    · skip
      refine WPs.runs (C := Cts w) tSt (c_rngLN10 rd ky vl lo hi ub lm rv) fun os hos => ?_
      obtain ⟨oc, rfl⟩ := orcsN1 hos
      refine ⟨_, _, p_rngLN10 p q now tl cI lM cM j jc i bd m mcap e kl kc kr rd ky vl lo hi ub lm rv oc, ?_⟩
      refine ⟨b0, b1, him, y1, rfl, rfl, (fun n b e => by cases e), ?_⟩
      show WPs _ _ _
      rw [we]
      exact g _ (.s10 _ _ _ _ _ _ _ _ _ _ _ (by omega) (by omega) (.inl rfl) (by omega) (by omega) (by omega))
    · skip
      refine WPs.runs (C := Cts w) tSt (c_rngLI10 rd ky vl lo hi ub lm rv) fun os hos => ?_
      obtain ⟨oc, rfl⟩ := orcsN1 hos
      refine ⟨_, _, p_rngLI10 p q now tl cI lM cM j jc i bd m mcap e kl kc kr rd ky vl lo hi ub lm rv xv oc, ?_⟩
      refine ⟨b0, b1, him, y1, rfl, rfl, (fun n b e => by cases e), ?_⟩
      show WPs _ _ _
      rw [we]
      exact g _ (.s10 _ _ _ _ _ _ _ _ _ _ _ (by omega) (by omega) (.inr ⟨_, rfl⟩) (by omega) (by omega) (by omega))
  have hlo : (lo.size : Int) ≤ 16 := by simpa using y1
  cases y2 : decide ((hi.size : Int) > 16)
  rotate_left 1
  · skip
    rcases her with rfl | ⟨xv, rfl⟩
    · skip
      refine WPs.runs (C := Cts w) tSt (c_rngHN10 rd ky vl lo hi ub lm rv) fun os hos => ?_
      obtain ⟨oc, rfl⟩ := orcsN1 hos
      refine ⟨_, _, p_rngHN10 p q now tl cI lM cM j jc i bd m mcap e kl kc kr rd ky vl lo hi ub lm rv oc, ?_⟩
      refine ⟨b0, b1, him, y2, y1, rfl, rfl, (fun n b e => by cases e), ?_⟩
      show WPs _ _ _
      rw [we]
      exact g _ (.s10 _ _ _ _ _ _ _ _ _ _ _ (by omega) (by omega) (.inl rfl) (by omega) (by omega) (by omega))
    · skip
      refine WPs.runs (C := Cts w) tSt (c_rngHI10 rd ky vl lo hi ub lm rv) fun os hos => ?_
      obtain ⟨oc, rfl⟩ := orcsN1 hos
      refine ⟨_, _, p_rngHI10 p q now tl cI lM cM j jc i bd m mcap e kl kc kr rd ky vl lo hi ub lm rv xv oc, ?_⟩
      refine ⟨b0, b1, him, y2, y1, rfl, rfl, (fun n b e => by cases e), ?_⟩
      show WPs _ _ _
      rw [we]
      exact g _ (.s10 _ _ _ _ _ _ _ _ _ _ _ (by omega) (by omega) (.inr ⟨_, rfl⟩) (by omega) (by omega) (by omega))
  cases ub
  · skip
    cases y3 : decide ((cmpI lo hi) ≥ 0)
    rotate_left 1
    · skip
      rcases her with rfl | ⟨xv, rfl⟩
      · skip
        refine WPs.runs (C := Cts w) tSt (c_rngbcN10 rd ky vl lo hi lm rv) fun os hos => ?_
        obtain ⟨oc, rfl⟩ := orcsN1 hos
        refine ⟨_, _, p_rngbcN10 p q now tl cI lM cM j jc i bd m mcap e kl kc kr rd ky vl lo hi lm rv oc, ?_⟩
        refine ⟨b0, b1, him, rfl, rfl, y2, y1, rfl, rfl, (cmp_is lo hi (by omega)), y3, (fun n b e => by cases e), ?_⟩
        show WPs _ _ _
        rw [we]
        exact g _ (.s10 _ _ _ _ _ _ _ _ _ _ _ (by omega) (by omega) (.inl rfl) (by omega) (by omega) (by omega))
      · skip
        refine WPs.runs (C := Cts w) tSt (c_rngbcI10 rd ky vl lo hi lm rv) fun os hos => ?_
        obtain ⟨oc, rfl⟩ := orcsN1 hos
        refine ⟨_, _, p_rngbcI10 p q now tl cI lM cM j jc i bd m mcap e kl kc kr rd ky vl lo hi lm rv xv oc, ?_⟩
        refine ⟨b0, b1, him, rfl, rfl, y2, y1, rfl, rfl, (cmp_is lo hi (by omega)), y3, (fun n b e => by cases e), ?_⟩
        show WPs _ _ _
        rw [we]
        exact g _ (.s10 _ _ _ _ _ _ _ _ _ _ _ (by omega) (by omega) (.inr ⟨_, rfl⟩) (by omega) (by omega) (by omega))
    have y4 : (!(decide ((cmpI lo hi) < 0))) = false := by simp at y3 ⊢; exact y3
    cases y5 : now == p.c
    · have hne : now ≠ p.c := by simpa using y5
      refine WPs.runs (C := Cts w) tSt (c_rngb10 rd ky vl lo hi lm rv) fun os hos => ?_
      obtain ⟨o0, o1, o2, o3, o4, o5, oc, rfl⟩ := orcsN7 hos
      refine ⟨_, _, p_rngb10 p q now tl cI lM cM j jc i bd m mcap e kl kc kr rd ky vl lo hi lm rv er o0 o1 o2 o3 o4 o5 oc, ?_⟩
      refine ⟨b0, b1, him, rfl, rfl, y2, y1, rfl, rfl, (cmp_is lo hi (by omega)), y3, ⟨by decide, by decide, by decide, by decide⟩, fun ha0 hb0 => ⟨rfl, y2, y1, (cmp_is lo hi (by omega)), rfl, rfl, n1, n2, w1, w2, rfl, t1, t2, y5, y4, ⟨by decide, by decide, by decide, by decide⟩, fun ha1 hb1 => ⟨⟨by decide, by decide, by decide, by decide⟩, fun ha2 hb2 => ⟨⟨by decide, by decide, by decide, by decide⟩, fun ha3 hb3 => ⟨rfl, rfl, ⟨by decide, by decide, by decide, by decide⟩, fun ha4 hb4 => ⟨(cmp_e _), ih1, t1, t2, (decide_eq_true (cmpI_empty lo)), ⟨by decide, by decide, by decide, by decide⟩, fun ha5 hb5 => ⟨(fun n b e => by cases e), ?_⟩⟩⟩⟩⟩⟩⟩
      show WPs _ _ _
      rw [ie, ww, we]
      exact g _ (.s11 _ _ _ _ _ _ _ _ _ _ _ _ _ _ (by omega) (by omega) (.inl rfl) (by omega) (by omega) (by omega) (by omega) (by omega) (by omega))
    · skip
      refine WPs.runs (C := Cts w) tSt (c_rngbx10 rd ky vl lo hi lm rv) fun os hos => ?_
      obtain ⟨o0, oc, rfl⟩ := orcsN2 hos
      refine ⟨_, _, p_rngbx10 p q now tl cI lM cM j jc i bd m mcap e kl kc kr rd ky vl lo hi lm rv er o0 oc, ?_⟩
      refine ⟨b0, b1, him, rfl, rfl, y2, y1, rfl, rfl, (cmp_is lo hi (by omega)), y3, ⟨by decide, by decide, by decide, by decide⟩, fun ha0 hb0 => ⟨rfl, y2, y1, (cmp_is lo hi (by omega)), y5, y4, (fun n b e => by cases e), ?_⟩⟩
      show WPs _ _ _
      rw [we]
      exact g _ (.s11 _ _ _ _ _ _ _ _ _ _ _ _ _ _ (by omega) (by omega) (.inr ⟨_, rfl⟩) (by omega) (by omega) (by omega) (by omega) (by omega) (by omega))
  cases y3 : !(decide (hi.data.toList = ByteArray.empty.data.toList))
  rotate_left 1
  · skip
    rcases her with rfl | ⟨xv, rfl⟩
    · skip
      refine WPs.runs (C := Cts w) tSt (c_rngucN10 rd ky vl lo hi lm rv) fun os hos => ?_
      obtain ⟨oc, rfl⟩ := orcsN1 hos
      refine ⟨_, _, p_rngucN10 p q now tl cI lM cM j jc i bd m mcap e kl kc kr rd ky vl lo hi lm rv oc, ?_⟩
      refine ⟨b0, b1, him, y3, rfl, y2, y1, rfl, rfl, (fun n b e => by cases e), ?_⟩
      show WPs _ _ _
      rw [we]
      exact g _ (.s10 _ _ _ _ _ _ _ _ _ _ _ (by omega) (by omega) (.inl rfl) (by omega) (by omega) (by omega))
    · skip
      refine WPs.runs (C := Cts w) tSt (c_rngucI10 rd ky vl lo hi lm rv) fun os hos => ?_
      obtain ⟨oc, rfl⟩ := orcsN1 hos
      refine ⟨_, _, p_rngucI10 p q now tl cI lM cM j jc i bd m mcap e kl kc kr rd ky vl lo hi lm rv xv oc, ?_⟩
      refine ⟨b0, b1, him, y3, rfl, y2, y1, rfl, rfl, (fun n b e => by cases e), ?_⟩
      show WPs _ _ _
      rw [we]
      exact g _ (.s10 _ _ _ _ _ _ _ _ _ _ _ (by omega) (by omega) (.inr ⟨_, rfl⟩) (by omega) (by omega) (by omega))
  cases y5 : now == p.c
  · have hne : now ≠ p.c := by simpa using y5
    refine WPs.runs (C := Cts w) tSt (c_rngu10 rd ky vl lo hi lm rv) fun os hos => ?_
    obtain ⟨o0, o1, o2, o3, o4, o5, oc, rfl⟩ := orcsN7 hos
    refine ⟨_, _, p_rngu10 p q now tl cI lM cM j jc i bd m mcap e kl kc kr rd ky vl lo hi lm rv er o0 o1 o2 o3 o4 o5 oc, ?_⟩
    refine ⟨b0, b1, him, rfl, y3, rfl, y2, y1, rfl, rfl, ⟨by decide, by decide, by decide, by decide⟩, fun ha0 hb0 => ⟨rfl, rfl, n1, n2, w1, w2, rfl, t1, t2, y5, y3, rfl, y2, y1, ⟨by decide, by decide, by decide, by decide⟩, fun ha1 hb1 => ⟨⟨by decide, by decide, by decide, by decide⟩, fun ha2 hb2 => ⟨⟨by decide, by decide, by decide, by decide⟩, fun ha3 hb3 => ⟨rfl, rfl, ⟨by decide, by decide, by decide, by decide⟩, fun ha4 hb4 => ⟨(cmp_e _), ih1, t1, t2, (decide_eq_true (cmpI_empty lo)), ⟨by decide, by decide, by decide, by decide⟩, fun ha5 hb5 => ⟨(fun n b e => by cases e), ?_⟩⟩⟩⟩⟩⟩⟩
    show WPs _ _ _
    rw [ie, ww, we]
    exact g _ (.s11 _ _ _ _ _ _ _ _ _ _ _ _ _ _ (by omega) (by omega) (.inl rfl) (by omega) (by omega) (by omega) (by omega) (by omega) (by omega))
  refine WPs.runs (C := Cts w) tSt (c_rngux10 rd ky vl lo hi lm rv) fun os hos => ?_
  obtain ⟨o0, oc, rfl⟩ := orcsN2 hos
  refine ⟨_, _, p_rngux10 p q now tl cI lM cM j jc i bd m mcap e kl kc kr rd ky vl lo hi lm rv er o0 oc, ?_⟩
  refine ⟨b0, b1, him, rfl, y3, rfl, y2, y1, rfl, rfl, ⟨by decide, by decide, by decide, by decide⟩, fun ha0 hb0 => ⟨y5, y3, rfl, y2, y1, (fun n b e => by cases e), ?_⟩⟩
  show WPs _ _ _
  rw [we]
  exact g _ (.s11 _ _ _ _ _ _ _ _ _ _ _ _ _ _ (by omega) (by omega) (.inr ⟨_, rfl⟩) (by omega) (by omega) (by omega) (by omega) (by omega) (by omega))
end Go.Rl.Z
