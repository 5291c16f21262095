/-
  TopStores: a round of its inner loop, all its ways joined (00).
-/
import Derived.Test.YtghmpcnchjjikaaGreatRlZtd
import Derived.Test.YtghmpcnchjjikaaGreatRlZtq
set_option linter.all false
set_option linter.unusedVariables false
set_option linter.unusedSimpArgs false
set_option linter.unnecessarySimpa false
open Go Go.Rl
namespace Go.Rl.Z
set_option maxRecDepth 100000

def k_get00 : List (Nat × List Nat) := [(0, []), (1, []), (2, []), (3, []), (4, []), (5, [1]), (6, [1]), (7, []), (8, []), (9, []), (10, []), (11, []), (12, []), (13, [1, 0, 2, 2, 2, 2, 2, 2, 2, 2, 2, 0]), (14, [1, 0, 0, 0, 0, 0, 0, 0, 0, 0, 0, 0, 0, 0, 3, 0]), (22, [])]
noncomputable def c_get00 (rd : Bool) (ky vl lo hi : ByteArray) (ub : Bool) (lm : Int) (rv : Bool) : List Cmd := [.seg [true, true], .imm [(.int .i64 2), (.bool rd), (.string ky), (.string vl), (.string lo), (.string hi), (.bool ub), (.int .i64 lm), (.bool rv)], .seg [true, true, false], .app true, .seg [true, false, false, true, false, false, false, false, false, false, true, true], .app false, .seg [], .app false, .seg [], .app false, .seg [true, true], .app false, .seg [], .call (.v (.int .i64 (cmpI ByteArray.empty ky))), .seg [true, true, false, false], .ext (.ifc 216 (.v rt)), .seg [], .ext (.b true), .seg [], .canon k_get00 scI]
theorem p_get00 (p : TP) (q : TQ) (now tl : Int) (cI : Nat) (lM : List (Int × Int × Nat)) (cM : Nat) (j : Nat → Value) (jc : Nat → Nat → Value) (i : Int) (bd : Addr) (m mcap : Nat) (e : Int) (rd : Bool) (ky vl lo hi : ByteArray) (ub : Bool) (lm : Int) (rv : Bool) (er : SV) (o0 o1 o2 o3 o4 oc : Orc) : run Pr tSt (c_get00 rd ky vl lo hi ub lm rv) [o0, o1, o2, o3, o4, oc] (tIH00 p q now tl [] cI lM cM j jc i (some bd) m mcap e er) =
    some ([.eq (decide (0 ≤ e) && decide (e < (m : Int))) true, .eq (decide (e < (m : Int))) true, .imm (bd.add ((e).toNat * 9)) 9 [(.int .i64 2), (.bool rd), (.string ky), (.string vl), (.string lo), (.string hi), (.bool ub), (.int .i64 lm), (.bool rv)], .eq (!(decide ((ky.size : Int) ≤ 16))) false, .eq (decide ((ky.size : Int) ≥ 1)) true, .eq (2 == 2) true, .app 0 0 0 1 1 16 0 o0.l.length o0.n, .eq true true, .eq true true, .eq (decide (1 > (q.na : Int))) false, .eq (decide (0 ≥ (q.nb : Int))) false, .eq (decide ((IntKind.i64.wrap (now + 1)) > (IntKind.i64.wrap (now + 1)))) false, .eq (decide ((IntKind.i64.wrap (now + 1)) < 1)) false, .eq false false, .eq (!(decide (i < p.t))) false, .eq (decide (i ≥ 0)) true, .eq (now == p.c) false, .eq (!(decide ((ky.size : Int) ≤ 16))) false, .eq (decide ((ky.size : Int) ≥ 1)) true, .app 0 0 0 15 1 192 15 o1.l.length o1.n, .app 0 0 0 2 1 16 2 o2.l.length o2.n, .app 0 0 0 2 1 16 2 o3.l.length o3.n, .eq true true, .eq true true, .app 0 0 0 15 1 192 15 o4.l.length o4.n, .call 96 [.s ByteArray.empty, .v (.string ky)] (.v (.int .i64 (cmpI ByteArray.empty ky))), .eq (!(imHas i [(i, IntKind.i64.wrap (now + 1), cI)])) false, .eq (!(decide (i < p.t))) false, .eq (decide (i ≥ 0)) true, .eq (decide ((cmpI ByteArray.empty ky) ≤ 0)) true, .ext 72 [.ifc 40 (.i .i64 6)] (.ifc 216 (.v rt)), .ext 306 [.v rt] (.b true), .keep k_get00], .at (tIH10 p q (IntKind.i64.wrap (now + 1)) (tk 5 tl) (imDel i [(i, IntKind.i64.wrap (now + 1), cI)]) (cI + 1) lM cM oc.j oc.jc i (some bd) m mcap (IntKind.i64.wrap (e + 1)) 1 o0.n o0.l  .ni)) := by kernel_rfl
def k_getx00 : List (Nat × List Nat) := [(0, []), (1, []), (2, []), (3, []), (4, []), (5, [1]), (6, [1]), (7, []), (8, []), (9, []), (10, []), (11, []), (12, []), (13, [1, 0, 2, 2, 2, 2, 2, 2, 2, 2, 2, 0]), (14, [1, 0, 0, 0, 0, 0, 0, 0, 0, 0, 0, 0, 0, 0, 3, 0]), (22, [])]
noncomputable def c_getx00 (rd : Bool) (ky vl lo hi : ByteArray) (ub : Bool) (lm : Int) (rv : Bool) : List Cmd := [.seg [true, true], .imm [(.int .i64 2), (.bool rd), (.string ky), (.string vl), (.string lo), (.string hi), (.bool ub), (.int .i64 lm), (.bool rv)], .seg [true, true, false], .app true, .seg [true, false, true], .ext (.ifc 216 (.v rt)), .seg [], .ext (.b true), .seg [], .canon k_getx00 scI]
theorem p_getx00 (p : TP) (q : TQ) (now tl : Int) (cI : Nat) (lM : List (Int × Int × Nat)) (cM : Nat) (j : Nat → Value) (jc : Nat → Nat → Value) (i : Int) (bd : Addr) (m mcap : Nat) (e : Int) (rd : Bool) (ky vl lo hi : ByteArray) (ub : Bool) (lm : Int) (rv : Bool) (er : SV) (o0 oc : Orc) : run Pr tSt (c_getx00 rd ky vl lo hi ub lm rv) [o0, oc] (tIH00 p q now tl [] cI lM cM j jc i (some bd) m mcap e er) =
    some ([.eq (decide (0 ≤ e) && decide (e < (m : Int))) true, .eq (decide (e < (m : Int))) true, .imm (bd.add ((e).toNat * 9)) 9 [(.int .i64 2), (.bool rd), (.string ky), (.string vl), (.string lo), (.string hi), (.bool ub), (.int .i64 lm), (.bool rv)], .eq (!(decide ((ky.size : Int) ≤ 16))) false, .eq (decide ((ky.size : Int) ≥ 1)) true, .eq (2 == 2) true, .app 0 0 0 1 1 16 0 o0.l.length o0.n, .eq (now == p.c) true, .eq (!(decide ((ky.size : Int) ≤ 16))) false, .eq (decide ((ky.size : Int) ≥ 1)) true, .ext 72 [.ifc 40 (.i .i64 6)] (.ifc 216 (.v rt)), .ext 306 [.v rt] (.b true), .keep k_getx00], .at (tIH10 p q now (tk 1 tl) [] cI lM cM oc.j oc.jc i (some bd) m mcap (IntKind.i64.wrap (e + 1)) 1 o0.n o0.l  (.ifc 252 (.v (innerV (oc.jc 14 14)))))) := by kernel_rfl
def k_rngb00 : List (Nat × List Nat) := [(0, []), (1, []), (2, []), (3, []), (4, []), (5, [1]), (6, [1]), (7, []), (8, []), (9, []), (10, []), (11, []), (12, []), (13, [1, 0, 2, 2, 2, 2, 2, 2, 2, 2, 2, 0]), (14, [1, 0, 0, 0, 0, 0, 0, 0, 0, 0, 0, 0, 0, 0, 3, 0]), (24, [])]
noncomputable def c_rngb00 (rd : Bool) (ky vl lo hi : ByteArray) (lm : Int) (rv : Bool) : List Cmd := [.seg [true, true], .imm [(.int .i64 5), (.bool rd), (.string ky), (.string vl), (.string lo), (.string hi), (.bool false), (.int .i64 lm), (.bool rv)], .seg [false, true, false, false, false, true], .call (.v (.int .i64 (cmpI lo hi))), .seg [false], .app true, .seg [false, false, false], .call (.v (.int .i64 (cmpI lo hi))), .seg [false, false, true, false, false, false, false, false, false, true, true], .app false, .seg [], .app false, .seg [], .app false, .seg [true, true], .app false, .seg [], .call (.v (.int .i64 (cmpI ByteArray.empty lo))), .seg [true, true, false, false], .app false, .seg [], .canon k_rngb00 scI]
theorem p_rngb00 (p : TP) (q : TQ) (now tl : Int) (cI : Nat) (lM : List (Int × Int × Nat)) (cM : Nat) (j : Nat → Value) (jc : Nat → Nat → Value) (i : Int) (bd : Addr) (m mcap : Nat) (e : Int) (rd : Bool) (ky vl lo hi : ByteArray) (lm : Int) (rv : Bool) (er : SV) (o0 o1 o2 o3 o4 o5 oc : Orc) : run Pr tSt (c_rngb00 rd ky vl lo hi lm rv) [o0, o1, o2, o3, o4, o5, oc] (tIH00 p q now tl [] cI lM cM j jc i (some bd) m mcap e er) =
    some ([.eq (decide (0 ≤ e) && decide (e < (m : Int))) true, .eq (decide (e < (m : Int))) true, .imm (bd.add ((e).toNat * 9)) 9 [(.int .i64 5), (.bool rd), (.string ky), (.string vl), (.string lo), (.string hi), (.bool false), (.int .i64 lm), (.bool rv)], .eq true true, .eq false false, .eq (decide ((hi.size : Int) > 16)) false, .eq (decide ((lo.size : Int) > 16)) false, .eq (5 == 5) true, .eq (5 == 2) false, .call 96 [.v (.string lo), .v (.string hi)] (.v (.int .i64 (cmpI lo hi))), .eq (decide ((cmpI lo hi) ≥ 0)) false, .app 0 0 0 3 1 40 0 o0.l.length o0.n, .eq false false, .eq (decide ((hi.size : Int) > 16)) false, .eq (decide ((lo.size : Int) > 16)) false, .call 96 [.v (.string lo), .v (.string hi)] (.v (.int .i64 (cmpI lo hi))), .eq true true, .eq true true, .eq (decide (1 > (q.na : Int))) false, .eq (decide (0 ≥ (q.nb : Int))) false, .eq (decide ((IntKind.i64.wrap (now + 1)) > (IntKind.i64.wrap (now + 1)))) false, .eq (decide ((IntKind.i64.wrap (now + 1)) < 1)) false, .eq false false, .eq (!(decide (i < p.t))) false, .eq (decide (i ≥ 0)) true, .eq (now == p.c) false, .eq (!(decide ((cmpI lo hi) < 0))) false, .app 0 0 0 15 1 192 15 o1.l.length o1.n, .app 0 0 0 2 1 16 2 o2.l.length o2.n, .app 0 0 0 2 1 16 2 o3.l.length o3.n, .eq true true, .eq true true, .app 0 0 0 15 1 192 15 o4.l.length o4.n, .call 96 [.s ByteArray.empty, .v (.string lo)] (.v (.int .i64 (cmpI ByteArray.empty lo))), .eq (!(imHas i [(i, IntKind.i64.wrap (now + 1), cI)])) false, .eq (!(decide (i < p.t))) false, .eq (decide (i ≥ 0)) true, .eq (decide ((cmpI ByteArray.empty lo) ≤ 0)) true, .app 0 0 0 4 1 64 4 o5.l.length o5.n, .keep k_rngb00], .at (tIH01 p q (IntKind.i64.wrap (now + 1)) (tk 5 tl) (imDel i [(i, IntKind.i64.wrap (now + 1), cI)]) (cI + 1) lM cM oc.j oc.jc i (some bd) m mcap (IntKind.i64.wrap (e + 1))  1 o0.n o0.l .ni)) := by kernel_rfl
def k_rngbx00 : List (Nat × List Nat) := [(0, []), (1, []), (2, []), (3, []), (4, []), (5, [1]), (6, [1]), (7, []), (8, []), (9, []), (10, []), (11, []), (12, []), (13, [1, 0, 2, 2, 2, 2, 2, 2, 2, 2, 2, 0]), (14, [1, 0, 0, 0, 0, 0, 0, 0, 0, 0, 0, 0, 0, 0, 3, 0]), (24, [])]
noncomputable def c_rngbx00 (rd : Bool) (ky vl lo hi : ByteArray) (lm : Int) (rv : Bool) : List Cmd := [.seg [true, true], .imm [(.int .i64 5), (.bool rd), (.string ky), (.string vl), (.string lo), (.string hi), (.bool false), (.int .i64 lm), (.bool rv)], .seg [false, true, false, false, false, true], .call (.v (.int .i64 (cmpI lo hi))), .seg [false], .app true, .seg [false, false, false], .call (.v (.int .i64 (cmpI lo hi))), .seg [false, true], .canon k_rngbx00 scI]
theorem p_rngbx00 (p : TP) (q : TQ) (now tl : Int) (cI : Nat) (lM : List (Int × Int × Nat)) (cM : Nat) (j : Nat → Value) (jc : Nat → Nat → Value) (i : Int) (bd : Addr) (m mcap : Nat) (e : Int) (rd : Bool) (ky vl lo hi : ByteArray) (lm : Int) (rv : Bool) (er : SV) (o0 oc : Orc) : run Pr tSt (c_rngbx00 rd ky vl lo hi lm rv) [o0, oc] (tIH00 p q now tl [] cI lM cM j jc i (some bd) m mcap e er) =
    some ([.eq (decide (0 ≤ e) && decide (e < (m : Int))) true, .eq (decide (e < (m : Int))) true, .imm (bd.add ((e).toNat * 9)) 9 [(.int .i64 5), (.bool rd), (.string ky), (.string vl), (.string lo), (.string hi), (.bool false), (.int .i64 lm), (.bool rv)], .eq true true, .eq false false, .eq (decide ((hi.size : Int) > 16)) false, .eq (decide ((lo.size : Int) > 16)) false, .eq (5 == 5) true, .eq (5 == 2) false, .call 96 [.v (.string lo), .v (.string hi)] (.v (.int .i64 (cmpI lo hi))), .eq (decide ((cmpI lo hi) ≥ 0)) false, .app 0 0 0 3 1 40 0 o0.l.length o0.n, .eq false false, .eq (decide ((hi.size : Int) > 16)) false, .eq (decide ((lo.size : Int) > 16)) false, .call 96 [.v (.string lo), .v (.string hi)] (.v (.int .i64 (cmpI lo hi))), .eq (now == p.c) true, .eq (!(decide ((cmpI lo hi) < 0))) false, .keep k_rngbx00], .at (tIH01 p q now (tk 1 tl) [] cI lM cM oc.j oc.jc i (some bd) m mcap (IntKind.i64.wrap (e + 1))  1 o0.n o0.l (.ifc 252 (.v (innerV (oc.jc 14 14)))))) := by kernel_rfl
def k_rngu00 : List (Nat × List Nat) := [(0, []), (1, []), (2, []), (3, []), (4, []), (5, [1]), (6, [1]), (7, []), (8, []), (9, []), (10, []), (11, []), (12, []), (13, [1, 0, 2, 2, 2, 2, 2, 2, 2, 2, 2, 0]), (14, [1, 0, 0, 0, 0, 0, 0, 0, 0, 0, 0, 0, 0, 0, 3, 0]), (24, [])]
noncomputable def c_rngu00 (rd : Bool) (ky vl lo hi : ByteArray) (lm : Int) (rv : Bool) : List Cmd := [.seg [true, true], .imm [(.int .i64 5), (.bool rd), (.string ky), (.string vl), (.string lo), (.string hi), (.bool true), (.int .i64 lm), (.bool rv)], .seg [false, true, false, false, true, false, false], .app true, .seg [false, false, true, false, false, true, false, false, false, false, false, false, true, true], .app false, .seg [], .app false, .seg [], .app false, .seg [true, true], .app false, .seg [], .call (.v (.int .i64 (cmpI ByteArray.empty lo))), .seg [true, true, false, false], .app false, .seg [], .canon k_rngu00 scI]
theorem p_rngu00 (p : TP) (q : TQ) (now tl : Int) (cI : Nat) (lM : List (Int × Int × Nat)) (cM : Nat) (j : Nat → Value) (jc : Nat → Nat → Value) (i : Int) (bd : Addr) (m mcap : Nat) (e : Int) (rd : Bool) (ky vl lo hi : ByteArray) (lm : Int) (rv : Bool) (er : SV) (o0 o1 o2 o3 o4 o5 oc : Orc) : run Pr tSt (c_rngu00 rd ky vl lo hi lm rv) [o0, o1, o2, o3, o4, o5, oc] (tIH00 p q now tl [] cI lM cM j jc i (some bd) m mcap e er) =
    some ([.eq (decide (0 ≤ e) && decide (e < (m : Int))) true, .eq (decide (e < (m : Int))) true, .imm (bd.add ((e).toNat * 9)) 9 [(.int .i64 5), (.bool rd), (.string ky), (.string vl), (.string lo), (.string hi), (.bool true), (.int .i64 lm), (.bool rv)], .eq false false, .eq (!(decide (hi.data.toList = ByteArray.empty.data.toList))) false, .eq true true, .eq (decide ((hi.size : Int) > 16)) false, .eq (decide ((lo.size : Int) > 16)) false, .eq (5 == 5) true, .eq (5 == 2) false, .app 0 0 0 3 1 40 0 o0.l.length o0.n, .eq true true, .eq true true, .eq (decide (1 > (q.na : Int))) false, .eq (decide (0 ≥ (q.nb : Int))) false, .eq (decide ((IntKind.i64.wrap (now + 1)) > (IntKind.i64.wrap (now + 1)))) false, .eq (decide ((IntKind.i64.wrap (now + 1)) < 1)) false, .eq false false, .eq (!(decide (i < p.t))) false, .eq (decide (i ≥ 0)) true, .eq (now == p.c) false, .eq (!(decide (hi.data.toList = ByteArray.empty.data.toList))) false, .eq true true, .eq (decide ((hi.size : Int) > 16)) false, .eq (decide ((lo.size : Int) > 16)) false, .app 0 0 0 15 1 192 15 o1.l.length o1.n, .app 0 0 0 2 1 16 2 o2.l.length o2.n, .app 0 0 0 2 1 16 2 o3.l.length o3.n, .eq true true, .eq true true, .app 0 0 0 15 1 192 15 o4.l.length o4.n, .call 96 [.s ByteArray.empty, .v (.string lo)] (.v (.int .i64 (cmpI ByteArray.empty lo))), .eq (!(imHas i [(i, IntKind.i64.wrap (now + 1), cI)])) false, .eq (!(decide (i < p.t))) false, .eq (decide (i ≥ 0)) true, .eq (decide ((cmpI ByteArray.empty lo) ≤ 0)) true, .app 0 0 0 4 1 64 4 o5.l.length o5.n, .keep k_rngu00], .at (tIH01 p q (IntKind.i64.wrap (now + 1)) (tk 5 tl) (imDel i [(i, IntKind.i64.wrap (now + 1), cI)]) (cI + 1) lM cM oc.j oc.jc i (some bd) m mcap (IntKind.i64.wrap (e + 1))  1 o0.n o0.l .ni)) := by kernel_rfl
def k_rngux00 : List (Nat × List Nat) := [(0, []), (1, []), (2, []), (3, []), (4, []), (5, [1]), (6, [1]), (7, []), (8, []), (9, []), (10, []), (11, []), (12, []), (13, [1, 0, 2, 2, 2, 2, 2, 2, 2, 2, 2, 0]), (14, [1, 0, 0, 0, 0, 0, 0, 0, 0, 0, 0, 0, 0, 0, 3, 0]), (24, [])]
noncomputable def c_rngux00 (rd : Bool) (ky vl lo hi : ByteArray) (lm : Int) (rv : Bool) : List Cmd := [.seg [true, true], .imm [(.int .i64 5), (.bool rd), (.string ky), (.string vl), (.string lo), (.string hi), (.bool true), (.int .i64 lm), (.bool rv)], .seg [false, true, false, false, true, false, false], .app true, .seg [false, false, true, false, true], .canon k_rngux00 scI]
theorem p_rngux00 (p : TP) (q : TQ) (now tl : Int) (cI : Nat) (lM : List (Int × Int × Nat)) (cM : Nat) (j : Nat → Value) (jc : Nat → Nat → Value) (i : Int) (bd : Addr) (m mcap : Nat) (e : Int) (rd : Bool) (ky vl lo hi : ByteArray) (lm : Int) (rv : Bool) (er : SV) (o0 oc : Orc) : run Pr tSt (c_rngux00 rd ky vl lo hi lm rv) [o0, oc] (tIH00 p q now tl [] cI lM cM j jc i (some bd) m mcap e er) =
    some ([.eq (decide (0 ≤ e) && decide (e < (m : Int))) true, .eq (decide (e < (m : Int))) true, .imm (bd.add ((e).toNat * 9)) 9 [(.int .i64 5), (.bool rd), (.string ky), (.string vl), (.string lo), (.string hi), (.bool true), (.int .i64 lm), (.bool rv)], .eq false false, .eq (!(decide (hi.data.toList = ByteArray.empty.data.toList))) false, .eq true true, .eq (decide ((hi.size : Int) > 16)) false, .eq (decide ((lo.size : Int) > 16)) false, .eq (5 == 5) true, .eq (5 == 2) false, .app 0 0 0 3 1 40 0 o0.l.length o0.n, .eq (now == p.c) true, .eq (!(decide (hi.data.toList = ByteArray.empty.data.toList))) false, .eq true true, .eq (decide ((hi.size : Int) > 16)) false, .eq (decide ((lo.size : Int) > 16)) false, .keep k_rngux00], .at (tIH01 p q now (tk 1 tl) [] cI lM cM oc.j oc.jc i (some bd) m mcap (IntKind.i64.wrap (e + 1))  1 o0.n o0.l (.ifc 252 (.v (innerV (oc.jc 14 14)))))) := by kernel_rfl
def k_getSN00 : List (Nat × List Nat) := [(0, []), (1, []), (2, []), (3, []), (4, []), (5, [1]), (6, [1]), (7, []), (8, []), (9, []), (10, []), (11, []), (12, []), (13, [1, 0, 2, 2, 2, 2, 2, 2, 2, 2, 2, 0]), (14, [1, 0, 0, 0, 0, 0, 0, 0, 0, 0, 0, 0, 0, 0, 3, 0])]
noncomputable def c_getSN00 (rd : Bool) (ky vl lo hi : ByteArray) (ub : Bool) (lm : Int) (rv : Bool) : List Cmd := [.seg [true, true], .imm [(.int .i64 2), (.bool rd), (.string ky), (.string vl), (.string lo), (.string hi), (.bool ub), (.int .i64 lm), (.bool rv)], .seg [true, false], .canon k_getSN00 scI]
theorem p_getSN00 (p : TP) (q : TQ) (now tl : Int) (cI : Nat) (lM : List (Int × Int × Nat)) (cM : Nat) (j : Nat → Value) (jc : Nat → Nat → Value) (i : Int) (bd : Addr) (m mcap : Nat) (e : Int) (rd : Bool) (ky vl lo hi : ByteArray) (ub : Bool) (lm : Int) (rv : Bool) (oc : Orc) : run Pr tSt (c_getSN00 rd ky vl lo hi ub lm rv) [oc] (tIH00 p q now tl [] cI lM cM j jc i (some bd) m mcap e .ni) =
    some ([.eq (decide (0 ≤ e) && decide (e < (m : Int))) true, .eq (decide (e < (m : Int))) true, .imm (bd.add ((e).toNat * 9)) 9 [(.int .i64 2), (.bool rd), (.string ky), (.string vl), (.string lo), (.string hi), (.bool ub), (.int .i64 lm), (.bool rv)], .eq (decide ((ky.size : Int) ≥ 1)) false, .eq (2 == 2) true, .keep k_getSN00], .at (tIH00 p q now tl [] cI lM cM oc.j oc.jc i (some bd) m mcap (IntKind.i64.wrap (e + 1))   .ni)) := by kernel_rfl
def k_getSI00 : List (Nat × List Nat) := [(0, []), (1, []), (2, []), (3, []), (4, []), (5, [1]), (6, [1]), (7, []), (8, []), (9, []), (10, []), (11, []), (12, []), (13, [1, 0, 2, 2, 2, 2, 2, 2, 2, 2, 2, 0]), (14, [1, 0, 0, 0, 0, 0, 0, 0, 0, 0, 0, 0, 0, 0, 3, 0])]
noncomputable def c_getSI00 (rd : Bool) (ky vl lo hi : ByteArray) (ub : Bool) (lm : Int) (rv : Bool) : List Cmd := [.seg [true, true], .imm [(.int .i64 2), (.bool rd), (.string ky), (.string vl), (.string lo), (.string hi), (.bool ub), (.int .i64 lm), (.bool rv)], .seg [true, false], .canon k_getSI00 scI]
theorem p_getSI00 (p : TP) (q : TQ) (now tl : Int) (cI : Nat) (lM : List (Int × Int × Nat)) (cM : Nat) (j : Nat → Value) (jc : Nat → Nat → Value) (i : Int) (bd : Addr) (m mcap : Nat) (e : Int) (rd : Bool) (ky vl lo hi : ByteArray) (ub : Bool) (lm : Int) (rv : Bool) (x : Value) (oc : Orc) : run Pr tSt (c_getSI00 rd ky vl lo hi ub lm rv) [oc] (tIH00 p q now tl [] cI lM cM j jc i (some bd) m mcap e (.ifc 252 (.v x))) =
    some ([.eq (decide (0 ≤ e) && decide (e < (m : Int))) true, .eq (decide (e < (m : Int))) true, .imm (bd.add ((e).toNat * 9)) 9 [(.int .i64 2), (.bool rd), (.string ky), (.string vl), (.string lo), (.string hi), (.bool ub), (.int .i64 lm), (.bool rv)], .eq (decide ((ky.size : Int) ≥ 1)) false, .eq (2 == 2) true, .keep k_getSI00], .at (tIH00 p q now tl [] cI lM cM oc.j oc.jc i (some bd) m mcap (IntKind.i64.wrap (e + 1))   (.ifc 252 (.v (innerV (oc.jc 14 14)))))) := by kernel_rfl
def k_getLN00 : List (Nat × List Nat) := [(0, []), (1, []), (2, []), (3, []), (4, []), (5, [1]), (6, [1]), (7, []), (8, []), (9, []), (10, []), (11, []), (12, []), (13, [1, 0, 2, 2, 2, 2, 2, 2, 2, 2, 2, 0]), (14, [1, 0, 0, 0, 0, 0, 0, 0, 0, 0, 0, 0, 0, 0, 3, 0])]
noncomputable def c_getLN00 (rd : Bool) (ky vl lo hi : ByteArray) (ub : Bool) (lm : Int) (rv : Bool) : List Cmd := [.seg [true, true], .imm [(.int .i64 2), (.bool rd), (.string ky), (.string vl), (.string lo), (.string hi), (.bool ub), (.int .i64 lm), (.bool rv)], .seg [true, true, true], .canon k_getLN00 scI]
theorem p_getLN00 (p : TP) (q : TQ) (now tl : Int) (cI : Nat) (lM : List (Int × Int × Nat)) (cM : Nat) (j : Nat → Value) (jc : Nat → Nat → Value) (i : Int) (bd : Addr) (m mcap : Nat) (e : Int) (rd : Bool) (ky vl lo hi : ByteArray) (ub : Bool) (lm : Int) (rv : Bool) (oc : Orc) : run Pr tSt (c_getLN00 rd ky vl lo hi ub lm rv) [oc] (tIH00 p q now tl [] cI lM cM j jc i (some bd) m mcap e .ni) =
    some ([.eq (decide (0 ≤ e) && decide (e < (m : Int))) true, .eq (decide (e < (m : Int))) true, .imm (bd.add ((e).toNat * 9)) 9 [(.int .i64 2), (.bool rd), (.string ky), (.string vl), (.string lo), (.string hi), (.bool ub), (.int .i64 lm), (.bool rv)], .eq (!(decide ((ky.size : Int) ≤ 16))) true, .eq (decide ((ky.size : Int) ≥ 1)) true, .eq (2 == 2) true, .keep k_getLN00], .at (tIH00 p q now tl [] cI lM cM oc.j oc.jc i (some bd) m mcap (IntKind.i64.wrap (e + 1))   .ni)) := by kernel_rfl
def k_getLI00 : List (Nat × List Nat) := [(0, []), (1, []), (2, []), (3, []), (4, []), (5, [1]), (6, [1]), (7, []), (8, []), (9, []), (10, []), (11, []), (12, []), (13, [1, 0, 2, 2, 2, 2, 2, 2, 2, 2, 2, 0]), (14, [1, 0, 0, 0, 0, 0, 0, 0, 0, 0, 0, 0, 0, 0, 3, 0])]
noncomputable def c_getLI00 (rd : Bool) (ky vl lo hi : ByteArray) (ub : Bool) (lm : Int) (rv : Bool) : List Cmd := [.seg [true, true], .imm [(.int .i64 2), (.bool rd), (.string ky), (.string vl), (.string lo), (.string hi), (.bool ub), (.int .i64 lm), (.bool rv)], .seg [true, true, true], .canon k_getLI00 scI]
theorem p_getLI00 (p : TP) (q : TQ) (now tl : Int) (cI : Nat) (lM : List (Int × Int × Nat)) (cM : Nat) (j : Nat → Value) (jc : Nat → Nat → Value) (i : Int) (bd : Addr) (m mcap : Nat) (e : Int) (rd : Bool) (ky vl lo hi : ByteArray) (ub : Bool) (lm : Int) (rv : Bool) (x : Value) (oc : Orc) : run Pr tSt (c_getLI00 rd ky vl lo hi ub lm rv) [oc] (tIH00 p q now tl [] cI lM cM j jc i (some bd) m mcap e (.ifc 252 (.v x))) =
    some ([.eq (decide (0 ≤ e) && decide (e < (m : Int))) true, .eq (decide (e < (m : Int))) true, .imm (bd.add ((e).toNat * 9)) 9 [(.int .i64 2), (.bool rd), (.string ky), (.string vl), (.string lo), (.string hi), (.bool ub), (.int .i64 lm), (.bool rv)], .eq (!(decide ((ky.size : Int) ≤ 16))) true, .eq (decide ((ky.size : Int) ≥ 1)) true, .eq (2 == 2) true, .keep k_getLI00], .at (tIH00 p q now tl [] cI lM cM oc.j oc.jc i (some bd) m mcap (IntKind.i64.wrap (e + 1))   (.ifc 252 (.v (innerV (oc.jc 14 14)))))) := by kernel_rfl
def k_rngbcN00 : List (Nat × List Nat) := [(0, []), (1, []), (2, []), (3, []), (4, []), (5, [1]), (6, [1]), (7, []), (8, []), (9, []), (10, []), (11, []), (12, []), (13, [1, 0, 2, 2, 2, 2, 2, 2, 2, 2, 2, 0]), (14, [1, 0, 0, 0, 0, 0, 0, 0, 0, 0, 0, 0, 0, 0, 3, 0])]
noncomputable def c_rngbcN00 (rd : Bool) (ky vl lo hi : ByteArray) (lm : Int) (rv : Bool) : List Cmd := [.seg [true, true], .imm [(.int .i64 5), (.bool rd), (.string ky), (.string vl), (.string lo), (.string hi), (.bool false), (.int .i64 lm), (.bool rv)], .seg [false, true, false, false, false, true], .call (.v (.int .i64 (cmpI lo hi))), .seg [true], .canon k_rngbcN00 scI]
theorem p_rngbcN00 (p : TP) (q : TQ) (now tl : Int) (cI : Nat) (lM : List (Int × Int × Nat)) (cM : Nat) (j : Nat → Value) (jc : Nat → Nat → Value) (i : Int) (bd : Addr) (m mcap : Nat) (e : Int) (rd : Bool) (ky vl lo hi : ByteArray) (lm : Int) (rv : Bool) (oc : Orc) : run Pr tSt (c_rngbcN00 rd ky vl lo hi lm rv) [oc] (tIH00 p q now tl [] cI lM cM j jc i (some bd) m mcap e .ni) =
    some ([.eq (decide (0 ≤ e) && decide (e < (m : Int))) true, .eq (decide (e < (m : Int))) true, .imm (bd.add ((e).toNat * 9)) 9 [(.int .i64 5), (.bool rd), (.string ky), (.string vl), (.string lo), (.string hi), (.bool false), (.int .i64 lm), (.bool rv)], .eq true true, .eq false false, .eq (decide ((hi.size : Int) > 16)) false, .eq (decide ((lo.size : Int) > 16)) false, .eq (5 == 5) true, .eq (5 == 2) false, .call 96 [.v (.string lo), .v (.string hi)] (.v (.int .i64 (cmpI lo hi))), .eq (decide ((cmpI lo hi) ≥ 0)) true, .keep k_rngbcN00], .at (tIH00 p q now tl [] cI lM cM oc.j oc.jc i (some bd) m mcap (IntKind.i64.wrap (e + 1))   .ni)) := by kernel_rfl
def k_rngbcI00 : List (Nat × List Nat) := [(0, []), (1, []), (2, []), (3, []), (4, []), (5, [1]), (6, [1]), (7, []), (8, []), (9, []), (10, []), (11, []), (12, []), (13, [1, 0, 2, 2, 2, 2, 2, 2, 2, 2, 2, 0]), (14, [1, 0, 0, 0, 0, 0, 0, 0, 0, 0, 0, 0, 0, 0, 3, 0])]
noncomputable def c_rngbcI00 (rd : Bool) (ky vl lo hi : ByteArray) (lm : Int) (rv : Bool) : List Cmd := [.seg [true, true], .imm [(.int .i64 5), (.bool rd), (.string ky), (.string vl), (.string lo), (.string hi), (.bool false), (.int .i64 lm), (.bool rv)], .seg [false, true, false, false, false, true], .call (.v (.int .i64 (cmpI lo hi))), .seg [true], .canon k_rngbcI00 scI]
theorem p_rngbcI00 (p : TP) (q : TQ) (now tl : Int) (cI : Nat) (lM : List (Int × Int × Nat)) (cM : Nat) (j : Nat → Value) (jc : Nat → Nat → Value) (i : Int) (bd : Addr) (m mcap : Nat) (e : Int) (rd : Bool) (ky vl lo hi : ByteArray) (lm : Int) (rv : Bool) (x : Value) (oc : Orc) : run Pr tSt (c_rngbcI00 rd ky vl lo hi lm rv) [oc] (tIH00 p q now tl [] cI lM cM j jc i (some bd) m mcap e (.ifc 252 (.v x))) =
    some ([.eq (decide (0 ≤ e) && decide (e < (m : Int))) true, .eq (decide (e < (m : Int))) true, .imm (bd.add ((e).toNat * 9)) 9 [(.int .i64 5), (.bool rd), (.string ky), (.string vl), (.string lo), (.string hi), (.bool false), (.int .i64 lm), (.bool rv)], .eq true true, .eq false false, .eq (decide ((hi.size : Int) > 16)) false, .eq (decide ((lo.size : Int) > 16)) false, .eq (5 == 5) true, .eq (5 == 2) false, .call 96 [.v (.string lo), .v (.string hi)] (.v (.int .i64 (cmpI lo hi))), .eq (decide ((cmpI lo hi) ≥ 0)) true, .keep k_rngbcI00], .at (tIH00 p q now tl [] cI lM cM oc.j oc.jc i (some bd) m mcap (IntKind.i64.wrap (e + 1))   (.ifc 252 (.v (innerV (oc.jc 14 14)))))) := by kernel_rfl
def k_rngLN00 : List (Nat × List Nat) := [(0, []), (1, []), (2, []), (3, []), (4, []), (5, [1]), (6, [1]), (7, []), (8, []), (9, []), (10, []), (11, []), (12, []), (13, [1, 0, 2, 2, 2, 2, 2, 2, 2, 2, 2, 0]), (14, [1, 0, 0, 0, 0, 0, 0, 0, 0, 0, 0, 0, 0, 0, 3, 0])]
noncomputable def c_rngLN00 (rd : Bool) (ky vl lo hi : ByteArray) (ub : Bool) (lm : Int) (rv : Bool) : List Cmd := [.seg [true, true], .imm [(.int .i64 5), (.bool rd), (.string ky), (.string vl), (.string lo), (.string hi), (.bool ub), (.int .i64 lm), (.bool rv)], .seg [false, true, true], .canon k_rngLN00 scI]
theorem p_rngLN00 (p : TP) (q : TQ) (now tl : Int) (cI : Nat) (lM : List (Int × Int × Nat)) (cM : Nat) (j : Nat → Value) (jc : Nat → Nat → Value) (i : Int) (bd : Addr) (m mcap : Nat) (e : Int) (rd : Bool) (ky vl lo hi : ByteArray) (ub : Bool) (lm : Int) (rv : Bool) (oc : Orc) : run Pr tSt (c_rngLN00 rd ky vl lo hi ub lm rv) [oc] (tIH00 p q now tl [] cI lM cM j jc i (some bd) m mcap e .ni) =
    some ([.eq (decide (0 ≤ e) && decide (e < (m : Int))) true, .eq (decide (e < (m : Int))) true, .imm (bd.add ((e).toNat * 9)) 9 [(.int .i64 5), (.bool rd), (.string ky), (.string vl), (.string lo), (.string hi), (.bool ub), (.int .i64 lm), (.bool rv)], .eq (decide ((lo.size : Int) > 16)) true, .eq (5 == 5) true, .eq (5 == 2) false, .keep k_rngLN00], .at (tIH00 p q now tl [] cI lM cM oc.j oc.jc i (some bd) m mcap (IntKind.i64.wrap (e + 1))   .ni)) := by kernel_rfl
def k_rngLI00 : List (Nat × List Nat) := [(0, []), (1, []), (2, []), (3, []), (4, []), (5, [1]), (6, [1]), (7, []), (8, []), (9, []), (10, []), (11, []), (12, []), (13, [1, 0, 2, 2, 2, 2, 2, 2, 2, 2, 2, 0]), (14, [1, 0, 0, 0, 0, 0, 0, 0, 0, 0, 0, 0, 0, 0, 3, 0])]
noncomputable def c_rngLI00 (rd : Bool) (ky vl lo hi : ByteArray) (ub : Bool) (lm : Int) (rv : Bool) : List Cmd := [.seg [true, true], .imm [(.int .i64 5), (.bool rd), (.string ky), (.string vl), (.string lo), (.string hi), (.bool ub), (.int .i64 lm), (.bool rv)], .seg [false, true, true], .canon k_rngLI00 scI]
theorem p_rngLI00 (p : TP) (q : TQ) (now tl : Int) (cI : Nat) (lM : List (Int × Int × Nat)) (cM : Nat) (j : Nat → Value) (jc : Nat → Nat → Value) (i : Int) (bd : Addr) (m mcap : Nat) (e : Int) (rd : Bool) (ky vl lo hi : ByteArray) (ub : Bool) (lm : Int) (rv : Bool) (x : Value) (oc : Orc) : run Pr tSt (c_rngLI00 rd ky vl lo hi ub lm rv) [oc] (tIH00 p q now tl [] cI lM cM j jc i (some bd) m mcap e (.ifc 252 (.v x))) =
    some ([.eq (decide (0 ≤ e) && decide (e < (m : Int))) true, .eq (decide (e < (m : Int))) true, .imm (bd.add ((e).toNat * 9)) 9 [(.int .i64 5), (.bool rd), (.string ky), (.string vl), (.string lo), (.string hi), (.bool ub), (.int .i64 lm), (.bool rv)], .eq (decide ((lo.size : Int) > 16)) true, .eq (5 == 5) true, .eq (5 == 2) false, .keep k_rngLI00], .at (tIH00 p q now tl [] cI lM cM oc.j oc.jc i (some bd) m mcap (IntKind.i64.wrap (e + 1))   (.ifc 252 (.v (innerV (oc.jc 14 14)))))) := by kernel_rfl
def k_rngHN00 : List (Nat × List Nat) := [(0, []), (1, []), (2, []), (3, []), (4, []), (5, [1]), (6, [1]), (7, []), (8, []), (9, []), (10, []), (11, []), (12, []), (13, [1, 0, 2, 2, 2, 2, 2, 2, 2, 2, 2, 0]), (14, [1, 0, 0, 0, 0, 0, 0, 0, 0, 0, 0, 0, 0, 0, 3, 0])]
noncomputable def c_rngHN00 (rd : Bool) (ky vl lo hi : ByteArray) (ub : Bool) (lm : Int) (rv : Bool) : List Cmd := [.seg [true, true], .imm [(.int .i64 5), (.bool rd), (.string ky), (.string vl), (.string lo), (.string hi), (.bool ub), (.int .i64 lm), (.bool rv)], .seg [false, true, false, true], .canon k_rngHN00 scI]
theorem p_rngHN00 (p : TP) (q : TQ) (now tl : Int) (cI : Nat) (lM : List (Int × Int × Nat)) (cM : Nat) (j : Nat → Value) (jc : Nat → Nat → Value) (i : Int) (bd : Addr) (m mcap : Nat) (e : Int) (rd : Bool) (ky vl lo hi : ByteArray) (ub : Bool) (lm : Int) (rv : Bool) (oc : Orc) : run Pr tSt (c_rngHN00 rd ky vl lo hi ub lm rv) [oc] (tIH00 p q now tl [] cI lM cM j jc i (some bd) m mcap e .ni) =
    some ([.eq (decide (0 ≤ e) && decide (e < (m : Int))) true, .eq (decide (e < (m : Int))) true, .imm (bd.add ((e).toNat * 9)) 9 [(.int .i64 5), (.bool rd), (.string ky), (.string vl), (.string lo), (.string hi), (.bool ub), (.int .i64 lm), (.bool rv)], .eq (decide ((hi.size : Int) > 16)) true, .eq (decide ((lo.size : Int) > 16)) false, .eq (5 == 5) true, .eq (5 == 2) false, .keep k_rngHN00], .at (tIH00 p q now tl [] cI lM cM oc.j oc.jc i (some bd) m mcap (IntKind.i64.wrap (e + 1))   .ni)) := by kernel_rfl
def k_rngHI00 : List (Nat × List Nat) := [(0, []), (1, []), (2, []), (3, []), (4, []), (5, [1]), (6, [1]), (7, []), (8, []), (9, []), (10, []), (11, []), (12, []), (13, [1, 0, 2, 2, 2, 2, 2, 2, 2, 2, 2, 0]), (14, [1, 0, 0, 0, 0, 0, 0, 0, 0, 0, 0, 0, 0, 0, 3, 0])]
noncomputable def c_rngHI00 (rd : Bool) (ky vl lo hi : ByteArray) (ub : Bool) (lm : Int) (rv : Bool) : List Cmd := [.seg [true, true], .imm [(.int .i64 5), (.bool rd), (.string ky), (.string vl), (.string lo), (.string hi), (.bool ub), (.int .i64 lm), (.bool rv)], .seg [false, true, false, true], .canon k_rngHI00 scI]
theorem p_rngHI00 (p : TP) (q : TQ) (now tl : Int) (cI : Nat) (lM : List (Int × Int × Nat)) (cM : Nat) (j : Nat → Value) (jc : Nat → Nat → Value) (i : Int) (bd : Addr) (m mcap : Nat) (e : Int) (rd : Bool) (ky vl lo hi : ByteArray) (ub : Bool) (lm : Int) (rv : Bool) (x : Value) (oc : Orc) : run Pr tSt (c_rngHI00 rd ky vl lo hi ub lm rv) [oc] (tIH00 p q now tl [] cI lM cM j jc i (some bd) m mcap e (.ifc 252 (.v x))) =
    some ([.eq (decide (0 ≤ e) && decide (e < (m : Int))) true, .eq (decide (e < (m : Int))) true, .imm (bd.add ((e).toNat * 9)) 9 [(.int .i64 5), (.bool rd), (.string ky), (.string vl), (.string lo), (.string hi), (.bool ub), (.int .i64 lm), (.bool rv)], .eq (decide ((hi.size : Int) > 16)) true, .eq (decide ((lo.size : Int) > 16)) false, .eq (5 == 5) true, .eq (5 == 2) false, .keep k_rngHI00], .at (tIH00 p q now tl [] cI lM cM oc.j oc.jc i (some bd) m mcap (IntKind.i64.wrap (e + 1))   (.ifc 252 (.v (innerV (oc.jc 14 14)))))) := by kernel_rfl
def k_rngucN00 : List (Nat × List Nat) := [(0, []), (1, []), (2, []), (3, []), (4, []), (5, [1]), (6, [1]), (7, []), (8, []), (9, []), (10, []), (11, []), (12, []), (13, [1, 0, 2, 2, 2, 2, 2, 2, 2, 2, 2, 0]), (14, [1, 0, 0, 0, 0, 0, 0, 0, 0, 0, 0, 0, 0, 0, 3, 0])]
noncomputable def c_rngucN00 (rd : Bool) (ky vl lo hi : ByteArray) (lm : Int) (rv : Bool) : List Cmd := [.seg [true, true], .imm [(.int .i64 5), (.bool rd), (.string ky), (.string vl), (.string lo), (.string hi), (.bool true), (.int .i64 lm), (.bool rv)], .seg [false, true, false, false, true, true], .canon k_rngucN00 scI]
theorem p_rngucN00 (p : TP) (q : TQ) (now tl : Int) (cI : Nat) (lM : List (Int × Int × Nat)) (cM : Nat) (j : Nat → Value) (jc : Nat → Nat → Value) (i : Int) (bd : Addr) (m mcap : Nat) (e : Int) (rd : Bool) (ky vl lo hi : ByteArray) (lm : Int) (rv : Bool) (oc : Orc) : run Pr tSt (c_rngucN00 rd ky vl lo hi lm rv) [oc] (tIH00 p q now tl [] cI lM cM j jc i (some bd) m mcap e .ni) =
    some ([.eq (decide (0 ≤ e) && decide (e < (m : Int))) true, .eq (decide (e < (m : Int))) true, .imm (bd.add ((e).toNat * 9)) 9 [(.int .i64 5), (.bool rd), (.string ky), (.string vl), (.string lo), (.string hi), (.bool true), (.int .i64 lm), (.bool rv)], .eq (!(decide (hi.data.toList = ByteArray.empty.data.toList))) true, .eq true true, .eq (decide ((hi.size : Int) > 16)) false, .eq (decide ((lo.size : Int) > 16)) false, .eq (5 == 5) true, .eq (5 == 2) false, .keep k_rngucN00], .at (tIH00 p q now tl [] cI lM cM oc.j oc.jc i (some bd) m mcap (IntKind.i64.wrap (e + 1))   .ni)) := by kernel_rfl
def k_rngucI00 : List (Nat × List Nat) := [(0, []), (1, []), (2, []), (3, []), (4, []), (5, [1]), (6, [1]), (7, []), (8, []), (9, []), (10, []), (11, []), (12, []), (13, [1, 0, 2, 2, 2, 2, 2, 2, 2, 2, 2, 0]), (14, [1, 0, 0, 0, 0, 0, 0, 0, 0, 0, 0, 0, 0, 0, 3, 0])]
noncomputable def c_rngucI00 (rd : Bool) (ky vl lo hi : ByteArray) (lm : Int) (rv : Bool) : List Cmd := [.seg [true, true], .imm [(.int .i64 5), (.bool rd), (.string ky), (.string vl), (.string lo), (.string hi), (.bool true), (.int .i64 lm), (.bool rv)], .seg [false, true, false, false, true, true], .canon k_rngucI00 scI]
theorem p_rngucI00 (p : TP) (q : TQ) (now tl : Int) (cI : Nat) (lM : List (Int × Int × Nat)) (cM : Nat) (j : Nat → Value) (jc : Nat → Nat → Value) (i : Int) (bd : Addr) (m mcap : Nat) (e : Int) (rd : Bool) (ky vl lo hi : ByteArray) (lm : Int) (rv : Bool) (x : Value) (oc : Orc) : run Pr tSt (c_rngucI00 rd ky vl lo hi lm rv) [oc] (tIH00 p q now tl [] cI lM cM j jc i (some bd) m mcap e (.ifc 252 (.v x))) =
    some ([.eq (decide (0 ≤ e) && decide (e < (m : Int))) true, .eq (decide (e < (m : Int))) true, .imm (bd.add ((e).toNat * 9)) 9 [(.int .i64 5), (.bool rd), (.string ky), (.string vl), (.string lo), (.string hi), (.bool true), (.int .i64 lm), (.bool rv)], .eq (!(decide (hi.data.toList = ByteArray.empty.data.toList))) true, .eq true true, .eq (decide ((hi.size : Int) > 16)) false, .eq (decide ((lo.size : Int) > 16)) false, .eq (5 == 5) true, .eq (5 == 2) false, .keep k_rngucI00], .at (tIH00 p q now tl [] cI lM cM oc.j oc.jc i (some bd) m mcap (IntKind.i64.wrap (e + 1))   (.ifc 252 (.v (innerV (oc.jc 14 14)))))) := by kernel_rfl
def k_othN00 : List (Nat × List Nat) := [(0, []), (1, []), (2, []), (3, []), (4, []), (5, [1]), (6, [1]), (7, []), (8, []), (9, []), (10, []), (11, []), (12, []), (13, [1, 0, 2, 2, 2, 2, 2, 2, 2, 2, 2, 0]), (14, [1, 0, 0, 0, 0, 0, 0, 0, 0, 0, 0, 0, 0, 0, 3, 0])]
noncomputable def c_othN00 (kd : Int) (rd : Bool) (ky vl lo hi : ByteArray) (ub : Bool) (lm : Int) (rv : Bool) : List Cmd := [.seg [true, true], .imm [(.int .i64 kd), (.bool rd), (.string ky), (.string vl), (.string lo), (.string hi), (.bool ub), (.int .i64 lm), (.bool rv)], .seg [false, false], .canon k_othN00 scI]
theorem p_othN00 (p : TP) (q : TQ) (now tl : Int) (cI : Nat) (lM : List (Int × Int × Nat)) (cM : Nat) (j : Nat → Value) (jc : Nat → Nat → Value) (i : Int) (bd : Addr) (m mcap : Nat) (e : Int) (kd : Int) (rd : Bool) (ky vl lo hi : ByteArray) (ub : Bool) (lm : Int) (rv : Bool) (oc : Orc) : run Pr tSt (c_othN00 kd rd ky vl lo hi ub lm rv) [oc] (tIH00 p q now tl [] cI lM cM j jc i (some bd) m mcap e .ni) =
    some ([.eq (decide (0 ≤ e) && decide (e < (m : Int))) true, .eq (decide (e < (m : Int))) true, .imm (bd.add ((e).toNat * 9)) 9 [(.int .i64 kd), (.bool rd), (.string ky), (.string vl), (.string lo), (.string hi), (.bool ub), (.int .i64 lm), (.bool rv)], .eq (kd == 5) false, .eq (kd == 2) false, .keep k_othN00], .at (tIH00 p q now tl [] cI lM cM oc.j oc.jc i (some bd) m mcap (IntKind.i64.wrap (e + 1))   .ni)) := by kernel_rfl
def k_othI00 : List (Nat × List Nat) := [(0, []), (1, []), (2, []), (3, []), (4, []), (5, [1]), (6, [1]), (7, []), (8, []), (9, []), (10, []), (11, []), (12, []), (13, [1, 0, 2, 2, 2, 2, 2, 2, 2, 2, 2, 0]), (14, [1, 0, 0, 0, 0, 0, 0, 0, 0, 0, 0, 0, 0, 0, 3, 0])]
noncomputable def c_othI00 (kd : Int) (rd : Bool) (ky vl lo hi : ByteArray) (ub : Bool) (lm : Int) (rv : Bool) : List Cmd := [.seg [true, true], .imm [(.int .i64 kd), (.bool rd), (.string ky), (.string vl), (.string lo), (.string hi), (.bool ub), (.int .i64 lm), (.bool rv)], .seg [false, false], .canon k_othI00 scI]
theorem p_othI00 (p : TP) (q : TQ) (now tl : Int) (cI : Nat) (lM : List (Int × Int × Nat)) (cM : Nat) (j : Nat → Value) (jc : Nat → Nat → Value) (i : Int) (bd : Addr) (m mcap : Nat) (e : Int) (kd : Int) (rd : Bool) (ky vl lo hi : ByteArray) (ub : Bool) (lm : Int) (rv : Bool) (x : Value) (oc : Orc) : run Pr tSt (c_othI00 kd rd ky vl lo hi ub lm rv) [oc] (tIH00 p q now tl [] cI lM cM j jc i (some bd) m mcap e (.ifc 252 (.v x))) =
    some ([.eq (decide (0 ≤ e) && decide (e < (m : Int))) true, .eq (decide (e < (m : Int))) true, .imm (bd.add ((e).toNat * 9)) 9 [(.int .i64 kd), (.bool rd), (.string ky), (.string vl), (.string lo), (.string hi), (.bool ub), (.int .i64 lm), (.bool rv)], .eq (kd == 5) false, .eq (kd == 2) false, .keep k_othI00], .at (tIH00 p q now tl [] cI lM cM oc.j oc.jc i (some bd) m mcap (IntKind.i64.wrap (e + 1))   (.ifc 252 (.v (innerV (oc.jc 14 14)))))) := by kernel_rfl
theorem p_out00 (p : TP) (q : TQ) (now tl : Int) (lI : List (Int × Int × Nat)) (cI : Nat) (lM : List (Int × Int × Nat)) (cM : Nat) (j : Nat → Value) (jc : Nat → Nat → Value) (i : Int) (bo : Option Addr) (m mcap : Nat) (e : Int) (er : SV) (oc : Orc) : run Pr tSt [.seg [false], .canon keepX scO] [oc] (tIH00 p q now tl lI cI lM cM j jc i bo m mcap e er) =
    some ([.eq (decide (e < (m : Int))) false, .keep keepX], .at (tOH p q now tl lI cI lM cM oc.j oc.jc (IntKind.i64.wrap (i + 1)))) := by kernel_rfl
end Go.Rl.Z

open Go Go.Rl
namespace Go.Rl.Z
set_option maxRecDepth 100000
theorem round00 (p : TP) (q : TQ) (w : World) (I : Imm) (i : Nat) (bd : Addr) (hsp : bd.spot = none) (m mcap e : Nat) (he : e < m) (hm : m * 72 ≤ 140737488355328) (hact : ActIn I bd e) (hq : 1 ≤ q.na ∧ 1 ≤ q.nb) (hit : (i : Int) < p.t) (hpc : p.c ≤ 1099511627776)
    (g : ∀ S, InS p q i (some bd) m mcap (e + 1) S → WPs (Cts w) I S)
    (now tl : Int) (cI : Nat) (lM : List (Int × Int × Nat)) (cM : Nat) (j : Nat → Value) (jc : Nat → Nat → Value) (er : SV) (h1 : 1 ≤ now) (h2 : now ≤ p.c) (her : ErOK er) :
    WPs (Cts w) I (tIH00 p q now tl [] cI lM cM j jc i (some bd) m mcap (e : Int) er) := by
  obtain ⟨cs, T, fz, kd, rd, ky, vl, lo, hi, ub, lm, rv, hI, hcs⟩ := hact
  have b0 : (decide (0 ≤ (e : Int)) && decide ((e : Int) < (m : Int))) = true := by simp; omega
  have b1 : decide ((e : Int) < (m : Int)) = true := by simp; omega
  have n1 : decide (1 > (q.na : Int)) = false := by simp; omega
  have n2 : decide (0 ≥ (q.nb : Int)) = false := by simp; omega
  have t1 : (!(decide ((i : Int) < p.t))) = false := by simp; omega
  have t2 : decide ((i : Int) ≥ 0) = true := by simp
  have w1 : decide ((IntKind.i64.wrap (now + 1)) > (IntKind.i64.wrap (now + 1))) = false := by simp
  have ww : IntKind.i64.wrap (now + 1) = now + 1 := wrap_id (by omega) (by omega)
  have w2 : decide ((IntKind.i64.wrap (now + 1)) < 1) = false := by rw [ww]; simp; omega
  have we : IntKind.i64.wrap ((e : Int) + 1) = ((e + 1 : Nat) : Int) := by rw [wrap_id (by omega) (by omega)]; simp
  have ih1 : (!(imHas (i : Int) [((i : Int), IntKind.i64.wrap (now + 1), cI)])) = false := imHas_one _ _ _
  have ie : imDel (i : Int) [((i : Int), IntKind.i64.wrap (now + 1), cI)] = [] := imDel_one _ _ _
  have him : IsImm I (bd.add ((e : Int).toNat * 9)) 9 (actV kd rd ky vl lo hi ub lm rv) := act_imm hsp hI hcs
  cases k2 : kd == 2
  rotate_left 1
  · have hk : kd = 2 := by simpa using k2
    subst hk
    cases y1 : decide ((ky.size : Int) ≥ 1)
    · skip
      rcases her with rfl | ⟨xv, rfl⟩
      · skip
        refine WPs.runs (C := Cts w) tSt (c_getSN00 rd ky vl lo hi ub lm rv) fun os hos => ?_
        obtain ⟨oc, rfl⟩ := orcsN1 hos
        refine ⟨_, _, p_getSN00 p q now tl cI lM cM j jc i bd m mcap e rd ky vl lo hi ub lm rv oc, ?_⟩
        refine ⟨b0, b1, him, y1, rfl, (fun n b e => by cases e), ?_⟩
        show WPs _ _ _
        rw [we]
        exact g _ (.s00 _ _ _ _ _ _ _ _ (by omega) (by omega) (.inl rfl))
      · skip
        refine WPs.runs (C := Cts w) tSt (c_getSI00 rd ky vl lo hi ub lm rv) fun os hos => ?_
        obtain ⟨oc, rfl⟩ := orcsN1 hos
        refine ⟨_, _, p_getSI00 p q now tl cI lM cM j jc i bd m mcap e rd ky vl lo hi ub lm rv xv oc, ?_⟩
        refine ⟨b0, b1, him, y1, rfl, (fun n b e => by cases e), ?_⟩
        show WPs _ _ _
        rw [we]
        exact g _ (.s00 _ _ _ _ _ _ _ _ (by omega) (by omega) (.inr ⟨_, rfl⟩))
    · skip
      cases y2 : !(decide ((ky.size : Int) ≤ 16))
      rotate_left 1
      · skip
        rcases her with rfl | ⟨xv, rfl⟩
        · skip
          refine WPs.runs (C := Cts w) tSt (c_getLN00 rd ky vl lo hi ub lm rv) fun os hos => ?_
          obtain ⟨oc, rfl⟩ := orcsN1 hos
          refine ⟨_, _, p_getLN00 p q now tl cI lM cM j jc i bd m mcap e rd ky vl lo hi ub lm rv oc, ?_⟩
          refine ⟨b0, b1, him, y2, y1, rfl, (fun n b e => by cases e), ?_⟩
          show WPs _ _ _
          rw [we]
          exact g _ (.s00 _ _ _ _ _ _ _ _ (by omega) (by omega) (.inl rfl))
        · skip
          refine WPs.runs (C := Cts w) tSt (c_getLI00 rd ky vl lo hi ub lm rv) fun os hos => ?_
          obtain ⟨oc, rfl⟩ := orcsN1 hos
          refine ⟨_, _, p_getLI00 p q now tl cI lM cM j jc i bd m mcap e rd ky vl lo hi ub lm rv xv oc, ?_⟩
          refine ⟨b0, b1, him, y2, y1, rfl, (fun n b e => by cases e), ?_⟩
          show WPs _ _ _
          rw [we]
          exact g _ (.s00 _ _ _ _ _ _ _ _ (by omega) (by omega) (.inr ⟨_, rfl⟩))
      · cases y3 : now == p.c
        · have hne : now ≠ p.c := by simpa using y3
          refine WPs.runs (C := Cts w) tSt (c_get00 rd ky vl lo hi ub lm rv) fun os hos => ?_
          obtain ⟨o0, o1, o2, o3, o4, oc, rfl⟩ := orcsN6 hos
          refine ⟨_, _, p_get00 p q now tl cI lM cM j jc i bd m mcap e rd ky vl lo hi ub lm rv er o0 o1 o2 o3 o4 oc, ?_⟩
          refine ⟨b0, b1, him, y2, y1, rfl, ⟨by decide, by decide, by decide, by decide⟩, fun ha0 hb0 => ⟨rfl, rfl, n1, n2, w1, w2, rfl, t1, t2, y3, y2, y1, ⟨by decide, by decide, by decide, by decide⟩, fun ha1 hb1 => ⟨⟨by decide, by decide, by decide, by decide⟩, fun ha2 hb2 => ⟨⟨by decide, by decide, by decide, by decide⟩, fun ha3 hb3 => ⟨rfl, rfl, ⟨by decide, by decide, by decide, by decide⟩, fun ha4 hb4 => ⟨(cmp_e _), ih1, t1, t2, (decide_eq_true (cmpI_empty ky)), ext72, ext306, (fun n b e => by cases e), ?_⟩⟩⟩⟩⟩⟩
          show WPs _ _ _
          rw [ie, ww, we]
          exact g _ (.s10 _ _ _ _ _ _ _ _ _ _ _ (by omega) (by omega) (.inl rfl) (by omega) (by omega) (by omega))
        · skip
          refine WPs.runs (C := Cts w) tSt (c_getx00 rd ky vl lo hi ub lm rv) fun os hos => ?_
          obtain ⟨o0, oc, rfl⟩ := orcsN2 hos
          refine ⟨_, _, p_getx00 p q now tl cI lM cM j jc i bd m mcap e rd ky vl lo hi ub lm rv er o0 oc, ?_⟩
          refine ⟨b0, b1, him, y2, y1, rfl, ⟨by decide, by decide, by decide, by decide⟩, fun ha0 hb0 => ⟨y3, y2, y1, ext72, ext306, (fun n b e => by cases e), ?_⟩⟩
          show WPs _ _ _
          rw [we]
          exact g _ (.s10 _ _ _ _ _ _ _ _ _ _ _ (by omega) (by omega) (.inr ⟨_, rfl⟩) (by omega) (by omega) (by omega))
  cases k5 : kd == 5
  · skip
    rcases her with rfl | ⟨xv, rfl⟩
    · skip
      refine WPs.runs (C := Cts w) tSt (c_othN00 kd rd ky vl lo hi ub lm rv) fun os hos => ?_
      obtain ⟨oc, rfl⟩ := orcsN1 hos
      refine ⟨_, _, p_othN00 p q now tl cI lM cM j jc i bd m mcap e kd rd ky vl lo hi ub lm rv oc, ?_⟩
      refine ⟨b0, b1, him, k5, k2, (fun n b e => by cases e), ?_⟩
      show WPs _ _ _
      rw [we]
      exact g _ (.s00 _ _ _ _ _ _ _ _ (by omega) (by omega) (.inl rfl))
    · skip
      refine WPs.runs (C := Cts w) tSt (c_othI00 kd rd ky vl lo hi ub lm rv) fun os hos => ?_
      obtain ⟨oc, rfl⟩ := orcsN1 hos
      refine ⟨_, _, p_othI00 p q now tl cI lM cM j jc i bd m mcap e kd rd ky vl lo hi ub lm rv xv oc, ?_⟩
      refine ⟨b0, b1, him, k5, k2, (fun n b e => by cases e), ?_⟩
      show WPs _ _ _
      rw [we]
      exact g _ (.s00 _ _ _ _ _ _ _ _ (by omega) (by omega) (.inr ⟨_, rfl⟩))
  have hk : kd = 5 := by simpa using k5
  subst hk
  cases y1 : decide ((lo.size : Int) > 16)
  rotate_left 1
  · skip
    rcases her with rfl | ⟨xv, rfl⟩
    · skip
      refine WPs.runs (C := Cts w) tSt (c_rngLN00 rd ky vl lo hi ub lm rv) fun os hos => ?_
      obtain ⟨oc, rfl⟩ := orcsN1 hos
      refine ⟨_, _, p_rngLN00 p q now tl cI lM cM j jc i bd m mcap e rd ky vl lo hi ub lm rv oc, ?_⟩
      refine ⟨b0, b1, him, y1, rfl, rfl, (fun n b e => by cases e), ?_⟩
      show WPs _ _ _
      rw [we]
      exact g _ (.s00 _ _ _ _ _ _ _ _ (by omega) (by omega) (.inl rfl))
    · skip
      refine WPs.runs (C := Cts w) tSt (c_rngLI00 rd ky vl lo hi ub lm rv) fun os hos => ?_
      obtain ⟨oc, rfl⟩ := orcsN1 hos
      refine ⟨_, _, p_rngLI00 p q now tl cI lM cM j jc i bd m mcap e rd ky vl lo hi ub lm rv xv oc, ?_⟩
      refine ⟨b0, b1, him, y1, rfl, rfl, (fun n b e => by cases e), ?_⟩
      show WPs _ _ _
      rw [we]
      exact g _ (.s00 _ _ _ _ _ _ _ _ (by omega) (by omega) (.inr ⟨_, rfl⟩))
  have hlo : (lo.size : Int) ≤ 16 := by simpa using y1
  cases y2 : decide ((hi.size : Int) > 16)
  rotate_left 1
  · skip
    rcases her with rfl | ⟨xv, rfl⟩
    · skip
      refine WPs.runs (C := Cts w) tSt (c_rngHN00 rd ky vl lo hi ub lm rv) fun os hos => ?_
      obtain ⟨oc, rfl⟩ := orcsN1 hos
      refine ⟨_, _, p_rngHN00 p q now tl cI lM cM j jc i bd m mcap e rd ky vl lo hi ub lm rv oc, ?_⟩
      refine ⟨b0, b1, him, y2, y1, rfl, rfl, (fun n b e => by cases e), ?_⟩
      show WPs _ _ _
      rw [we]
      exact g _ (.s00 _ _ _ _ _ _ _ _ (by omega) (by omega) (.inl rfl))
    · skip
      refine WPs.runs (C := Cts w) tSt (c_rngHI00 rd ky vl lo hi ub lm rv) fun os hos => ?_
      obtain ⟨oc, rfl⟩ := orcsN1 hos
      refine ⟨_, _, p_rngHI00 p q now tl cI lM cM j jc i bd m mcap e rd ky vl lo hi ub lm rv xv oc, ?_⟩
      refine ⟨b0, b1, him, y2, y1, rfl, rfl, (fun n b e => by cases e), ?_⟩
      show WPs _ _ _
      rw [we]
      exact g _ (.s00 _ _ _ _ _ _ _ _ (by omega) (by omega) (.inr ⟨_, rfl⟩))
  cases ub
  · skip
    cases y3 : decide ((cmpI lo hi) ≥ 0)
    rotate_left 1
    · skip
      rcases her with rfl | ⟨xv, rfl⟩
      · skip
        refine WPs.runs (C := Cts w) tSt (c_rngbcN00 rd ky vl lo hi lm rv) fun os hos => ?_
        obtain ⟨oc, rfl⟩ := orcsN1 hos
        refine ⟨_, _, p_rngbcN00 p q now tl cI lM cM j jc i bd m mcap e rd ky vl lo hi lm rv oc, ?_⟩
        refine ⟨b0, b1, him, rfl, rfl, y2, y1, rfl, rfl, (cmp_is lo hi (by omega)), y3, (fun n b e => by cases e), ?_⟩
        show WPs _ _ _
        rw [we]
        exact g _ (.s00 _ _ _ _ _ _ _ _ (by omega) (by omega) (.inl rfl))
      · skip
        refine WPs.runs (C := Cts w) tSt (c_rngbcI00 rd ky vl lo hi lm rv) fun os hos => ?_
        obtain ⟨oc, rfl⟩ := orcsN1 hos
        refine ⟨_, _, p_rngbcI00 p q now tl cI lM cM j jc i bd m mcap e rd ky vl lo hi lm rv xv oc, ?_⟩
        refine ⟨b0, b1, him, rfl, rfl, y2, y1, rfl, rfl, (cmp_is lo hi (by omega)), y3, (fun n b e => by cases e), ?_⟩
        show WPs _ _ _
        rw [we]
        exact g _ (.s00 _ _ _ _ _ _ _ _ (by omega) (by omega) (.inr ⟨_, rfl⟩))
    have y4 : (!(decide ((cmpI lo hi) < 0))) = false := by simp at y3 ⊢; exact y3
    cases y5 : now == p.c
    · have hne : now ≠ p.c := by simpa using y5
      refine WPs.runs (C := Cts w) tSt (c_rngb00 rd ky vl lo hi lm rv) fun os hos => ?_
      obtain ⟨o0, o1, o2, o3, o4, o5, oc, rfl⟩ := orcsN7 hos
      refine ⟨_, _, p_rngb00 p q now tl cI lM cM j jc i bd m mcap e rd ky vl lo hi lm rv er o0 o1 o2 o3 o4 o5 oc, ?_⟩
      refine ⟨b0, b1, him, rfl, rfl, y2, y1, rfl, rfl, (cmp_is lo hi (by omega)), y3, ⟨by decide, by decide, by decide, by decide⟩, fun ha0 hb0 => ⟨rfl, y2, y1, (cmp_is lo hi (by omega)), rfl, rfl, n1, n2, w1, w2, rfl, t1, t2, y5, y4, ⟨by decide, by decide, by decide, by decide⟩, fun ha1 hb1 => ⟨⟨by decide, by decide, by decide, by decide⟩, fun ha2 hb2 => ⟨⟨by decide, by decide, by decide, by decide⟩, fun ha3 hb3 => ⟨rfl, rfl, ⟨by decide, by decide, by decide, by decide⟩, fun ha4 hb4 => ⟨(cmp_e _), ih1, t1, t2, (decide_eq_true (cmpI_empty lo)), ⟨by decide, by decide, by decide, by decide⟩, fun ha5 hb5 => ⟨(fun n b e => by cases e), ?_⟩⟩⟩⟩⟩⟩⟩
      show WPs _ _ _
      rw [ie, ww, we]
      exact g _ (.s01 _ _ _ _ _ _ _ _ _ _ _ (by omega) (by omega) (.inl rfl) (by omega) (by omega) (by omega))
    · skip
      refine WPs.runs (C := Cts w) tSt (c_rngbx00 rd ky vl lo hi lm rv) fun os hos => ?_
      obtain ⟨o0, oc, rfl⟩ := orcsN2 hos
      refine ⟨_, _, p_rngbx00 p q now tl cI lM cM j jc i bd m mcap e rd ky vl lo hi lm rv er o0 oc, ?_⟩
      refine ⟨b0, b1, him, rfl, rfl, y2, y1, rfl, rfl, (cmp_is lo hi (by omega)), y3, ⟨by decide, by decide, by decide, by decide⟩, fun ha0 hb0 => ⟨rfl, y2, y1, (cmp_is lo hi (by omega)), y5, y4, (fun n b e => by cases e), ?_⟩⟩
      show WPs _ _ _
      rw [we]
      exact g _ (.s01 _ _ _ _ _ _ _ _ _ _ _ (by omega) (by omega) (.inr ⟨_, rfl⟩) (by omega) (by omega) (by omega))
  cases y3 : !(decide (hi.data.toList = ByteArray.empty.data.toList))
  rotate_left 1
  · skip
    rcases her with rfl | ⟨xv, rfl⟩
    · skip
      refine WPs.runs (C := Cts w) tSt (c_rngucN00 rd ky vl lo hi lm rv) fun os hos => ?_
      obtain ⟨oc, rfl⟩ := orcsN1 hos
      refine ⟨_, _, p_rngucN00 p q now tl cI lM cM j jc i bd m mcap e rd ky vl lo hi lm rv oc, ?_⟩
      refine ⟨b0, b1, him, y3, rfl, y2, y1, rfl, rfl, (fun n b e => by cases e), ?_⟩
      show WPs _ _ _
      rw [we]
      exact g _ (.s00 _ _ _ _ _ _ _ _ (by omega) (by omega) (.inl rfl))
    · skip
      refine WPs.runs (C := Cts w) tSt (c_rngucI00 rd ky vl lo hi lm rv) fun os hos => ?_
      obtain ⟨oc, rfl⟩ := orcsN1 hos
      refine ⟨_, _, p_rngucI00 p q now tl cI lM cM j jc i bd m mcap e rd ky vl lo hi lm rv xv oc, ?_⟩
      refine ⟨b0, b1, him, y3, rfl, y2, y1, rfl, rfl, (fun n b e => by cases e), ?_⟩
      show WPs _ _ _
      rw [we]
      exact g _ (.s00 _ _ _ _ _ _ _ _ (by omega) (by omega) (.inr ⟨_, rfl⟩))
  cases y5 : now == p.c
  · have hne : now ≠ p.c := by simpa using y5
    refine WPs.runs (C := Cts w) tSt (c_rngu00 rd ky vl lo hi lm rv) fun os hos => ?_
    obtain ⟨o0, o1, o2, o3, o4, o5, oc, rfl⟩ := orcsN7 hos
    refine ⟨_, _, p_rngu00 p q now tl cI lM cM j jc i bd m mcap e rd ky vl lo hi lm rv er o0 o1 o2 o3 o4 o5 oc, ?_⟩
    refine ⟨b0, b1, him, rfl, y3, rfl, y2, y1, rfl, rfl, ⟨by decide, by decide, by decide, by decide⟩, fun ha0 hb0 => ⟨rfl, rfl, n1, n2, w1, w2, rfl, t1, t2, y5, y3, rfl, y2, y1, ⟨by decide, by decide, by decide, by decide⟩, fun ha1 hb1 => ⟨⟨by decide, by decide, by decide, by decide⟩, fun ha2 hb2 => ⟨⟨by decide, by decide, by decide, by decide⟩, fun ha3 hb3 => ⟨rfl, rfl, ⟨by decide, by decide, by decide, by decide⟩, fun ha4 hb4 => ⟨(cmp_e _), ih1, t1, t2, (decide_eq_true (cmpI_empty lo)), ⟨by decide, by decide, by decide, by decide⟩, fun ha5 hb5 => ⟨(fun n b e => by cases e), ?_⟩⟩⟩⟩⟩⟩⟩
    show WPs _ _ _
    rw [ie, ww, we]
    exact g _ (.s01 _ _ _ _ _ _ _ _ _ _ _ (by omega) (by omega) (.inl rfl) (by omega) (by omega) (by omega))
  refine WPs.runs (C := Cts w) tSt (c_rngux00 rd ky vl lo hi lm rv) fun os hos => ?_
  obtain ⟨o0, oc, rfl⟩ := orcsN2 hos
  refine ⟨_, _, p_rngux00 p q now tl cI lM cM j jc i bd m mcap e rd ky vl lo hi lm rv er o0 oc, ?_⟩
  refine ⟨b0, b1, him, rfl, y3, rfl, y2, y1, rfl, rfl, ⟨by decide, by decide, by decide, by decide⟩, fun ha0 hb0 => ⟨y5, y3, rfl, y2, y1, (fun n b e => by cases e), ?_⟩⟩
  show WPs _ _ _
  rw [we]
  exact g _ (.s01 _ _ _ _ _ _ _ _ _ _ _ (by omega) (by omega) (.inr ⟨_, rfl⟩) (by omega) (by omega) (by omega))
end Go.Rl.Z
