/-
  TopStores: the states of its loops.
-/
import Derived.Test.YtghmpcnchjjikaaGreatRlZcm
import Derived.Test.YtghmpcnchjjikaaGreatRlZis
import Derived.Test.YtghmpcnchjjikaaGreatRlSt
set_option linter.all false
set_option linter.unusedVariables false
set_option linter.unusedSimpArgs false
set_option linter.unnecessarySimpa false
open Go Go.Rl
namespace Go.Rl.Z
set_option maxRecDepth 100000
structure TP where
  a : Int
  b : Int
  t : Int
  r : Int
  h : Int
  c : Int
  ad : Addr
  n : Nat
  cap : Nat
structure TQ where
  na : Nat
  nb : Nat
  ra : List Value
  rb : List Value
def tk : Nat → Int → Int
  | 0, x => x
  | k + 1, x => IntKind.i64.wrap (tk k x + 1)
def tSt : Stops := fun k => Nat.beq k 5 || (Nat.beq k 16 || (Nat.beq k 47 || (Nat.beq k 107 || (Nat.beq k 96 || Nat.beq k 17))))
def tArg (p : TP) (tv : Value) : SV := .ag [.v (.int .i64 p.a), .v (.int .i64 p.b), .v (.int .i64 p.t), .v (.int .i64 p.r), .v (.int .i64 p.h), .v (.int .i64 p.c), .v (.slice (some p.ad) p.n p.cap), .v tv]
def keepO : List (Nat × List Nat) := [(5, []), (6, []), (7, []), (8, []), (9, []), (10, [1]), (11, [1]), (16, []), (17, []), (21, []), (22, []), (23, []), (24, [])]
def scO : List Nat := [2, 2, 2, 0, 2, 1, 2, 2, 2, 2, 2, 2, 2, 2, 2, 2, 2, 2, 2, 2, 2, 2, 2, 2, 2, 2, 2, 2, 2, 2, 2, 2, 2, 2, 2, 2, 2, 2, 2, 0, 0, 1, 0, 2, 2, 2, 2, 2, 2, 2, 2, 2, 2, 2, 2, 2, 2, 2, 2, 2, 2, 2, 2, 2, 2, 2, 2, 2, 2, 2, 2, 2, 2, 2, 2, 2, 2, 2, 2, 2, 2, 2, 2, 2, 2, 2, 2, 2, 2, 2, 2, 2, 2, 2, 2, 2, 2, 2, 2, 2, 2, 2, 2, 2, 2, 2, 2, 2, 2, 2, 2, 2, 2, 2, 2, 2, 2, 2, 2, 2, 2, 2, 2, 2, 2, 2, 2, 2, 2, 2, 2, 2, 2, 2, 2, 2, 2, 2, 2, 2, 2, 2, 2, 2, 2, 2, 2]
def keepB : List (Nat × List Nat) := [(0, []), (1, []), (2, []), (3, []), (4, []), (5, [1]), (6, [1]), (7, []), (8, []), (9, []), (10, []), (11, []), (12, []), (13, [1, 0, 2, 2, 2, 2, 2, 2, 2, 2, 2, 0]), (14, [1, 0, 0, 0, 0, 0, 0, 0, 0, 0, 0, 0, 0, 0, 3, 0])]
def scI : List Nat := [2, 2, 2, 0, 2, 1, 2, 2, 0, 2, 2, 2, 2, 2, 2, 2, 2, 2, 2, 2, 2, 2, 2, 2, 2, 2, 2, 2, 2, 2, 2, 2, 2, 2, 2, 2, 2, 2, 2, 0, 0, 1, 2, 2, 2, 2, 2, 2, 2, 2, 2, 2, 2, 2, 2, 0, 0, 1, 0, 2, 2, 2, 2, 2, 2, 2, 2, 2, 2, 2, 2, 2, 2, 2, 2, 2, 2, 2, 2, 2, 2, 2, 2, 2, 2, 2, 2, 2, 2, 2, 2, 2, 2, 2, 2, 2, 2, 2, 2, 2, 2, 2, 2, 2, 2, 2, 2, 2, 2, 2, 2, 2, 2, 2, 2, 2, 2, 2, 2, 2, 2, 2, 2, 2, 2, 2, 2, 2, 2, 2, 2, 2, 2, 2, 2, 2, 2, 2, 2, 2, 2, 2, 2, 2, 2, 2, 2]
def keepX : List (Nat × List Nat) := [(0, []), (1, []), (2, []), (3, []), (4, []), (5, [1]), (6, [1]), (7, []), (8, []), (9, []), (10, []), (11, []), (12, [])]
noncomputable def tOH (p : TP) (q : TQ) (now tl : Int) (lI : List (Int × Int × Nat)) (cI : Nat) (lM : List (Int × Int × Nat)) (cM : Nat) (j : Nat → Value) (jc : Nat → Nat → Value) (i : Int) : SS := ⟨[⟨4, slots 147 [.v (j 0), .v (j 1), .v (j 2), .p 12 0, .v (j 4), .v (.int .i64 1), .v (j 6), .v (j 7), .v (j 8), .v (j 9), .v (j 10), .v (j 11), .v (j 12), .v (j 13), .v (j 14), .v (j 15), .v (j 16), .v (j 17), .v (j 18), .v (j 19), .v (j 20), .v (j 21), .v (j 22), .v (j 23), .v (j 24), .v (j 25), .v (j 26), .v (j 27), .v (j 28), .v (j 29), .v (j 30), .v (j 31), .v (j 32), .v (j 33), .v (j 34), .v (j 35), .v (j 36), .v (j 37), .v (j 38), .v (.slice (some p.ad) p.n p.cap), .v (.int .i64 (p.n : Int)), .v (.int .i64 i), .v (.bool (decide (i < (p.n : Int)))), .v (j 43), .v (j 44), .v (j 45), .v (j 46), .v (j 47), .v (j 48), .v (j 49), .v (j 50), .v (j 51), .v (j 52), .v (j 53), .v (j 54), .v (j 55), .v (j 56), .v (j 57), .v (j 58), .v (j 59), .v (j 60), .v (j 61), .v (j 62), .v (j 63), .v (j 64), .v (j 65), .v (j 66), .v (j 67), .v (j 68), .v (j 69), .v (j 70), .v (j 71), .v (j 72), .v (j 73), .v (j 74), .v (j 75), .v (j 76), .v (j 77), .v (j 78), .v (j 79), .v (j 80), .v (j 81), .v (j 82), .v (j 83), .v (j 84), .v (j 85), .v (j 86), .v (j 87), .v (j 88), .v (j 89), .v (j 90), .v (j 91), .v (j 92), .v (j 93), .v (j 94), .v (j 95), .v (j 96), .v (j 97), .v (j 98), .v (j 99), .v (j 100), .v (j 101), .v (j 102), .v (j 103), .v (j 104), .v (j 105), .v (j 106), .v (j 107), .v (j 108), .v (j 109), .v (j 110), .v (j 111), .v (j 112), .v (j 113), .v (j 114), .v (j 115), .v (j 116), .v (j 117), .v (j 118), .v (j 119), .v (j 120), .v (j 121), .v (j 122), .v (j 123), .v (j 124), .v (j 125), .v (j 126), .v (j 127), .v (j 128), .v (j 129), .v (j 130), .v (j 131), .v (j 132), .v (j 133), .v (j 134), .v (j 135), .v (j 136), .v (j 137), .v (j 138), .v (j 139), .v (j 140), .v (j 141), .v (j 142), .v (j 143), .v (j 144), .v (j 145), .v (j 146)], [], none, [.code (cA Pr 4 [1, 1, 1, 1, 1, 0, 1, 0, 0, 1, 0]), .code (cA Pr 4 [1, 1, 1, 1, 1, 0, 1, 0, 0, 1, 1]), .inLoop (cA Pr 4 [1, 1, 1, 1, 1, 0, 1, 0, 0]), .inBlock 0, .code (cA Pr 4 [1, 1, 1, 1, 1, 1])]⟩],
  [.row true [.i .i64 1, .b true, .i .i64 1, .s ByteArray.empty, .s ByteArray.empty, .b true, .i .i64 0, .sl 7 0 0 0, .sl 8 0 0 0, .s ByteArray.empty, .s ByteArray.empty, .i .i64 0, .i .i64 0, .i .i64 0, .s ByteArray.empty, .i .i64 0, .i .i64 0] q.ra 171,
   .row true [.so 0 0 q.na q.na 1, .v (.int .i64 p.c)] [] 169,
   .row true [.b true, .i .i64 1, .i .i64 1] q.rb 233,
   .row true [.so 2 0 q.nb q.nb 1] [] 227,
   .obj (.im .i64 .i64 lI cI),
   .row true [.v (.int .i64 now), .v (.int .i64 p.c), .v (.int .i64 p.t), .mp 4] [] 229,
   .row true [.v (.int .i64 tl), .v (.int .i64 p.a), .v (.int .i64 p.b), .v (.int .i64 p.t), .v (.int .i64 p.r), .v (.int .i64 p.h), .v (.int .i64 p.c), .p 1 0, .p 3 0, .p 5 0] [] 96,
   .row true [] [] 66,
   .row true [] [] 196,
   .obj (.any (.map #[] 0)),
   .obj (.im .i64 .i64 lM cM),
   .row true [.v (.int .i64 p.t), .v (.int .i64 p.c), .i .i64 0, .i .i64 0, .mp 9, .mp 10, .i .i64 (-1)] [] 129,
   .row true [.p 6 0, .p 11 0] [] 38]⟩
noncomputable def tIH00 (p : TP) (q : TQ) (now tl : Int) (lI : List (Int × Int × Nat)) (cI : Nat) (lM : List (Int × Int × Nat)) (cM : Nat) (j : Nat → Value) (jc : Nat → Nat → Value) (i : Int) (bo : Option Addr) (m mcap : Nat) (e : Int) (er : SV) : SS := ⟨[⟨4, slots 147 [.v (j 0), .v (j 1), .v (j 2), .p 12 0, .v (j 4), .v (.int .i64 1), .v (j 6), .v (j 7), .p 14 0, .v (j 9), .v (j 10), .v (j 11), .v (j 12), .v (j 13), .v (j 14), .v (j 15), .v (j 16), .v (j 17), .v (j 18), .v (j 19), .v (j 20), .v (j 21), .v (j 22), .v (j 23), .v (j 24), .v (j 25), .v (j 26), .v (j 27), .v (j 28), .v (j 29), .v (j 30), .v (j 31), .v (j 32), .v (j 33), .v (j 34), .v (j 35), .v (j 36), .v (j 37), .v (j 38), .v (.slice (some p.ad) p.n p.cap), .v (.int .i64 (p.n : Int)), .v (.int .i64 i), .v (j 42), .v (j 43), .v (j 44), .v (j 45), .v (j 46), .v (j 47), .v (j 48), .v (j 49), .v (j 50), .v (j 51), .v (j 52), .v (j 53), .v (j 54), .v (.slice bo m mcap), .v (.int .i64 (m : Int)), .v (.int .i64 e), .v (.bool (decide (e < (m : Int)))), .v (j 59), .v (j 60), .v (j 61), .v (j 62), .v (j 63), .v (j 64), .v (j 65), .v (j 66), .v (j 67), .v (j 68), .v (j 69), .v (j 70), .v (j 71), .v (j 72), .v (j 73), .v (j 74), .v (j 75), .v (j 76), .v (j 77), .v (j 78), .v (j 79), .v (j 80), .v (j 81), .v (j 82), .v (j 83), .v (j 84), .v (j 85), .v (j 86), .v (j 87), .v (j 88), .v (j 89), .v (j 90), .v (j 91), .v (j 92), .v (j 93), .v (j 94), .v (j 95), .v (j 96), .v (j 97), .v (j 98), .v (j 99), .v (j 100), .v (j 101), .v (j 102), .v (j 103), .v (j 104), .v (j 105), .v (j 106), .v (j 107), .v (j 108), .v (j 109), .v (j 110), .v (j 111), .v (j 112), .v (j 113), .v (j 114), .v (j 115), .v (j 116), .v (j 117), .v (j 118), .v (j 119), .v (j 120), .v (j 121), .v (j 122), .v (j 123), .v (j 124), .v (j 125), .v (j 126), .v (j 127), .v (j 128), .v (j 129), .v (j 130), .v (j 131), .v (j 132), .v (j 133), .v (j 134), .v (j 135), .v (j 136), .v (j 137), .v (j 138), .v (j 139), .v (j 140), .v (j 141), .v (j 142), .v (j 143), .v (j 144), .v (j 145), .v (j 146)], [], none, [.code (cA Pr 4 [1, 1, 1, 1, 1, 0, 1, 0, 0, 1, 1, 0, 0, 1, 1, 1, 1, 1, 0, 0, 1, 0]), .code (cA Pr 4 [1, 1, 1, 1, 1, 0, 1, 0, 0, 1, 1, 0, 0, 1, 1, 1, 1, 1, 0, 0, 1, 1]), .inLoop (cA Pr 4 [1, 1, 1, 1, 1, 0, 1, 0, 0, 1, 1, 0, 0, 1, 1, 1, 1, 1, 0, 0]), .inBlock 4, .inBlock 1, .code (cA Pr 4 [1, 1, 1, 1, 1, 0, 1, 0, 0, 1, 1, 1]), .inLoop (cA Pr 4 [1, 1, 1, 1, 1, 0, 1, 0, 0]), .inBlock 0, .code (cA Pr 4 [1, 1, 1, 1, 1, 1])]⟩],
  [.row true [.i .i64 1, .b true, .i .i64 1, .s ByteArray.empty, .s ByteArray.empty, .b true, .i .i64 0, .sl 7 0 0 0, .sl 8 0 0 0, .s ByteArray.empty, .s ByteArray.empty, .i .i64 0, .i .i64 0, .i .i64 0, .s ByteArray.empty, .i .i64 0, .i .i64 0] q.ra 171,
   .row true [.so 0 0 q.na q.na 1, .v (.int .i64 p.c)] [] 169,
   .row true [.b true, .i .i64 1, .i .i64 1] q.rb 233,
   .row true [.so 2 0 q.nb q.nb 1] [] 227,
   .obj (.im .i64 .i64 lI cI),
   .row true [.v (.int .i64 now), .v (.int .i64 p.c), .v (.int .i64 p.t), .mp 4] [] 229,
   .row true [.v (.int .i64 tl), .v (.int .i64 p.a), .v (.int .i64 p.b), .v (.int .i64 p.t), .v (.int .i64 p.r), .v (.int .i64 p.h), .v (.int .i64 p.c), .p 1 0, .p 3 0, .p 5 0] [] 96,
   .row true [] [] 66,
   .row true [] [] 196,
   .obj (.any (.map #[] 0)),
   .obj (.im .i64 .i64 lM cM),
   .row true [.v (.int .i64 p.t), .v (.int .i64 p.c), .i .i64 0, .i .i64 0, .mp 9, .mp 10, .i .i64 (-1)] [] 129,
   .row true [.p 6 0, .p 11 0] [] 38,
   .row true [.v (.int .i64 i), .nsl, .v (jc 13 2), .v (jc 13 3), .v (jc 13 4), .v (jc 13 5), .v (jc 13 6), .v (jc 13 7), .v (jc 13 8), .v (jc 13 9), .v (jc 13 10), .nf, .b false, .i .i64 0, .i .i64 0, .i .i64 0, .s ByteArray.empty, .s ByteArray.empty, .b false, .i .i64 0, .nsl, .b false, .i .i64 0, .i .i64 0, .s ByteArray.empty, .i .i64 0, .i .i64 0, .nsl, .i .i64 0, .i .i64 0] [] 153,
   .row true [.v (.int .i64 i), .p 13 0, .nf, .b true, .b true, .i .i64 0, .nsl, .nsl, .nsl, .b true, .s ByteArray.empty, .b false, .nsl, .i .i64 0, er, .nsl] [] 74]⟩
noncomputable def tIH01 (p : TP) (q : TQ) (now tl : Int) (lI : List (Int × Int × Nat)) (cI : Nat) (lM : List (Int × Int × Nat)) (cM : Nat) (j : Nat → Value) (jc : Nat → Nat → Value) (i : Int) (bo : Option Addr) (m mcap : Nat) (e : Int) (sl sc : Nat) (sr : List Value) (er : SV) : SS := ⟨[⟨4, slots 147 [.v (j 0), .v (j 1), .v (j 2), .p 12 0, .v (j 4), .v (.int .i64 1), .v (j 6), .v (j 7), .p 14 0, .v (j 9), .v (j 10), .v (j 11), .v (j 12), .v (j 13), .v (j 14), .v (j 15), .v (j 16), .v (j 17), .v (j 18), .v (j 19), .v (j 20), .v (j 21), .v (j 22), .v (j 23), .v (j 24), .v (j 25), .v (j 26), .v (j 27), .v (j 28), .v (j 29), .v (j 30), .v (j 31), .v (j 32), .v (j 33), .v (j 34), .v (j 35), .v (j 36), .v (j 37), .v (j 38), .v (.slice (some p.ad) p.n p.cap), .v (.int .i64 (p.n : Int)), .v (.int .i64 i), .v (j 42), .v (j 43), .v (j 44), .v (j 45), .v (j 46), .v (j 47), .v (j 48), .v (j 49), .v (j 50), .v (j 51), .v (j 52), .v (j 53), .v (j 54), .v (.slice bo m mcap), .v (.int .i64 (m : Int)), .v (.int .i64 e), .v (.bool (decide (e < (m : Int)))), .v (j 59), .v (j 60), .v (j 61), .v (j 62), .v (j 63), .v (j 64), .v (j 65), .v (j 66), .v (j 67), .v (j 68), .v (j 69), .v (j 70), .v (j 71), .v (j 72), .v (j 73), .v (j 74), .v (j 75), .v (j 76), .v (j 77), .v (j 78), .v (j 79), .v (j 80), .v (j 81), .v (j 82), .v (j 83), .v (j 84), .v (j 85), .v (j 86), .v (j 87), .v (j 88), .v (j 89), .v (j 90), .v (j 91), .v (j 92), .v (j 93), .v (j 94), .v (j 95), .v (j 96), .v (j 97), .v (j 98), .v (j 99), .v (j 100), .v (j 101), .v (j 102), .v (j 103), .v (j 104), .v (j 105), .v (j 106), .v (j 107), .v (j 108), .v (j 109), .v (j 110), .v (j 111), .v (j 112), .v (j 113), .v (j 114), .v (j 115), .v (j 116), .v (j 117), .v (j 118), .v (j 119), .v (j 120), .v (j 121), .v (j 122), .v (j 123), .v (j 124), .v (j 125), .v (j 126), .v (j 127), .v (j 128), .v (j 129), .v (j 130), .v (j 131), .v (j 132), .v (j 133), .v (j 134), .v (j 135), .v (j 136), .v (j 137), .v (j 138), .v (j 139), .v (j 140), .v (j 141), .v (j 142), .v (j 143), .v (j 144), .v (j 145), .v (j 146)], [], none, [.code (cA Pr 4 [1, 1, 1, 1, 1, 0, 1, 0, 0, 1, 1, 0, 0, 1, 1, 1, 1, 1, 0, 0, 1, 0]), .code (cA Pr 4 [1, 1, 1, 1, 1, 0, 1, 0, 0, 1, 1, 0, 0, 1, 1, 1, 1, 1, 0, 0, 1, 1]), .inLoop (cA Pr 4 [1, 1, 1, 1, 1, 0, 1, 0, 0, 1, 1, 0, 0, 1, 1, 1, 1, 1, 0, 0]), .inBlock 4, .inBlock 1, .code (cA Pr 4 [1, 1, 1, 1, 1, 0, 1, 0, 0, 1, 1, 1]), .inLoop (cA Pr 4 [1, 1, 1, 1, 1, 0, 1, 0, 0]), .inBlock 0, .code (cA Pr 4 [1, 1, 1, 1, 1, 1])]⟩],
  [.row true [.i .i64 1, .b true, .i .i64 1, .s ByteArray.empty, .s ByteArray.empty, .b true, .i .i64 0, .sl 7 0 0 0, .sl 8 0 0 0, .s ByteArray.empty, .s ByteArray.empty, .i .i64 0, .i .i64 0, .i .i64 0, .s ByteArray.empty, .i .i64 0, .i .i64 0] q.ra 171,
   .row true [.so 0 0 q.na q.na 1, .v (.int .i64 p.c)] [] 169,
   .row true [.b true, .i .i64 1, .i .i64 1] q.rb 233,
   .row true [.so 2 0 q.nb q.nb 1] [] 227,
   .obj (.im .i64 .i64 lI cI),
   .row true [.v (.int .i64 now), .v (.int .i64 p.c), .v (.int .i64 p.t), .mp 4] [] 229,
   .row true [.v (.int .i64 tl), .v (.int .i64 p.a), .v (.int .i64 p.b), .v (.int .i64 p.t), .v (.int .i64 p.r), .v (.int .i64 p.h), .v (.int .i64 p.c), .p 1 0, .p 3 0, .p 5 0] [] 96,
   .row true [] [] 66,
   .row true [] [] 196,
   .obj (.any (.map #[] 0)),
   .obj (.im .i64 .i64 lM cM),
   .row true [.v (.int .i64 p.t), .v (.int .i64 p.c), .i .i64 0, .i .i64 0, .mp 9, .mp 10, .i .i64 (-1)] [] 129,
   .row true [.p 6 0, .p 11 0] [] 38,
   .row true [.v (.int .i64 i), .nsl, .v (jc 13 2), .v (jc 13 3), .v (jc 13 4), .v (jc 13 5), .v (jc 13 6), .v (jc 13 7), .v (jc 13 8), .v (jc 13 9), .v (jc 13 10), .nf, .b false, .i .i64 0, .i .i64 0, .i .i64 0, .s ByteArray.empty, .s ByteArray.empty, .b false, .i .i64 0, .nsl, .b false, .i .i64 0, .i .i64 0, .s ByteArray.empty, .i .i64 0, .i .i64 0, .nsl, .i .i64 0, .i .i64 0] [] 153,
   .row true [.v (.int .i64 i), .p 13 0, .nf, .b true, .b true, .i .i64 0, .nsl, .nsl, .so 15 0 sl sc 0, .b true, .s ByteArray.empty, .b false, .nsl, .i .i64 0, er, .nsl] [] 74,
   .row true [] sr 46]⟩
noncomputable def tIH10 (p : TP) (q : TQ) (now tl : Int) (lI : List (Int × Int × Nat)) (cI : Nat) (lM : List (Int × Int × Nat)) (cM : Nat) (j : Nat → Value) (jc : Nat → Nat → Value) (i : Int) (bo : Option Addr) (m mcap : Nat) (e : Int) (kl kc : Nat) (kr : List Value) (er : SV) : SS := ⟨[⟨4, slots 147 [.v (j 0), .v (j 1), .v (j 2), .p 12 0, .v (j 4), .v (.int .i64 1), .v (j 6), .v (j 7), .p 14 0, .v (j 9), .v (j 10), .v (j 11), .v (j 12), .v (j 13), .v (j 14), .v (j 15), .v (j 16), .v (j 17), .v (j 18), .v (j 19), .v (j 20), .v (j 21), .v (j 22), .v (j 23), .v (j 24), .v (j 25), .v (j 26), .v (j 27), .v (j 28), .v (j 29), .v (j 30), .v (j 31), .v (j 32), .v (j 33), .v (j 34), .v (j 35), .v (j 36), .v (j 37), .v (j 38), .v (.slice (some p.ad) p.n p.cap), .v (.int .i64 (p.n : Int)), .v (.int .i64 i), .v (j 42), .v (j 43), .v (j 44), .v (j 45), .v (j 46), .v (j 47), .v (j 48), .v (j 49), .v (j 50), .v (j 51), .v (j 52), .v (j 53), .v (j 54), .v (.slice bo m mcap), .v (.int .i64 (m : Int)), .v (.int .i64 e), .v (.bool (decide (e < (m : Int)))), .v (j 59), .v (j 60), .v (j 61), .v (j 62), .v (j 63), .v (j 64), .v (j 65), .v (j 66), .v (j 67), .v (j 68), .v (j 69), .v (j 70), .v (j 71), .v (j 72), .v (j 73), .v (j 74), .v (j 75), .v (j 76), .v (j 77), .v (j 78), .v (j 79), .v (j 80), .v (j 81), .v (j 82), .v (j 83), .v (j 84), .v (j 85), .v (j 86), .v (j 87), .v (j 88), .v (j 89), .v (j 90), .v (j 91), .v (j 92), .v (j 93), .v (j 94), .v (j 95), .v (j 96), .v (j 97), .v (j 98), .v (j 99), .v (j 100), .v (j 101), .v (j 102), .v (j 103), .v (j 104), .v (j 105), .v (j 106), .v (j 107), .v (j 108), .v (j 109), .v (j 110), .v (j 111), .v (j 112), .v (j 113), .v (j 114), .v (j 115), .v (j 116), .v (j 117), .v (j 118), .v (j 119), .v (j 120), .v (j 121), .v (j 122), .v (j 123), .v (j 124), .v (j 125), .v (j 126), .v (j 127), .v (j 128), .v (j 129), .v (j 130), .v (j 131), .v (j 132), .v (j 133), .v (j 134), .v (j 135), .v (j 136), .v (j 137), .v (j 138), .v (j 139), .v (j 140), .v (j 141), .v (j 142), .v (j 143), .v (j 144), .v (j 145), .v (j 146)], [], none, [.code (cA Pr 4 [1, 1, 1, 1, 1, 0, 1, 0, 0, 1, 1, 0, 0, 1, 1, 1, 1, 1, 0, 0, 1, 0]), .code (cA Pr 4 [1, 1, 1, 1, 1, 0, 1, 0, 0, 1, 1, 0, 0, 1, 1, 1, 1, 1, 0, 0, 1, 1]), .inLoop (cA Pr 4 [1, 1, 1, 1, 1, 0, 1, 0, 0, 1, 1, 0, 0, 1, 1, 1, 1, 1, 0, 0]), .inBlock 4, .inBlock 1, .code (cA Pr 4 [1, 1, 1, 1, 1, 0, 1, 0, 0, 1, 1, 1]), .inLoop (cA Pr 4 [1, 1, 1, 1, 1, 0, 1, 0, 0]), .inBlock 0, .code (cA Pr 4 [1, 1, 1, 1, 1, 1])]⟩],
  [.row true [.i .i64 1, .b true, .i .i64 1, .s ByteArray.empty, .s ByteArray.empty, .b true, .i .i64 0, .sl 7 0 0 0, .sl 8 0 0 0, .s ByteArray.empty, .s ByteArray.empty, .i .i64 0, .i .i64 0, .i .i64 0, .s ByteArray.empty, .i .i64 0, .i .i64 0] q.ra 171,
   .row true [.so 0 0 q.na q.na 1, .v (.int .i64 p.c)] [] 169,
   .row true [.b true, .i .i64 1, .i .i64 1] q.rb 233,
   .row true [.so 2 0 q.nb q.nb 1] [] 227,
   .obj (.im .i64 .i64 lI cI),
   .row true [.v (.int .i64 now), .v (.int .i64 p.c), .v (.int .i64 p.t), .mp 4] [] 229,
   .row true [.v (.int .i64 tl), .v (.int .i64 p.a), .v (.int .i64 p.b), .v (.int .i64 p.t), .v (.int .i64 p.r), .v (.int .i64 p.h), .v (.int .i64 p.c), .p 1 0, .p 3 0, .p 5 0] [] 96,
   .row true [] [] 66,
   .row true [] [] 196,
   .obj (.any (.map #[] 0)),
   .obj (.im .i64 .i64 lM cM),
   .row true [.v (.int .i64 p.t), .v (.int .i64 p.c), .i .i64 0, .i .i64 0, .mp 9, .mp 10, .i .i64 (-1)] [] 129,
   .row true [.p 6 0, .p 11 0] [] 38,
   .row true [.v (.int .i64 i), .nsl, .v (jc 13 2), .v (jc 13 3), .v (jc 13 4), .v (jc 13 5), .v (jc 13 6), .v (jc 13 7), .v (jc 13 8), .v (jc 13 9), .v (jc 13 10), .nf, .b false, .i .i64 0, .i .i64 0, .i .i64 0, .s ByteArray.empty, .s ByteArray.empty, .b false, .i .i64 0, .nsl, .b false, .i .i64 0, .i .i64 0, .s ByteArray.empty, .i .i64 0, .i .i64 0, .nsl, .i .i64 0, .i .i64 0] [] 153,
   .row true [.v (.int .i64 i), .p 13 0, .nf, .b true, .b true, .i .i64 0, .nsl, .so 15 0 kl kc 0, .nsl, .b true, .s ByteArray.empty, .b false, .nsl, .i .i64 0, er, .nsl] [] 74,
   .row true [] kr 9]⟩
noncomputable def tIH11 (p : TP) (q : TQ) (now tl : Int) (lI : List (Int × Int × Nat)) (cI : Nat) (lM : List (Int × Int × Nat)) (cM : Nat) (j : Nat → Value) (jc : Nat → Nat → Value) (i : Int) (bo : Option Addr) (m mcap : Nat) (e : Int) (kl kc : Nat) (kr : List Value) (sl sc : Nat) (sr : List Value) (er : SV) : SS := ⟨[⟨4, slots 147 [.v (j 0), .v (j 1), .v (j 2), .p 12 0, .v (j 4), .v (.int .i64 1), .v (j 6), .v (j 7), .p 14 0, .v (j 9), .v (j 10), .v (j 11), .v (j 12), .v (j 13), .v (j 14), .v (j 15), .v (j 16), .v (j 17), .v (j 18), .v (j 19), .v (j 20), .v (j 21), .v (j 22), .v (j 23), .v (j 24), .v (j 25), .v (j 26), .v (j 27), .v (j 28), .v (j 29), .v (j 30), .v (j 31), .v (j 32), .v (j 33), .v (j 34), .v (j 35), .v (j 36), .v (j 37), .v (j 38), .v (.slice (some p.ad) p.n p.cap), .v (.int .i64 (p.n : Int)), .v (.int .i64 i), .v (j 42), .v (j 43), .v (j 44), .v (j 45), .v (j 46), .v (j 47), .v (j 48), .v (j 49), .v (j 50), .v (j 51), .v (j 52), .v (j 53), .v (j 54), .v (.slice bo m mcap), .v (.int .i64 (m : Int)), .v (.int .i64 e), .v (.bool (decide (e < (m : Int)))), .v (j 59), .v (j 60), .v (j 61), .v (j 62), .v (j 63), .v (j 64), .v (j 65), .v (j 66), .v (j 67), .v (j 68), .v (j 69), .v (j 70), .v (j 71), .v (j 72), .v (j 73), .v (j 74), .v (j 75), .v (j 76), .v (j 77), .v (j 78), .v (j 79), .v (j 80), .v (j 81), .v (j 82), .v (j 83), .v (j 84), .v (j 85), .v (j 86), .v (j 87), .v (j 88), .v (j 89), .v (j 90), .v (j 91), .v (j 92), .v (j 93), .v (j 94), .v (j 95), .v (j 96), .v (j 97), .v (j 98), .v (j 99), .v (j 100), .v (j 101), .v (j 102), .v (j 103), .v (j 104), .v (j 105), .v (j 106), .v (j 107), .v (j 108), .v (j 109), .v (j 110), .v (j 111), .v (j 112), .v (j 113), .v (j 114), .v (j 115), .v (j 116), .v (j 117), .v (j 118), .v (j 119), .v (j 120), .v (j 121), .v (j 122), .v (j 123), .v (j 124), .v (j 125), .v (j 126), .v (j 127), .v (j 128), .v (j 129), .v (j 130), .v (j 131), .v (j 132), .v (j 133), .v (j 134), .v (j 135), .v (j 136), .v (j 137), .v (j 138), .v (j 139), .v (j 140), .v (j 141), .v (j 142), .v (j 143), .v (j 144), .v (j 145), .v (j 146)], [], none, [.code (cA Pr 4 [1, 1, 1, 1, 1, 0, 1, 0, 0, 1, 1, 0, 0, 1, 1, 1, 1, 1, 0, 0, 1, 0]), .code (cA Pr 4 [1, 1, 1, 1, 1, 0, 1, 0, 0, 1, 1, 0, 0, 1, 1, 1, 1, 1, 0, 0, 1, 1]), .inLoop (cA Pr 4 [1, 1, 1, 1, 1, 0, 1, 0, 0, 1, 1, 0, 0, 1, 1, 1, 1, 1, 0, 0]), .inBlock 4, .inBlock 1, .code (cA Pr 4 [1, 1, 1, 1, 1, 0, 1, 0, 0, 1, 1, 1]), .inLoop (cA Pr 4 [1, 1, 1, 1, 1, 0, 1, 0, 0]), .inBlock 0, .code (cA Pr 4 [1, 1, 1, 1, 1, 1])]⟩],
  [.row true [.i .i64 1, .b true, .i .i64 1, .s ByteArray.empty, .s ByteArray.empty, .b true, .i .i64 0, .sl 7 0 0 0, .sl 8 0 0 0, .s ByteArray.empty, .s ByteArray.empty, .i .i64 0, .i .i64 0, .i .i64 0, .s ByteArray.empty, .i .i64 0, .i .i64 0] q.ra 171,
   .row true [.so 0 0 q.na q.na 1, .v (.int .i64 p.c)] [] 169,
   .row true [.b true, .i .i64 1, .i .i64 1] q.rb 233,
   .row true [.so 2 0 q.nb q.nb 1] [] 227,
   .obj (.im .i64 .i64 lI cI),
   .row true [.v (.int .i64 now), .v (.int .i64 p.c), .v (.int .i64 p.t), .mp 4] [] 229,
   .row true [.v (.int .i64 tl), .v (.int .i64 p.a), .v (.int .i64 p.b), .v (.int .i64 p.t), .v (.int .i64 p.r), .v (.int .i64 p.h), .v (.int .i64 p.c), .p 1 0, .p 3 0, .p 5 0] [] 96,
   .row true [] [] 66,
   .row true [] [] 196,
   .obj (.any (.map #[] 0)),
   .obj (.im .i64 .i64 lM cM),
   .row true [.v (.int .i64 p.t), .v (.int .i64 p.c), .i .i64 0, .i .i64 0, .mp 9, .mp 10, .i .i64 (-1)] [] 129,
   .row true [.p 6 0, .p 11 0] [] 38,
   .row true [.v (.int .i64 i), .nsl, .v (jc 13 2), .v (jc 13 3), .v (jc 13 4), .v (jc 13 5), .v (jc 13 6), .v (jc 13 7), .v (jc 13 8), .v (jc 13 9), .v (jc 13 10), .nf, .b false, .i .i64 0, .i .i64 0, .i .i64 0, .s ByteArray.empty, .s ByteArray.empty, .b false, .i .i64 0, .nsl, .b false, .i .i64 0, .i .i64 0, .s ByteArray.empty, .i .i64 0, .i .i64 0, .nsl, .i .i64 0, .i .i64 0] [] 153,
   .row true [.v (.int .i64 i), .p 13 0, .nf, .b true, .b true, .i .i64 0, .nsl, .so 15 0 kl kc 0, .so 16 0 sl sc 0, .b true, .s ByteArray.empty, .b false, .nsl, .i .i64 0, er, .nsl] [] 74,
   .row true [] kr 9,
   .row true [] sr 46]⟩
end Go.Rl.Z
