/-
  rowlocktop.head: it comes to true, and changes nothing that was there.
-/
import Derived.Test.YtghmpcnchjjikaaGreatRlZri
import Derived.Test.YtghmpcnchjjikaaGreatRlSt
set_option linter.all false
set_option linter.unusedVariables false
set_option linter.unusedSimpArgs false
set_option linter.unnecessarySimpa false
open Go Go.Rl
namespace Go.Rl.Z
set_option maxRecDepth 100000
noncomputable def hdS0 : SS := sOf Pr 17 [] []
theorem hd0 : entersB Pr 17 [] = true := by kernel_rfl
def hdC0 : List Cmd := [.seg [true, true, false, true, true], .app false, .seg [], .app false, .seg [], .app false, .seg [true, true], .app false, .segn 157 []]
noncomputable def hdS1 (o0 o1 o2 o3 : Orc) : SS := ⟨[⟨26, slots 6 [.sl 38 0 0 0, .tp [], .nsl], [], none, [.inRegion (oA Pr 26 [0]) [], .code (cA Pr 26 [1])]⟩,
  ⟨65, slots 87 [.sl 43 0 1 o0.n, .tp [], .p 60 0, .ni, .tp [], .p 61 0, .i .i64 0, .p 62 0, .p 63 0, .tp [], .tp [], .sl 43 0 1 o0.n, .i .i64 1, .i .i64 1, .b false, .p 43 0, .ag [.i .i64 1, .s ByteArray.empty, .s ByteArray.empty, .b true, .i .i64 0, .sl 38 0 0 0, .sl 39 0 0 0, .s ByteArray.empty, .s ByteArray.empty, .i .i64 0, .i .i64 0, .i .i64 0, .s ByteArray.empty, .i .i64 0, .i .i64 0], .p 61 0, .i .i64 1, .b false, .b false, .p 61 0, .i .i64 1, .b false, .b false, .tp [], .tp [], .i .i64 1, .sl 43 0 1 o0.n, .i .i64 1, .i .i64 0, .i .i64 0, .b false, .b false, .sl 43 0 1 o0.n, .i .i64 0, .p 43 0, .p 43 0, .i .i64 1, .b false, .b false, .tp [], .tp [], .sl 43 0 1 o0.n, .i .i64 0, .p 43 0, .ag [.i .i64 1, .s ByteArray.empty, .s ByteArray.empty, .b true, .i .i64 0, .sl 38 0 0 0, .sl 39 0 0 0, .s ByteArray.empty, .s ByteArray.empty, .i .i64 0, .i .i64 0, .i .i64 0, .s ByteArray.empty, .i .i64 0, .i .i64 0], .p 62 1, .s ByteArray.empty, .p 62 2, .s ByteArray.empty, .p 62 3, .b true, .p 62 4, .i .i64 0, .p 62 5, .sl 38 0 0 0], [], some ⟨oA Pr 65 [1, 1, 1, 1, 1, 0], [10, 11, 13], [7, 6, 5, 4, 3, 2, 1, 0], [(12, 63)]⟩, [.code (cA Pr 65 [1, 1, 1, 1, 1, 1])]⟩,
  ⟨106, slots 66 [.i .i64 0, .ag [.i .i64 1, .i .i64 1], .sl 43 0 1 o0.n, .sl 44 0 1 o1.n, .tp [], .p 48 0, .tp [], .tp [], .p 49 0, .ni, .p 51 0, .tp [], .p 53 0, .ni, .i .i64 1, .i .i64 0, .ag [.i .i64 1, .i .i64 1], .sl 50 0 0 0, .sl 44 0 1 o1.n, .sl 52 0 1 o2.n, .ag [.i .i64 0, .i .i64 1, .i .i64 1, .nsl, .sl 52 0 1 o2.n, .b false, .s ByteArray.empty, .s ByteArray.empty, .b false, .i .i64 0, .nsl, .b false, .s ByteArray.empty, .s ByteArray.empty, .b false, .i .i64 0, .nsl, .b false, .i .i64 0, .i .i64 0, .s ByteArray.empty], .sl 43 0 1 o0.n, .i .i64 1, .i .i64 1, .b false, .p 43 0, .ag [.i .i64 1, .s ByteArray.empty, .s ByteArray.empty, .b true, .i .i64 0, .sl 38 0 0 0, .sl 39 0 0 0, .s ByteArray.empty, .s ByteArray.empty, .i .i64 0, .i .i64 0, .i .i64 0, .s ByteArray.empty, .i .i64 0, .i .i64 0], .p 51 3, .nsl, .ag [.i .i64 1, .s ByteArray.empty, .s ByteArray.empty, .b true, .i .i64 0, .sl 38 0 0 0, .sl 39 0 0 0, .s ByteArray.empty, .s ByteArray.empty, .i .i64 0, .i .i64 0, .i .i64 0, .s ByteArray.empty, .i .i64 0, .i .i64 0], .ag [.i .i64 1, .s ByteArray.empty, .s ByteArray.empty, .b true, .i .i64 0, .sl 56 0 0 0, .sl 57 0 0 0, .s ByteArray.empty, .s ByteArray.empty, .i .i64 0, .i .i64 0, .i .i64 0, .s ByteArray.empty, .i .i64 0, .i .i64 0], .sl 58 0 1 1, .sl 59 0 1 o3.n, .p 51 3, .i .i64 1, .sl 43 0 1 o0.n, .i .i64 1, .i .i64 1, .b true, .b true, .sl 43 0 1 o0.n, .i .i64 1, .i .i64 0, .p 43 0, .p 43 0, .i .i64 1, .b true, .b true, .p 51 5, .tp [], .sl 43 0 1 o0.n], [], none, [.inRegion (oA Pr 106 [1, 1, 1, 1, 0, 1, 1, 0, 1]) [1, 2, 3, 4, 5, 6, 7], .code (cA Pr 106 [1, 1, 1, 1, 1])]⟩,
  ⟨187, slots 22 [.p 45 0, .p 47 0, .ni, .p 24 0, .p 24 0, .p 24 0, .i .i64 0, .p 24 0, .p 24 0, .p 24 3, .ag [.i .i64 1, .i .i64 1], .p 24 0, .p 24 0, .p 24 7, .sl 43 0 1 o0.n, .p 24 0, .p 24 0, .p 24 8, .sl 44 0 1 o1.n], [], some ⟨oA Pr 187 [1, 0], [16, 17, 18, 19, 20], [], []⟩, [.code (cA Pr 187 [1, 1])]⟩,
  ⟨177, slots 34 [.p 24 0, .p 45 0, .p 46 0, .ni, .fn 187 [.p 45 0], .fn 187 [.p 45 0], .b false, .p 24 0, .b false, .tp [], .tp [], .b false, .p 24 0, .p 24 0, .p 24 2, .b true, .b false, .tp [], .tp [], .b false, .p 24 0, .p 24 0, .p 24 9, .ni, .b false, .tp [], .tp [], .tp [], .tp [], .tp [], .fn 187 [.p 45 0]], [], none, [.inRegion (oA Pr 177 [1, 1, 1, 0]) [1, 2, 3, 4, 5], .code (cA Pr 177 [1, 1, 0, 0, 1, 0, 1])]⟩,
  ⟨175, slots 26 [.p 8 0, .p 25 0, .p 23 0, .tp [], .b false, .tp [], .tp [], .p 24 0, .p 8 0, .b true, .b false, .tp [], .p 24 0], [], none, [.inRegion (oA Pr 175 [1, 1, 0]) [1, 2, 3, 4, 5, 6, 7], .code (cA Pr 175 [1, 1, 1])]⟩,
  ⟨45, slots 14 [.p 18 0, .p 8 0, .tp [], .tp [], .b false, .p 18 0, .b true, .b false, .p 18 0, .p 18 0, .p 18 11, .fn 175 [.p 25 0, .p 23 0], .p 8 0], [], none, [.inRegion (oA Pr 45 [1, 1, 0]) [5, 6], .code (cA Pr 45 [1, 0, 1, 0, 1])]⟩,
  ⟨17, slots 43 [.b false, .p 8 0, .ni, .p 18 0, .ni, .tp [], .tp [], .tp [.p 8 0, .ni], .ag [.i .i64 20, .i .i64 4, .i .i64 2, .i .i64 4, .i .i64 4, .i .i64 99], .tp [.p 8 0, .ni], .p 8 0, .ni, .p 18 0, .p 18 0, .ag [.i .i64 2, .s ⟨#[97]⟩, .s ⟨#[49]⟩], .ni, .i .i64 3, .b true, .p 18 0, .p 8 0, .b false, .i .i64 3], [], none, [.inRegion (oA Pr 17 [1, 1, 1, 1, 0, 1, 0, 0, 1, 1, 0, 0]) [2], .inBlock 1, .code (cA Pr 17 [1, 1, 1, 1, 0, 1, 0, 0, 1, 1, 1]), .inLoop (cA Pr 17 [1, 1, 1, 1, 0, 1, 0, 0]), .inBlock 0, .code (cA Pr 17 [1, 1, 1, 1, 1])]⟩],
  [.row true [.i .i64 20, .i .i64 4, .i .i64 2, .i .i64 4, .i .i64 4, .i .i64 99] [] 23,
   .row true [.i .i64 20, .i .i64 4, .i .i64 2, .i .i64 4, .i .i64 4, .i .i64 99] [] 23,
   .row true [.i .i64 1, .b true, .i .i64 1, .s ByteArray.empty, .s ByteArray.empty, .b true, .i .i64 0, .sl 13 0 0 0, .sl 14 0 0 0, .s ByteArray.empty, .s ByteArray.empty, .i .i64 0, .i .i64 0, .i .i64 0, .s ByteArray.empty, .i .i64 0, .i .i64 0, .i .i64 0, .b false, .i .i64 0, .s ByteArray.empty, .s ByteArray.empty, .b false, .i .i64 0, .nsl, .nsl, .s ByteArray.empty, .s ByteArray.empty, .i .i64 0, .i .i64 0, .i .i64 0, .s ByteArray.empty, .i .i64 0, .i .i64 0, .i .i64 0, .b false, .i .i64 0, .s ByteArray.empty, .s ByteArray.empty, .b false, .i .i64 0, .nsl, .nsl, .s ByteArray.empty, .s ByteArray.empty, .i .i64 0, .i .i64 0, .i .i64 0, .s ByteArray.empty, .i .i64 0, .i .i64 0, .i .i64 0, .b false, .i .i64 0, .s ByteArray.empty, .s ByteArray.empty, .b false, .i .i64 0, .nsl, .nsl, .s ByteArray.empty, .s ByteArray.empty, .i .i64 0, .i .i64 0, .i .i64 0, .s ByteArray.empty, .i .i64 0, .i .i64 0, .i .i64 0, .b false, .i .i64 0, .s ByteArray.empty, .s ByteArray.empty, .b false, .i .i64 0, .nsl, .nsl, .s ByteArray.empty, .s ByteArray.empty, .i .i64 0, .i .i64 0, .i .i64 0, .s ByteArray.empty, .i .i64 0, .i .i64 0, .i .i64 0, .b false, .i .i64 0, .s ByteArray.empty, .s ByteArray.empty, .b false, .i .i64 0, .nsl, .nsl, .s ByteArray.empty, .s ByteArray.empty, .i .i64 0, .i .i64 0, .i .i64 0, .s ByteArray.empty, .i .i64 0, .i .i64 0, .i .i64 0, .b false, .i .i64 0, .s ByteArray.empty, .s ByteArray.empty, .b false, .i .i64 0, .nsl, .nsl, .s ByteArray.empty, .s ByteArray.empty, .i .i64 0, .i .i64 0, .i .i64 0, .s ByteArray.empty, .i .i64 0, .i .i64 0, .i .i64 0, .b false, .i .i64 0, .s ByteArray.empty, .s ByteArray.empty, .b false, .i .i64 0, .nsl, .nsl, .s ByteArray.empty, .s ByteArray.empty, .i .i64 0, .i .i64 0, .i .i64 0, .s ByteArray.empty, .i .i64 0, .i .i64 0, .i .i64 0, .b false, .i .i64 0, .s ByteArray.empty, .s ByteArray.empty, .b false, .i .i64 0, .nsl, .nsl, .s ByteArray.empty, .s ByteArray.empty, .i .i64 0, .i .i64 0, .i .i64 0, .s ByteArray.empty, .i .i64 0, .i .i64 0, .i .i64 0, .b false, .i .i64 0, .s ByteArray.empty, .s ByteArray.empty, .b false, .i .i64 0, .nsl, .nsl, .s ByteArray.empty, .s ByteArray.empty, .i .i64 0, .i .i64 0, .i .i64 0, .s ByteArray.empty, .i .i64 0, .i .i64 0, .i .i64 0, .b false, .i .i64 0, .s ByteArray.empty, .s ByteArray.empty, .b false, .i .i64 0, .nsl, .nsl, .s ByteArray.empty, .s ByteArray.empty, .i .i64 0, .i .i64 0, .i .i64 0, .s ByteArray.empty, .i .i64 0, .i .i64 0, .i .i64 0, .b false, .i .i64 0, .s ByteArray.empty, .s ByteArray.empty, .b false, .i .i64 0, .nsl, .nsl, .s ByteArray.empty, .s ByteArray.empty, .i .i64 0, .i .i64 0, .i .i64 0, .s ByteArray.empty, .i .i64 0, .i .i64 0, .i .i64 0, .b false, .i .i64 0, .s ByteArray.empty, .s ByteArray.empty, .b false, .i .i64 0, .nsl, .nsl, .s ByteArray.empty, .s ByteArray.empty, .i .i64 0, .i .i64 0, .i .i64 0, .s ByteArray.empty, .i .i64 0, .i .i64 0, .i .i64 0, .b false, .i .i64 0, .s ByteArray.empty, .s ByteArray.empty, .b false, .i .i64 0, .nsl, .nsl, .s ByteArray.empty, .s ByteArray.empty, .i .i64 0, .i .i64 0, .i .i64 0, .s ByteArray.empty, .i .i64 0, .i .i64 0, .i .i64 0, .b false, .i .i64 0, .s ByteArray.empty, .s ByteArray.empty, .b false, .i .i64 0, .nsl, .nsl, .s ByteArray.empty, .s ByteArray.empty, .i .i64 0, .i .i64 0, .i .i64 0, .s ByteArray.empty, .i .i64 0, .i .i64 0, .i .i64 0, .b false, .i .i64 0, .s ByteArray.empty, .s ByteArray.empty, .b false, .i .i64 0, .nsl, .nsl, .s ByteArray.empty, .s ByteArray.empty, .i .i64 0, .i .i64 0, .i .i64 0, .s ByteArray.empty, .i .i64 0, .i .i64 0, .i .i64 0, .b false, .i .i64 0, .s ByteArray.empty, .s ByteArray.empty, .b false, .i .i64 0, .nsl, .nsl, .s ByteArray.empty, .s ByteArray.empty, .i .i64 0, .i .i64 0, .i .i64 0, .s ByteArray.empty, .i .i64 0, .i .i64 0, .i .i64 0, .b false, .i .i64 0, .s ByteArray.empty, .s ByteArray.empty, .b false, .i .i64 0, .nsl, .nsl, .s ByteArray.empty, .s ByteArray.empty, .i .i64 0, .i .i64 0, .i .i64 0, .s ByteArray.empty, .i .i64 0, .i .i64 0, .i .i64 0, .b false, .i .i64 0, .s ByteArray.empty, .s ByteArray.empty, .b false, .i .i64 0, .nsl, .nsl, .s ByteArray.empty, .s ByteArray.empty, .i .i64 0, .i .i64 0, .i .i64 0, .s ByteArray.empty, .i .i64 0, .i .i64 0, .i .i64 0, .b false, .i .i64 0, .s ByteArray.empty, .s ByteArray.empty, .b false, .i .i64 0, .nsl, .nsl, .s ByteArray.empty, .s ByteArray.empty, .i .i64 0, .i .i64 0, .i .i64 0, .s ByteArray.empty, .i .i64 0, .i .i64 0] [] 171,
   .row true [.sl 2 0 20 20, .i .i64 99] [] 169,
   .row true [.b true, .i .i64 1, .i .i64 1, .b false, .i .i64 0, .i .i64 0, .b false, .i .i64 0, .i .i64 0, .b false, .i .i64 0, .i .i64 0] [] 233,
   .row true [.sl 4 0 4 4] [] 227,
   .obj (.im .i64 .i64 [(0, 2, 0)] 1),
   .row true [.i .i64 2, .i .i64 99, .i .i64 2, .mp 6] [] 229,
   .row true [.i .i64 4, .i .i64 20, .i .i64 4, .i .i64 2, .i .i64 4, .i .i64 4, .i .i64 99, .p 3 0, .p 5 0, .p 7 0] [] 96,
   .row true [.i .i64 1, .s ByteArray.empty, .s ByteArray.empty, .b true, .i .i64 0, .nsl, .nsl, .s ByteArray.empty, .s ByteArray.empty, .i .i64 0, .i .i64 0, .i .i64 0, .s ByteArray.empty, .i .i64 0, .i .i64 0] [] 160,
   .row true [.i .i64 1, .i .i64 1] [] 142,
   .row true [.i .i64 1, .s ByteArray.empty, .s ByteArray.empty, .b true, .i .i64 0, .sl 13 0 0 0, .sl 14 0 0 0, .s ByteArray.empty, .s ByteArray.empty, .i .i64 0, .i .i64 0, .i .i64 0, .s ByteArray.empty, .i .i64 0, .i .i64 0] [] 160,
   .row true [.i .i64 1, .s ByteArray.empty, .s ByteArray.empty, .b true, .i .i64 0, .sl 13 0 0 0, .sl 14 0 0 0, .s ByteArray.empty, .s ByteArray.empty, .i .i64 0, .i .i64 0, .i .i64 0, .s ByteArray.empty, .i .i64 0, .i .i64 0] [] 160,
   .row true [] [] 66,
   .row true [] [] 196,
   .row true [.i .i64 1, .i .i64 1] [] 142,
   .row true [.i .i64 0, .i .i64 0] [] 142,
   .row true [.i .i64 1, .i .i64 1] [] 142,
   .row true [.i .i64 0, .nsl, .b true, .i .i64 2, .s ⟨#[97]⟩, .s ⟨#[49]⟩, .b true, .s ByteArray.empty, .ni, .np, .np, .fn 175 [.p 25 0, .p 23 0], .b false, .i .i64 0, .i .i64 0, .i .i64 0, .s ByteArray.empty, .s ByteArray.empty, .b false, .i .i64 0, .nsl, .b false, .i .i64 0, .i .i64 0, .s ByteArray.empty, .i .i64 0, .i .i64 0, .nsl, .i .i64 0, .i .i64 0] [] 153,
   .row true [.i .i64 2, .s ⟨#[97]⟩, .s ⟨#[49]⟩] [] 88,
   .row true [.i .i64 2, .s ⟨#[97]⟩, .s ⟨#[49]⟩] [] 88,
   .row true [.p 18 0] [] 68,
   .row true [.i .i64 2] [] 3,
   .row true [.p 18 0] [] 68,
   .row true [.i .i64 0, .b true, .b true, .i .i64 1, .i .i64 1, .i .i64 0, .i .i64 0, .sl 43 0 1 o0.n, .sl 44 0 1 o1.n, .ni] [] 280,
   .row true [.p 24 0] [] 272,
   .row true [.i .i64 1, .i .i64 1] [] 142,
   .row true [.i .i64 1, .i .i64 1] [] 142,
   .row true [.i .i64 1, .i .i64 1] [] 142,
   .row true [.i .i64 1, .i .i64 1] [] 142,
   .row true [.i .i64 1, .i .i64 1] [] 142,
   .row true [.i .i64 1, .s ByteArray.empty, .s ByteArray.empty, .b true, .i .i64 0, .sl 38 0 0 0, .sl 39 0 0 0, .s ByteArray.empty, .s ByteArray.empty, .i .i64 0, .i .i64 0, .i .i64 0, .s ByteArray.empty, .i .i64 0, .i .i64 0] [] 160,
   .row true [.i .i64 1, .s ByteArray.empty, .s ByteArray.empty, .b true, .i .i64 0, .sl 38 0 0 0, .sl 39 0 0 0, .s ByteArray.empty, .s ByteArray.empty, .i .i64 0, .i .i64 0, .i .i64 0, .s ByteArray.empty, .i .i64 0, .i .i64 0] [] 160,
   .row true [.i .i64 1, .i .i64 1] [] 142,
   .row true [.i .i64 1, .s ByteArray.empty, .s ByteArray.empty, .b true, .i .i64 0, .sl 38 0 0 0, .sl 39 0 0 0, .s ByteArray.empty, .s ByteArray.empty, .i .i64 0, .i .i64 0, .i .i64 0, .s ByteArray.empty, .i .i64 0, .i .i64 0] [] 160,
   .row true [.i .i64 1, .i .i64 1] [] 142,
   .row true [.i .i64 1, .s ByteArray.empty, .s ByteArray.empty, .b true, .i .i64 0, .sl 38 0 0 0, .sl 39 0 0 0, .s ByteArray.empty, .s ByteArray.empty, .i .i64 0, .i .i64 0, .i .i64 0, .s ByteArray.empty, .i .i64 0, .i .i64 0] [] 160,
   .row true [.i .i64 1, .s ByteArray.empty, .s ByteArray.empty, .b true, .i .i64 0, .sl 38 0 0 0, .sl 39 0 0 0, .s ByteArray.empty, .s ByteArray.empty, .i .i64 0, .i .i64 0, .i .i64 0, .s ByteArray.empty, .i .i64 0, .i .i64 0] [] 160,
   .row true [] [] 66,
   .row true [] [] 196,
   .row true [.i .i64 1, .s ByteArray.empty, .s ByteArray.empty, .b true, .i .i64 0, .sl 38 0 0 0, .sl 39 0 0 0, .s ByteArray.empty, .s ByteArray.empty, .i .i64 0, .i .i64 0, .i .i64 0, .s ByteArray.empty, .i .i64 0, .i .i64 0] [] 160,
   .row true [.i .i64 1, .s ByteArray.empty, .s ByteArray.empty, .b true, .i .i64 0, .sl 38 0 0 0, .sl 39 0 0 0, .s ByteArray.empty, .s ByteArray.empty, .i .i64 0, .i .i64 0, .i .i64 0, .s ByteArray.empty, .i .i64 0, .i .i64 0] [] 160,
   .row true [.i .i64 1, .i .i64 1] [] 142,
   .row true [.i .i64 1, .s ByteArray.empty, .s ByteArray.empty, .b true, .i .i64 0, .sl 38 0 0 0, .sl 39 0 0 0, .s ByteArray.empty, .s ByteArray.empty, .i .i64 0, .i .i64 0, .i .i64 0, .s ByteArray.empty, .i .i64 0, .i .i64 0] o0.l 160,
   .row true [.i .i64 1, .i .i64 1] o1.l 142,
   .row true [.p 24 0] [] 272,
   .row true [.i .i64 0, .i .i64 0, .i .i64 0, .nsl, .nsl, .b false, .s ByteArray.empty, .s ByteArray.empty, .b false, .i .i64 0, .nsl, .b false, .s ByteArray.empty, .s ByteArray.empty, .b false, .i .i64 0, .nsl, .b false, .i .i64 0, .i .i64 0, .s ByteArray.empty] [] 192,
   .row true [.i .i64 0, .i .i64 0, .i .i64 0, .nsl, .nsl, .b false, .s ByteArray.empty, .s ByteArray.empty, .b false, .i .i64 0, .nsl, .b false, .s ByteArray.empty, .s ByteArray.empty, .b false, .i .i64 0, .nsl, .b false, .i .i64 0, .i .i64 0, .s ByteArray.empty] [] 192,
   .row true [.i .i64 1, .i .i64 1] [] 142,
   .row true [.i .i64 0, .i .i64 0, .i .i64 0, .nsl, .nsl, .b false, .s ByteArray.empty, .s ByteArray.empty, .b false, .i .i64 0, .nsl, .b false, .s ByteArray.empty, .s ByteArray.empty, .b false, .i .i64 0, .nsl, .b false, .i .i64 0, .i .i64 0, .s ByteArray.empty] [] 192,
   .dead,
   .row true [.i .i64 0, .i .i64 1, .i .i64 1, .sl 59 0 1 o3.n, .sl 52 0 1 o2.n, .b true, .s ByteArray.empty, .s ByteArray.empty, .b false, .i .i64 0, .nsl, .b false, .s ByteArray.empty, .s ByteArray.empty, .b false, .i .i64 0, .nsl, .b false, .i .i64 0, .i .i64 0, .s ByteArray.empty] [] 192,
   .row true [.i .i64 1, .i .i64 1] o2.l 142,
   .row true [.i .i64 1, .s ByteArray.empty, .s ByteArray.empty, .b true, .i .i64 0, .sl 38 0 0 0, .sl 39 0 0 0, .s ByteArray.empty, .s ByteArray.empty, .i .i64 0, .i .i64 0, .i .i64 0, .s ByteArray.empty, .i .i64 0, .i .i64 0] [] 160,
   .row true [.i .i64 1, .s ByteArray.empty, .s ByteArray.empty, .b true, .i .i64 0, .sl 56 0 0 0, .sl 57 0 0 0, .s ByteArray.empty, .s ByteArray.empty, .i .i64 0, .i .i64 0, .i .i64 0, .s ByteArray.empty, .i .i64 0, .i .i64 0] [] 160,
   .row true [.i .i64 1, .s ByteArray.empty, .s ByteArray.empty, .b true, .i .i64 0, .sl 56 0 0 0, .sl 57 0 0 0, .s ByteArray.empty, .s ByteArray.empty, .i .i64 0, .i .i64 0, .i .i64 0, .s ByteArray.empty, .i .i64 0, .i .i64 0] [] 160,
   .row true [] [] 66,
   .row true [] [] 196,
   .row true [.i .i64 1, .s ByteArray.empty, .s ByteArray.empty, .b true, .i .i64 0, .sl 56 0 0 0, .sl 57 0 0 0, .s ByteArray.empty, .s ByteArray.empty, .i .i64 0, .i .i64 0, .i .i64 0, .s ByteArray.empty, .i .i64 0, .i .i64 0] [] 160,
   .row true [.i .i64 1, .s ByteArray.empty, .s ByteArray.empty, .b true, .i .i64 0, .sl 56 0 0 0, .sl 57 0 0 0, .s ByteArray.empty, .s ByteArray.empty, .i .i64 0, .i .i64 0, .i .i64 0, .s ByteArray.empty, .i .i64 0, .i .i64 0] o3.l 160,
   .row true [.s ByteArray.empty, .s ByteArray.empty, .b false, .i .i64 0, .nsl, .b false] [] 123,
   .row true [.i .i64 1, .s ByteArray.empty, .s ByteArray.empty, .b true, .i .i64 0, .sl 38 0 0 0, .sl 39 0 0 0, .s ByteArray.empty, .s ByteArray.empty, .i .i64 0, .i .i64 0, .i .i64 0, .s ByteArray.empty, .i .i64 0, .i .i64 0] [] 160,
   .row true [.i .i64 1, .s ByteArray.empty, .s ByteArray.empty, .b true, .i .i64 0, .sl 38 0 0 0, .sl 39 0 0 0, .s ByteArray.empty, .s ByteArray.empty, .i .i64 0, .i .i64 0, .i .i64 0, .s ByteArray.empty, .i .i64 0, .i .i64 0] [] 160,
   .row false [.s ByteArray.empty, .s ByteArray.empty, .b false, .i .i64 0, .nsl, .b false] [] 123]⟩
theorem hdL0 (o0 o1 o2 o3 : Orc) : run Pr (fun _ => false) hdC0 [o0, o1, o2, o3] hdS0 =
    some ([.eq true true, .eq true true, .eq false false, .eq true true, .eq true true, .app 0 0 0 15 1 192 15 o0.l.length o0.n, .app 0 0 0 2 1 16 2 o1.l.length o1.n, .app 0 0 0 2 1 16 2 o2.l.length o2.n, .eq true true, .eq true true, .app 0 0 0 15 1 192 15 o3.l.length o3.n], .at (hdS1 o0 o1 o2 o3)) := by kernel_rfl
def hdC1 : List Cmd := [.seg [false, true, true, true], .app false, .segn 781 []]
noncomputable def hdS2 (o0 o1 o2 o3 o4 : Orc) : SS := ⟨[⟨195, slots 20 [.p 8 0, .i .i64 0, .tp [], .tp [], .ni, .p 8 0, .b false], [], none, [.inRegion (oA Pr 195 [1, 0, 0]) [], .code (cA Pr 195 [1, 0, 1]), .code (cA Pr 195 [1, 1])]⟩,
  ⟨194, slots 21 [.p 8 0, .p 126 0, .tp [], .b false, .p 8 0, .p 18 0, .p 18 0, .p 18 0, .i .i64 0], [], none, [.inRegion (oA Pr 194 [1, 0]) [5], .code (cA Pr 194 [1, 1])]⟩,
  ⟨45, slots 14 [.p 18 0, .p 8 0, .tp [], .tp [], .b false, .p 18 0, .b true, .b false, .p 18 0, .p 18 0, .p 18 11, .fn 194 [.p 126 0], .p 8 0], [], none, [.inRegion (oA Pr 45 [1, 1, 0]) [5, 6], .code (cA Pr 45 [1, 0, 1, 0, 1])]⟩,
  ⟨17, slots 43 [.b false, .p 8 0, .ni, .p 18 0, .ni, .tp [], .tp [], .tp [.p 8 0, .ni], .ag [.i .i64 20, .i .i64 4, .i .i64 2, .i .i64 4, .i .i64 4, .i .i64 99], .tp [.p 8 0, .ni], .p 8 0, .ni, .p 18 0, .p 18 0, .ag [.i .i64 2, .s ⟨#[97]⟩, .s ⟨#[49]⟩], .ni, .i .i64 6, .b true, .p 18 0, .p 8 0, .b false, .i .i64 6], [], none, [.inRegion (oA Pr 17 [1, 1, 1, 1, 0, 1, 0, 0, 1, 1, 0, 0]) [2], .inBlock 1, .code (cA Pr 17 [1, 1, 1, 1, 0, 1, 0, 0, 1, 1, 1]), .inLoop (cA Pr 17 [1, 1, 1, 1, 0, 1, 0, 0]), .inBlock 0, .code (cA Pr 17 [1, 1, 1, 1, 1])]⟩],
  [.row true [.i .i64 20, .i .i64 4, .i .i64 2, .i .i64 4, .i .i64 4, .i .i64 99] [] 23,
   .row true [.i .i64 20, .i .i64 4, .i .i64 2, .i .i64 4, .i .i64 4, .i .i64 99] [] 23,
   .row true [.i .i64 1, .b true, .i .i64 1, .s ByteArray.empty, .s ByteArray.empty, .b true, .i .i64 0, .sl 13 0 0 0, .sl 14 0 0 0, .s ByteArray.empty, .s ByteArray.empty, .i .i64 0, .i .i64 0, .i .i64 0, .s ByteArray.empty, .i .i64 0, .i .i64 0, .i .i64 1, .b true, .i .i64 2, .s ByteArray.empty, .s ByteArray.empty, .b false, .i .i64 0, .sl 117 0 0 0, .sl 118 0 0 0, .s ⟨#[97]⟩, .s ⟨#[49]⟩, .i .i64 0, .i .i64 0, .i .i64 0, .s ByteArray.empty, .i .i64 1, .i .i64 1, .i .i64 0, .b false, .i .i64 0, .s ByteArray.empty, .s ByteArray.empty, .b false, .i .i64 0, .nsl, .nsl, .s ByteArray.empty, .s ByteArray.empty, .i .i64 0, .i .i64 0, .i .i64 0, .s ByteArray.empty, .i .i64 0, .i .i64 0, .i .i64 0, .b false, .i .i64 0, .s ByteArray.empty, .s ByteArray.empty, .b false, .i .i64 0, .nsl, .nsl, .s ByteArray.empty, .s ByteArray.empty, .i .i64 0, .i .i64 0, .i .i64 0, .s ByteArray.empty, .i .i64 0, .i .i64 0, .i .i64 0, .b false, .i .i64 0, .s ByteArray.empty, .s ByteArray.empty, .b false, .i .i64 0, .nsl, .nsl, .s ByteArray.empty, .s ByteArray.empty, .i .i64 0, .i .i64 0, .i .i64 0, .s ByteArray.empty, .i .i64 0, .i .i64 0, .i .i64 0, .b false, .i .i64 0, .s ByteArray.empty, .s ByteArray.empty, .b false, .i .i64 0, .nsl, .nsl, .s ByteArray.empty, .s ByteArray.empty, .i .i64 0, .i .i64 0, .i .i64 0, .s ByteArray.empty, .i .i64 0, .i .i64 0, .i .i64 0, .b false, .i .i64 0, .s ByteArray.empty, .s ByteArray.empty, .b false, .i .i64 0, .nsl, .nsl, .s ByteArray.empty, .s ByteArray.empty, .i .i64 0, .i .i64 0, .i .i64 0, .s ByteArray.empty, .i .i64 0, .i .i64 0, .i .i64 0, .b false, .i .i64 0, .s ByteArray.empty, .s ByteArray.empty, .b false, .i .i64 0, .nsl, .nsl, .s ByteArray.empty, .s ByteArray.empty, .i .i64 0, .i .i64 0, .i .i64 0, .s ByteArray.empty, .i .i64 0, .i .i64 0, .i .i64 0, .b false, .i .i64 0, .s ByteArray.empty, .s ByteArray.empty, .b false, .i .i64 0, .nsl, .nsl, .s ByteArray.empty, .s ByteArray.empty, .i .i64 0, .i .i64 0, .i .i64 0, .s ByteArray.empty, .i .i64 0, .i .i64 0, .i .i64 0, .b false, .i .i64 0, .s ByteArray.empty, .s ByteArray.empty, .b false, .i .i64 0, .nsl, .nsl, .s ByteArray.empty, .s ByteArray.empty, .i .i64 0, .i .i64 0, .i .i64 0, .s ByteArray.empty, .i .i64 0, .i .i64 0, .i .i64 0, .b false, .i .i64 0, .s ByteArray.empty, .s ByteArray.empty, .b false, .i .i64 0, .nsl, .nsl, .s ByteArray.empty, .s ByteArray.empty, .i .i64 0, .i .i64 0, .i .i64 0, .s ByteArray.empty, .i .i64 0, .i .i64 0, .i .i64 0, .b false, .i .i64 0, .s ByteArray.empty, .s ByteArray.empty, .b false, .i .i64 0, .nsl, .nsl, .s ByteArray.empty, .s ByteArray.empty, .i .i64 0, .i .i64 0, .i .i64 0, .s ByteArray.empty, .i .i64 0, .i .i64 0, .i .i64 0, .b false, .i .i64 0, .s ByteArray.empty, .s ByteArray.empty, .b false, .i .i64 0, .nsl, .nsl, .s ByteArray.empty, .s ByteArray.empty, .i .i64 0, .i .i64 0, .i .i64 0, .s ByteArray.empty, .i .i64 0, .i .i64 0, .i .i64 0, .b false, .i .i64 0, .s ByteArray.empty, .s ByteArray.empty, .b false, .i .i64 0, .nsl, .nsl, .s ByteArray.empty, .s ByteArray.empty, .i .i64 0, .i .i64 0, .i .i64 0, .s ByteArray.empty, .i .i64 0, .i .i64 0, .i .i64 0, .b false, .i .i64 0, .s ByteArray.empty, .s ByteArray.empty, .b false, .i .i64 0, .nsl, .nsl, .s ByteArray.empty, .s ByteArray.empty, .i .i64 0, .i .i64 0, .i .i64 0, .s ByteArray.empty, .i .i64 0, .i .i64 0, .i .i64 0, .b false, .i .i64 0, .s ByteArray.empty, .s ByteArray.empty, .b false, .i .i64 0, .nsl, .nsl, .s ByteArray.empty, .s ByteArray.empty, .i .i64 0, .i .i64 0, .i .i64 0, .s ByteArray.empty, .i .i64 0, .i .i64 0, .i .i64 0, .b false, .i .i64 0, .s ByteArray.empty, .s ByteArray.empty, .b false, .i .i64 0, .nsl, .nsl, .s ByteArray.empty, .s ByteArray.empty, .i .i64 0, .i .i64 0, .i .i64 0, .s ByteArray.empty, .i .i64 0, .i .i64 0, .i .i64 0, .b false, .i .i64 0, .s ByteArray.empty, .s ByteArray.empty, .b false, .i .i64 0, .nsl, .nsl, .s ByteArray.empty, .s ByteArray.empty, .i .i64 0, .i .i64 0, .i .i64 0, .s ByteArray.empty, .i .i64 0, .i .i64 0, .i .i64 0, .b false, .i .i64 0, .s ByteArray.empty, .s ByteArray.empty, .b false, .i .i64 0, .nsl, .nsl, .s ByteArray.empty, .s ByteArray.empty, .i .i64 0, .i .i64 0, .i .i64 0, .s ByteArray.empty, .i .i64 0, .i .i64 0, .i .i64 0, .b false, .i .i64 0, .s ByteArray.empty, .s ByteArray.empty, .b false, .i .i64 0, .nsl, .nsl, .s ByteArray.empty, .s ByteArray.empty, .i .i64 0, .i .i64 0, .i .i64 0, .s ByteArray.empty, .i .i64 0, .i .i64 0] [] 171,
   .row true [.sl 2 0 20 20, .i .i64 99] [] 169,
   .row true [.b true, .i .i64 2, .i .i64 1, .b false, .i .i64 0, .i .i64 0, .b false, .i .i64 0, .i .i64 0, .b false, .i .i64 0, .i .i64 0] [] 233,
   .row true [.sl 4 0 4 4] [] 227,
   .obj (.im .i64 .i64 [(0, 2, 0)] 1),
   .row true [.i .i64 2, .i .i64 99, .i .i64 2, .mp 6] [] 229,
   .row true [.i .i64 6, .i .i64 20, .i .i64 4, .i .i64 2, .i .i64 4, .i .i64 4, .i .i64 99, .p 3 0, .p 5 0, .p 7 0] [] 96,
   .row true [.i .i64 1, .s ByteArray.empty, .s ByteArray.empty, .b true, .i .i64 0, .nsl, .nsl, .s ByteArray.empty, .s ByteArray.empty, .i .i64 0, .i .i64 0, .i .i64 0, .s ByteArray.empty, .i .i64 0, .i .i64 0] [] 160,
   .row true [.i .i64 1, .i .i64 1] [] 142,
   .row true [.i .i64 1, .s ByteArray.empty, .s ByteArray.empty, .b true, .i .i64 0, .sl 13 0 0 0, .sl 14 0 0 0, .s ByteArray.empty, .s ByteArray.empty, .i .i64 0, .i .i64 0, .i .i64 0, .s ByteArray.empty, .i .i64 0, .i .i64 0] [] 160,
   .row true [.i .i64 1, .s ByteArray.empty, .s ByteArray.empty, .b true, .i .i64 0, .sl 13 0 0 0, .sl 14 0 0 0, .s ByteArray.empty, .s ByteArray.empty, .i .i64 0, .i .i64 0, .i .i64 0, .s ByteArray.empty, .i .i64 0, .i .i64 0] [] 160,
   .row true [] [] 66,
   .row true [] [] 196,
   .row true [.i .i64 1, .i .i64 1] [] 142,
   .row true [.i .i64 0, .i .i64 0] [] 142,
   .row true [.i .i64 1, .i .i64 1] [] 142,
   .row true [.i .i64 0, .nsl, .b true, .i .i64 2, .s ⟨#[97]⟩, .s ⟨#[49]⟩, .b true, .s ByteArray.empty, .ni, .np, .np, .fn 194 [.p 126 0], .b false, .i .i64 0, .i .i64 0, .i .i64 0, .s ByteArray.empty, .s ByteArray.empty, .b false, .i .i64 0, .nsl, .b false, .i .i64 0, .i .i64 0, .s ByteArray.empty, .i .i64 0, .i .i64 0, .nsl, .i .i64 0, .i .i64 0] [] 153,
   .row true [.i .i64 2, .s ⟨#[97]⟩, .s ⟨#[49]⟩] [] 88,
   .row true [.i .i64 2, .s ⟨#[97]⟩, .s ⟨#[49]⟩] [] 88,
   .row true [.p 18 0] [] 68,
   .row true [.i .i64 2] [] 3,
   .row true [.p 18 0] [] 68,
   .row true [.i .i64 0, .b true, .b true, .i .i64 1, .i .i64 1, .i .i64 0, .i .i64 0, .sl 43 0 1 o0.n, .sl 44 0 1 o1.n, .ni] [] 280,
   .row true [.p 24 0] [] 272,
   .row true [.i .i64 1, .i .i64 1] [] 142,
   .row true [.i .i64 1, .i .i64 1] [] 142,
   .row true [.i .i64 1, .i .i64 1] [] 142,
   .row true [.i .i64 1, .i .i64 1] [] 142,
   .row true [.i .i64 1, .i .i64 1] [] 142,
   .row true [.i .i64 1, .s ByteArray.empty, .s ByteArray.empty, .b true, .i .i64 0, .sl 38 0 0 0, .sl 39 0 0 0, .s ByteArray.empty, .s ByteArray.empty, .i .i64 0, .i .i64 0, .i .i64 0, .s ByteArray.empty, .i .i64 0, .i .i64 0] [] 160,
   .row true [.i .i64 1, .s ByteArray.empty, .s ByteArray.empty, .b true, .i .i64 0, .sl 38 0 0 0, .sl 39 0 0 0, .s ByteArray.empty, .s ByteArray.empty, .i .i64 0, .i .i64 0, .i .i64 0, .s ByteArray.empty, .i .i64 0, .i .i64 0] [] 160,
   .row true [.i .i64 1, .i .i64 1] [] 142,
   .row true [.i .i64 1, .s ByteArray.empty, .s ByteArray.empty, .b true, .i .i64 0, .sl 38 0 0 0, .sl 39 0 0 0, .s ByteArray.empty, .s ByteArray.empty, .i .i64 0, .i .i64 0, .i .i64 0, .s ByteArray.empty, .i .i64 0, .i .i64 0] [] 160,
   .row true [.i .i64 1, .i .i64 1] [] 142,
   .row true [.i .i64 1, .s ByteArray.empty, .s ByteArray.empty, .b true, .i .i64 0, .sl 38 0 0 0, .sl 39 0 0 0, .s ByteArray.empty, .s ByteArray.empty, .i .i64 0, .i .i64 0, .i .i64 0, .s ByteArray.empty, .i .i64 0, .i .i64 0] [] 160,
   .row true [.i .i64 1, .s ByteArray.empty, .s ByteArray.empty, .b true, .i .i64 0, .sl 38 0 0 0, .sl 39 0 0 0, .s ByteArray.empty, .s ByteArray.empty, .i .i64 0, .i .i64 0, .i .i64 0, .s ByteArray.empty, .i .i64 0, .i .i64 0] [] 160,
   .row true [] [] 66,
   .row true [] [] 196,
   .row true [.i .i64 1, .s ByteArray.empty, .s ByteArray.empty, .b true, .i .i64 0, .sl 38 0 0 0, .sl 39 0 0 0, .s ByteArray.empty, .s ByteArray.empty, .i .i64 0, .i .i64 0, .i .i64 0, .s ByteArray.empty, .i .i64 0, .i .i64 0] [] 160,
   .row true [.i .i64 1, .s ByteArray.empty, .s ByteArray.empty, .b true, .i .i64 0, .sl 38 0 0 0, .sl 39 0 0 0, .s ByteArray.empty, .s ByteArray.empty, .i .i64 0, .i .i64 0, .i .i64 0, .s ByteArray.empty, .i .i64 0, .i .i64 0] [] 160,
   .row true [.i .i64 1, .i .i64 1] [] 142,
   .row true [.i .i64 1, .s ByteArray.empty, .s ByteArray.empty, .b true, .i .i64 0, .sl 38 0 0 0, .sl 39 0 0 0, .s ByteArray.empty, .s ByteArray.empty, .i .i64 0, .i .i64 0, .i .i64 0, .s ByteArray.empty, .i .i64 0, .i .i64 0] o0.l 160,
   .row true [.i .i64 1, .i .i64 1] o1.l 142,
   .row true [.p 24 0] [] 272,
   .row true [.i .i64 0, .i .i64 1, .i .i64 1, .sl 59 0 1 o3.n, .sl 52 0 1 o2.n, .b true, .s ByteArray.empty, .s ByteArray.empty, .b true, .i .i64 0, .nsl, .b false, .s ByteArray.empty, .s ByteArray.empty, .b false, .i .i64 0, .nsl, .b false, .i .i64 0, .i .i64 0, .s ByteArray.empty] [] 192,
   .row true [.i .i64 0, .i .i64 1, .i .i64 1, .sl 59 0 1 o3.n, .sl 52 0 1 o2.n, .b true, .s ByteArray.empty, .s ByteArray.empty, .b true, .i .i64 0, .nsl, .b false, .s ByteArray.empty, .s ByteArray.empty, .b false, .i .i64 0, .nsl, .b false, .i .i64 0, .i .i64 0, .s ByteArray.empty] [] 192,
   .row true [.i .i64 1, .i .i64 1] [] 142,
   .row true [.i .i64 0, .i .i64 1, .i .i64 1, .sl 59 0 1 o3.n, .sl 52 0 1 o2.n, .b true, .s ByteArray.empty, .s ByteArray.empty, .b true, .i .i64 0, .nsl, .b false, .s ByteArray.empty, .s ByteArray.empty, .b false, .i .i64 0, .nsl, .b false, .i .i64 0, .i .i64 0, .s ByteArray.empty] [] 192,
   .dead,
   .row true [.i .i64 0, .i .i64 1, .i .i64 1, .sl 59 0 1 o3.n, .sl 52 0 1 o2.n, .b true, .s ByteArray.empty, .s ByteArray.empty, .b true, .i .i64 0, .nsl, .b false, .s ByteArray.empty, .s ByteArray.empty, .b false, .i .i64 0, .nsl, .b false, .i .i64 0, .i .i64 0, .s ByteArray.empty] [] 192,
   .row true [.i .i64 1, .i .i64 1] o2.l 142,
   .row true [.i .i64 1, .s ByteArray.empty, .s ByteArray.empty, .b true, .i .i64 0, .sl 38 0 0 0, .sl 39 0 0 0, .s ByteArray.empty, .s ByteArray.empty, .i .i64 0, .i .i64 0, .i .i64 0, .s ByteArray.empty, .i .i64 0, .i .i64 0] [] 160,
   .row true [.i .i64 1, .s ByteArray.empty, .s ByteArray.empty, .b true, .i .i64 0, .sl 56 0 0 0, .sl 57 0 0 0, .s ByteArray.empty, .s ByteArray.empty, .i .i64 0, .i .i64 0, .i .i64 0, .s ByteArray.empty, .i .i64 0, .i .i64 0] [] 160,
   .row true [.i .i64 1, .s ByteArray.empty, .s ByteArray.empty, .b true, .i .i64 0, .sl 56 0 0 0, .sl 57 0 0 0, .s ByteArray.empty, .s ByteArray.empty, .i .i64 0, .i .i64 0, .i .i64 0, .s ByteArray.empty, .i .i64 0, .i .i64 0] [] 160,
   .row true [] [] 66,
   .row true [] [] 196,
   .row true [.i .i64 1, .s ByteArray.empty, .s ByteArray.empty, .b true, .i .i64 0, .sl 56 0 0 0, .sl 57 0 0 0, .s ByteArray.empty, .s ByteArray.empty, .i .i64 0, .i .i64 0, .i .i64 0, .s ByteArray.empty, .i .i64 0, .i .i64 0] [] 160,
   .row true [.i .i64 1, .s ByteArray.empty, .s ByteArray.empty, .b true, .i .i64 0, .sl 56 0 0 0, .sl 57 0 0 0, .s ByteArray.empty, .s ByteArray.empty, .i .i64 0, .i .i64 0, .i .i64 0, .s ByteArray.empty, .i .i64 0, .i .i64 0] o3.l 160,
   .row true [.s ByteArray.empty, .s ByteArray.empty, .b true, .i .i64 0, .nsl, .b false] [] 123,
   .row true [.i .i64 1, .s ByteArray.empty, .s ByteArray.empty, .b true, .i .i64 0, .sl 38 0 0 0, .sl 39 0 0 0, .s ByteArray.empty, .s ByteArray.empty, .i .i64 0, .i .i64 0, .i .i64 0, .s ByteArray.empty, .i .i64 0, .i .i64 0] [] 160,
   .row true [.i .i64 1, .s ByteArray.empty, .s ByteArray.empty, .b true, .i .i64 0, .sl 38 0 0 0, .sl 39 0 0 0, .s ByteArray.empty, .s ByteArray.empty, .i .i64 0, .i .i64 0, .i .i64 0, .s ByteArray.empty, .i .i64 0, .i .i64 0] [] 160,
   .row true [.s ByteArray.empty, .s ByteArray.empty, .b true, .i .i64 0, .nsl, .b false] [] 123,
   .row true [.sl 38 0 0 0] [] 27,
   .row true [.s ByteArray.empty, .s ByteArray.empty, .b true, .i .i64 0, .nsl, .b false] [] 123,
   .row true [.s ByteArray.empty, .s ByteArray.empty, .b true] [] 46,
   .row true [.s ByteArray.empty, .s ByteArray.empty, .b true] [] 46,
   .row true [.s ByteArray.empty, .s ByteArray.empty, .b true] [] 46,
   .row true [.i .i64 0] [] 3,
   .row true [.nsl] [] 27,
   .row true [.i .i64 0, .i .i64 1, .i .i64 1, .sl 59 0 1 o3.n, .sl 52 0 1 o2.n, .b true, .s ByteArray.empty, .s ByteArray.empty, .b true, .i .i64 0, .nsl, .b false, .s ByteArray.empty, .s ByteArray.empty, .b false, .i .i64 0, .nsl, .b false, .i .i64 0, .i .i64 0, .s ByteArray.empty] [] 192,
   .row true [.i .i64 20, .i .i64 4, .i .i64 2, .i .i64 4, .i .i64 4, .i .i64 99] [] 23,
   .row true [.i .i64 0, .i .i64 1, .i .i64 1, .sl 59 0 1 o3.n, .sl 52 0 1 o2.n, .b true, .s ByteArray.empty, .s ByteArray.empty, .b true, .i .i64 0, .nsl, .b false, .s ByteArray.empty, .s ByteArray.empty, .b false, .i .i64 0, .nsl, .b false, .i .i64 0, .i .i64 0, .s ByteArray.empty] [] 192,
   .row true [.i .i64 20, .i .i64 4, .i .i64 2, .i .i64 4, .i .i64 4, .i .i64 99] [] 23,
   .row true [.i .i64 0, .i .i64 1, .i .i64 1, .sl 59 0 1 o3.n, .sl 52 0 1 o2.n, .b true, .s ByteArray.empty, .s ByteArray.empty, .b true, .i .i64 0, .nsl, .b false, .s ByteArray.empty, .s ByteArray.empty, .b false, .i .i64 0, .nsl, .b false, .i .i64 0, .i .i64 0, .s ByteArray.empty] [] 192,
   .row true [.i .i64 20, .i .i64 4, .i .i64 2, .i .i64 4, .i .i64 4, .i .i64 99] [] 23,
   .row true [.i .i64 10, .i .i64 0, .s ByteArray.empty, .i .i64 0, .i .i64 0, .i .i64 0, .s ByteArray.empty] [] 282,
   .row true [.i .i64 0, .i .i64 1, .i .i64 1, .sl 59 0 1 o3.n, .sl 52 0 1 o2.n, .b true, .s ByteArray.empty, .s ByteArray.empty, .b true, .i .i64 0, .nsl, .b false, .s ByteArray.empty, .s ByteArray.empty, .b false, .i .i64 0, .nsl, .b false, .i .i64 0, .i .i64 0, .s ByteArray.empty] [] 192,
   .row true [.b false, .i .i64 0, .i .i64 0, .i .i64 0, .s ByteArray.empty, .s ByteArray.empty, .b false, .i .i64 0, .nsl, .b false, .i .i64 0, .i .i64 0, .s ByteArray.empty] [] 149,
   .row true [.i .i64 20, .i .i64 4, .i .i64 2, .i .i64 4, .i .i64 4, .i .i64 99] [] 23,
   .row true [.i .i64 10, .i .i64 0, .s ByteArray.empty, .i .i64 0, .i .i64 0, .i .i64 0, .s ByteArray.empty] [] 282,
   .row true [.i .i64 0, .i .i64 1, .i .i64 1, .sl 59 0 1 o3.n, .sl 52 0 1 o2.n, .b true, .s ByteArray.empty, .s ByteArray.empty, .b true, .i .i64 0, .nsl, .b false, .s ByteArray.empty, .s ByteArray.empty, .b false, .i .i64 0, .nsl, .b false, .i .i64 0, .i .i64 0, .s ByteArray.empty] [] 192,
   .row true [.i .i64 0, .i .i64 1, .i .i64 1, .sl 59 0 1 o3.n, .sl 52 0 1 o2.n, .b true, .s ByteArray.empty, .s ByteArray.empty, .b true, .i .i64 0, .nsl, .b false, .s ByteArray.empty, .s ByteArray.empty, .b false, .i .i64 0, .nsl, .b false, .i .i64 0, .i .i64 0, .s ByteArray.empty] [] 192,
   .row true [.i .i64 0, .i .i64 1, .i .i64 1, .sl 59 0 1 o3.n, .sl 52 0 1 o2.n, .b true, .s ByteArray.empty, .s ByteArray.empty, .b true, .i .i64 0, .nsl, .b false, .s ByteArray.empty, .s ByteArray.empty, .b false, .i .i64 0, .nsl, .b false, .i .i64 0, .i .i64 0, .s ByteArray.empty] [] 192,
   .row true [.b false, .i .i64 0, .i .i64 0, .i .i64 0, .s ByteArray.empty, .s ByteArray.empty, .b false, .i .i64 0, .nsl, .b false, .i .i64 0, .i .i64 0, .s ByteArray.empty] [] 149,
   .row true [.i .i64 20, .i .i64 4, .i .i64 2, .i .i64 4, .i .i64 4, .i .i64 99] [] 23,
   .row true [.i .i64 0, .i .i64 0, .s ByteArray.empty, .i .i64 0, .i .i64 0, .i .i64 0, .s ByteArray.empty] [] 282,
   .row true [.i .i64 0, .i .i64 1, .i .i64 1, .sl 59 0 1 o3.n, .sl 52 0 1 o2.n, .b true, .s ByteArray.empty, .s ByteArray.empty, .b true, .i .i64 0, .nsl, .b false, .s ByteArray.empty, .s ByteArray.empty, .b false, .i .i64 0, .nsl, .b false, .i .i64 0, .i .i64 0, .s ByteArray.empty] [] 192,
   .row true [.i .i64 0, .i .i64 1, .i .i64 1, .sl 59 0 1 o3.n, .sl 52 0 1 o2.n, .b true, .s ByteArray.empty, .s ByteArray.empty, .b true, .i .i64 0, .nsl, .b false, .s ByteArray.empty, .s ByteArray.empty, .b false, .i .i64 0, .nsl, .b false, .i .i64 0, .i .i64 0, .s ByteArray.empty] [] 192,
   .row true [.i .i64 0, .i .i64 1, .i .i64 1, .sl 59 0 1 o3.n, .sl 52 0 1 o2.n, .b true, .s ByteArray.empty, .s ByteArray.empty, .b true, .i .i64 0, .nsl, .b false, .s ByteArray.empty, .s ByteArray.empty, .b false, .i .i64 0, .nsl, .b false, .i .i64 0, .i .i64 0, .s ByteArray.empty] [] 192,
   .row true [.i .i64 0, .i .i64 0, .s ByteArray.empty, .i .i64 0, .i .i64 0, .i .i64 0, .s ByteArray.empty] [] 282,
   .row true [.i .i64 10, .i .i64 0, .s ByteArray.empty, .i .i64 0, .i .i64 0, .i .i64 0, .s ByteArray.empty] [] 282,
   .row true [.p 18 0] [] 68,
   .row true [.i .i64 0, .i .i64 1, .i .i64 1, .sl 59 0 1 o3.n, .sl 52 0 1 o2.n, .b true, .s ByteArray.empty, .s ByteArray.empty, .b true, .i .i64 0, .nsl, .b false, .s ByteArray.empty, .s ByteArray.empty, .b false, .i .i64 0, .nsl, .b false, .i .i64 0, .i .i64 0, .s ByteArray.empty] [] 192,
   .row true [.i .i64 2, .s ByteArray.empty, .s ByteArray.empty, .b false, .i .i64 0, .nsl, .nsl, .s ⟨#[97]⟩, .s ⟨#[49]⟩, .i .i64 0, .i .i64 0, .i .i64 0, .s ByteArray.empty, .i .i64 0, .i .i64 0] [] 160,
   .row true [.s ByteArray.empty, .ni] [] 106,
   .row true [.i .i64 1, .i .i64 1] [] 142,
   .row true [.i .i64 2, .s ByteArray.empty, .s ByteArray.empty, .b false, .i .i64 0, .nsl, .nsl, .s ⟨#[97]⟩, .s ⟨#[49]⟩, .i .i64 0, .i .i64 0, .i .i64 0, .s ByteArray.empty, .i .i64 1, .i .i64 1] [] 160,
   .row true [.i .i64 0, .i .i64 1, .i .i64 1, .i .i64 0, .fn 230 [.p 98 0]] [] 294,
   .row true [.p 18 0] [] 68,
   .row true [.i .i64 0, .i .i64 1, .i .i64 1, .i .i64 0, .fn 230 [.p 98 0]] [] 294,
   .row true [.fn 210 [.p 93 0, .p 96 0]] [] 296,
   .row true [.i .i64 0, .i .i64 1, .i .i64 1, .i .i64 0, .fn 230 [.p 98 0]] [] 294,
   .row true [.i .i64 0, .i .i64 1, .i .i64 1, .i .i64 0, .fn 230 [.p 98 0], .i .i64 7, .nsl, .nsl, .i .i64 2, .s ByteArray.empty, .s ByteArray.empty, .b false, .i .i64 0, .nsl, .nsl, .s ⟨#[97]⟩, .s ⟨#[49]⟩, .i .i64 0, .i .i64 0, .i .i64 0, .s ByteArray.empty, .i .i64 1, .i .i64 1, .sl 121 0 1 o4.n, .i .i64 0, .b true, .ni] [] 337,
   .row true [] [] 3,
   .row true [.i .i64 2, .s ByteArray.empty, .s ByteArray.empty, .b false, .i .i64 0, .nsl, .nsl, .s ⟨#[97]⟩, .s ⟨#[49]⟩, .i .i64 0, .i .i64 0, .i .i64 0, .s ByteArray.empty, .i .i64 1, .i .i64 1] [] 160,
   .row true [.i .i64 2, .s ByteArray.empty, .s ByteArray.empty, .b false, .i .i64 0, .nsl, .nsl, .s ⟨#[97]⟩, .s ⟨#[49]⟩, .i .i64 0, .i .i64 0, .i .i64 0, .s ByteArray.empty, .i .i64 1, .i .i64 1] [] 160,
   .row true [.p 104 0] [] 318,
   .row true [.i .i64 2, .s ByteArray.empty, .s ByteArray.empty, .b false, .i .i64 0, .nsl, .nsl, .s ⟨#[97]⟩, .s ⟨#[49]⟩, .i .i64 0, .i .i64 0, .i .i64 0, .s ByteArray.empty, .i .i64 1, .i .i64 1] [] 160,
   .row true [.i .i64 2, .s ByteArray.empty, .s ByteArray.empty, .b false, .i .i64 0, .nsl, .nsl, .s ⟨#[97]⟩, .s ⟨#[49]⟩, .i .i64 0, .i .i64 0, .i .i64 0, .s ByteArray.empty, .i .i64 1, .i .i64 1] [] 160,
   .row true [.i .i64 2, .i .i64 1] [] 142,
   .row true [.i .i64 2, .i .i64 1] [] 142,
   .row true [.i .i64 2, .s ByteArray.empty, .s ByteArray.empty, .b false, .i .i64 0, .nsl, .nsl, .s ⟨#[97]⟩, .s ⟨#[49]⟩, .i .i64 0, .i .i64 0, .i .i64 0, .s ByteArray.empty, .i .i64 1, .i .i64 1] [] 160,
   .row true [.i .i64 2, .i .i64 1] [] 142,
   .row true [.i .i64 2, .s ByteArray.empty, .s ByteArray.empty, .b false, .i .i64 0, .sl 117 0 0 0, .sl 118 0 0 0, .s ⟨#[97]⟩, .s ⟨#[49]⟩, .i .i64 0, .i .i64 0, .i .i64 0, .s ByteArray.empty, .i .i64 1, .i .i64 1] [] 160,
   .row true [.i .i64 2, .s ByteArray.empty, .s ByteArray.empty, .b false, .i .i64 0, .sl 117 0 0 0, .sl 118 0 0 0, .s ⟨#[97]⟩, .s ⟨#[49]⟩, .i .i64 0, .i .i64 0, .i .i64 0, .s ByteArray.empty, .i .i64 1, .i .i64 1] [] 160,
   .row true [] [] 66,
   .row true [] [] 196,
   .row true [.i .i64 2, .i .i64 1] [] 142,
   .row true [.i .i64 2, .i .i64 1] [] 142,
   .row true [.i .i64 2, .i .i64 1] o4.l 142,
   .row true [.i .i64 1, .i .i64 1] [] 142,
   .row true [.i .i64 2, .i .i64 1] [] 142,
   .row true [.i .i64 1, .i .i64 1] [] 142,
   .row true [.i .i64 2, .i .i64 1] [] 142,
   .row true [.p 18 0] [] 68,
   .row true [.s ByteArray.empty, .ni] [] 106,
   .row true [.s ByteArray.empty, .ni] [] 106]⟩
theorem hdL1 (o0 o1 o2 o3 o4 : Orc) : run Pr (fun _ => false) hdC1 [o4] (hdS1 o0 o1 o2 o3) =
    some ([.eq true true, .eq true true, .eq true true, .eq false false, .app 0 0 0 2 1 16 2 o4.l.length o4.n], .at (hdS2 o0 o1 o2 o3 o4)) := by kernel_rfl
def hdC2 : List Cmd := [.seg [false], .app false, .seg [true, true], .app false, .seg [], .app false, .seg [true, true], .app false, .seg [], .app false, .seg [], .app false, .seg [true, true], .app false, .seg [true, true], .app false, .seg [], .app false, .seg [true, false], .app false, .segn 239 []]
noncomputable def hdS3 (o0 o1 o2 o3 o4 o5 o6 o7 o8 o9 o10 o11 o12 o13 o14 : Orc) : SS := ⟨[⟨108, slots 22 [.p 5 0, .i .i64 0, .tp [], .tp [], .p 208 0, .ni, .p 4 0, .ni, .tp [.p 4 0, .ni], .p 5 0, .i .i64 0, .tp [.p 4 0, .ni], .p 4 0, .ni, .ni], [], none, [.inRegion (oA Pr 108 [1, 1, 0, 0]) [1], .code (cA Pr 108 [1, 1, 0, 1]), .code (cA Pr 108 [1, 1, 1])]⟩,
  ⟨64, slots 69 [.p 8 0, .i .i64 0, .tp [], .tp [], .nsl, .nsl, .ni, .tp [], .tp [], .tp [], .tp [], .tp [], .tp [], .p 8 0, .b false, .tp [], .tp [], .p 8 0, .p 8 0, .p 8 8, .p 5 0, .i .i64 0], [], none, [.inRegion (oA Pr 64 [1, 1, 0]) [5, 6, 7, 8, 9, 10, 11], .code (cA Pr 64 [1, 1, 1])]⟩,
  ⟨21, slots 56 [.p 8 0, .tp [], .nsl, .ni, .i .i64 0, .ni, .nsl, .tp [], .tp [], .tp [], .tp [], .p 8 0, .b false, .tp [], .tp [.i .i64 0, .ni], .p 8 0, .tp [.i .i64 0, .ni], .i .i64 0, .ni, .ni, .b false, .tp [], .p 8 0, .sl 204 0 1 o14.n, .i .i64 1, .i .i64 0, .b true, .tp [], .p 8 0, .i .i64 0], [], none, [.inRegion (oA Pr 21 [1, 1, 1, 1, 1, 0, 1, 0, 0, 1, 1, 0, 0, 0]) [2, 3, 4, 5, 6, 7, 8, 9], .code (cA Pr 21 [1, 1, 1, 1, 1, 0, 1, 0, 0, 1, 1, 0, 0, 1]), .inBlock 1, .code (cA Pr 21 [1, 1, 1, 1, 1, 0, 1, 0, 0, 1, 1, 1]), .inLoop (cA Pr 21 [1, 1, 1, 1, 1, 0, 1, 0, 0]), .inBlock 0, .code (cA Pr 21 [1, 1, 1, 1, 1, 1])]⟩,
  ⟨17, slots 43 [.b false, .p 8 0, .ni, .p 18 0, .ni, .tp [], .tp [], .tp [.p 8 0, .ni], .ag [.i .i64 20, .i .i64 4, .i .i64 2, .i .i64 4, .i .i64 4, .i .i64 99], .tp [.p 8 0, .ni], .p 8 0, .ni, .p 18 0, .p 18 0, .ag [.i .i64 2, .s ⟨#[97]⟩, .s ⟨#[49]⟩], .ni, .i .i64 7, .b false, .p 18 0, .p 8 0, .b true, .i .i64 7, .tp [], .p 8 0], [], none, [.inRegion (oA Pr 17 [1, 1, 1, 1, 1, 0]) [1, 2, 3, 4, 5, 6], .code (cA Pr 17 [1, 1, 1, 1, 1, 1])]⟩],
  [.row true [.i .i64 20, .i .i64 4, .i .i64 2, .i .i64 4, .i .i64 4, .i .i64 99] [] 23,
   .row true [.i .i64 20, .i .i64 4, .i .i64 2, .i .i64 4, .i .i64 4, .i .i64 99] [] 23,
   .row true [.i .i64 1, .b true, .i .i64 1, .s ByteArray.empty, .s ByteArray.empty, .b true, .i .i64 0, .sl 13 0 0 0, .sl 14 0 0 0, .s ByteArray.empty, .s ByteArray.empty, .i .i64 0, .i .i64 0, .i .i64 0, .s ByteArray.empty, .i .i64 0, .i .i64 0, .i .i64 1, .b true, .i .i64 2, .s ByteArray.empty, .s ByteArray.empty, .b false, .i .i64 0, .sl 117 0 0 0, .sl 118 0 0 0, .s ⟨#[97]⟩, .s ⟨#[49]⟩, .i .i64 0, .i .i64 0, .i .i64 0, .s ByteArray.empty, .i .i64 1, .i .i64 1, .i .i64 0, .b false, .i .i64 0, .s ByteArray.empty, .s ByteArray.empty, .b false, .i .i64 0, .nsl, .nsl, .s ByteArray.empty, .s ByteArray.empty, .i .i64 0, .i .i64 0, .i .i64 0, .s ByteArray.empty, .i .i64 0, .i .i64 0, .i .i64 0, .b false, .i .i64 0, .s ByteArray.empty, .s ByteArray.empty, .b false, .i .i64 0, .nsl, .nsl, .s ByteArray.empty, .s ByteArray.empty, .i .i64 0, .i .i64 0, .i .i64 0, .s ByteArray.empty, .i .i64 0, .i .i64 0, .i .i64 0, .b false, .i .i64 0, .s ByteArray.empty, .s ByteArray.empty, .b false, .i .i64 0, .nsl, .nsl, .s ByteArray.empty, .s ByteArray.empty, .i .i64 0, .i .i64 0, .i .i64 0, .s ByteArray.empty, .i .i64 0, .i .i64 0, .i .i64 0, .b false, .i .i64 0, .s ByteArray.empty, .s ByteArray.empty, .b false, .i .i64 0, .nsl, .nsl, .s ByteArray.empty, .s ByteArray.empty, .i .i64 0, .i .i64 0, .i .i64 0, .s ByteArray.empty, .i .i64 0, .i .i64 0, .i .i64 0, .b false, .i .i64 0, .s ByteArray.empty, .s ByteArray.empty, .b false, .i .i64 0, .nsl, .nsl, .s ByteArray.empty, .s ByteArray.empty, .i .i64 0, .i .i64 0, .i .i64 0, .s ByteArray.empty, .i .i64 0, .i .i64 0, .i .i64 0, .b false, .i .i64 0, .s ByteArray.empty, .s ByteArray.empty, .b false, .i .i64 0, .nsl, .nsl, .s ByteArray.empty, .s ByteArray.empty, .i .i64 0, .i .i64 0, .i .i64 0, .s ByteArray.empty, .i .i64 0, .i .i64 0, .i .i64 0, .b false, .i .i64 0, .s ByteArray.empty, .s ByteArray.empty, .b false, .i .i64 0, .nsl, .nsl, .s ByteArray.empty, .s ByteArray.empty, .i .i64 0, .i .i64 0, .i .i64 0, .s ByteArray.empty, .i .i64 0, .i .i64 0, .i .i64 0, .b false, .i .i64 0, .s ByteArray.empty, .s ByteArray.empty, .b false, .i .i64 0, .nsl, .nsl, .s ByteArray.empty, .s ByteArray.empty, .i .i64 0, .i .i64 0, .i .i64 0, .s ByteArray.empty, .i .i64 0, .i .i64 0, .i .i64 0, .b false, .i .i64 0, .s ByteArray.empty, .s ByteArray.empty, .b false, .i .i64 0, .nsl, .nsl, .s ByteArray.empty, .s ByteArray.empty, .i .i64 0, .i .i64 0, .i .i64 0, .s ByteArray.empty, .i .i64 0, .i .i64 0, .i .i64 0, .b false, .i .i64 0, .s ByteArray.empty, .s ByteArray.empty, .b false, .i .i64 0, .nsl, .nsl, .s ByteArray.empty, .s ByteArray.empty, .i .i64 0, .i .i64 0, .i .i64 0, .s ByteArray.empty, .i .i64 0, .i .i64 0, .i .i64 0, .b false, .i .i64 0, .s ByteArray.empty, .s ByteArray.empty, .b false, .i .i64 0, .nsl, .nsl, .s ByteArray.empty, .s ByteArray.empty, .i .i64 0, .i .i64 0, .i .i64 0, .s ByteArray.empty, .i .i64 0, .i .i64 0, .i .i64 0, .b false, .i .i64 0, .s ByteArray.empty, .s ByteArray.empty, .b false, .i .i64 0, .nsl, .nsl, .s ByteArray.empty, .s ByteArray.empty, .i .i64 0, .i .i64 0, .i .i64 0, .s ByteArray.empty, .i .i64 0, .i .i64 0, .i .i64 0, .b false, .i .i64 0, .s ByteArray.empty, .s ByteArray.empty, .b false, .i .i64 0, .nsl, .nsl, .s ByteArray.empty, .s ByteArray.empty, .i .i64 0, .i .i64 0, .i .i64 0, .s ByteArray.empty, .i .i64 0, .i .i64 0, .i .i64 0, .b false, .i .i64 0, .s ByteArray.empty, .s ByteArray.empty, .b false, .i .i64 0, .nsl, .nsl, .s ByteArray.empty, .s ByteArray.empty, .i .i64 0, .i .i64 0, .i .i64 0, .s ByteArray.empty, .i .i64 0, .i .i64 0, .i .i64 0, .b false, .i .i64 0, .s ByteArray.empty, .s ByteArray.empty, .b false, .i .i64 0, .nsl, .nsl, .s ByteArray.empty, .s ByteArray.empty, .i .i64 0, .i .i64 0, .i .i64 0, .s ByteArray.empty, .i .i64 0, .i .i64 0, .i .i64 0, .b false, .i .i64 0, .s ByteArray.empty, .s ByteArray.empty, .b false, .i .i64 0, .nsl, .nsl, .s ByteArray.empty, .s ByteArray.empty, .i .i64 0, .i .i64 0, .i .i64 0, .s ByteArray.empty, .i .i64 0, .i .i64 0, .i .i64 0, .b false, .i .i64 0, .s ByteArray.empty, .s ByteArray.empty, .b false, .i .i64 0, .nsl, .nsl, .s ByteArray.empty, .s ByteArray.empty, .i .i64 0, .i .i64 0, .i .i64 0, .s ByteArray.empty, .i .i64 0, .i .i64 0, .i .i64 0, .b false, .i .i64 0, .s ByteArray.empty, .s ByteArray.empty, .b false, .i .i64 0, .nsl, .nsl, .s ByteArray.empty, .s ByteArray.empty, .i .i64 0, .i .i64 0, .i .i64 0, .s ByteArray.empty, .i .i64 0, .i .i64 0] [] 171,
   .row true [.sl 2 0 20 20, .i .i64 99] [] 169,
   .row true [.b true, .i .i64 2, .i .i64 1, .b false, .i .i64 0, .i .i64 0, .b false, .i .i64 0, .i .i64 0, .b false, .i .i64 0, .i .i64 0] [] 233,
   .row true [.sl 4 0 4 4] [] 227,
   .obj (.im .i64 .i64 [] 1),
   .row true [.i .i64 2, .i .i64 99, .i .i64 2, .mp 6] [] 229,
   .row true [.i .i64 7, .i .i64 20, .i .i64 4, .i .i64 2, .i .i64 4, .i .i64 4, .i .i64 99, .p 3 0, .p 5 0, .p 7 0] [] 96,
   .row true [.i .i64 1, .s ByteArray.empty, .s ByteArray.empty, .b true, .i .i64 0, .nsl, .nsl, .s ByteArray.empty, .s ByteArray.empty, .i .i64 0, .i .i64 0, .i .i64 0, .s ByteArray.empty, .i .i64 0, .i .i64 0] [] 160,
   .row true [.i .i64 1, .i .i64 1] [] 142,
   .row true [.i .i64 1, .s ByteArray.empty, .s ByteArray.empty, .b true, .i .i64 0, .sl 13 0 0 0, .sl 14 0 0 0, .s ByteArray.empty, .s ByteArray.empty, .i .i64 0, .i .i64 0, .i .i64 0, .s ByteArray.empty, .i .i64 0, .i .i64 0] [] 160,
   .row true [.i .i64 1, .s ByteArray.empty, .s ByteArray.empty, .b true, .i .i64 0, .sl 13 0 0 0, .sl 14 0 0 0, .s ByteArray.empty, .s ByteArray.empty, .i .i64 0, .i .i64 0, .i .i64 0, .s ByteArray.empty, .i .i64 0, .i .i64 0] [] 160,
   .row true [] [] 66,
   .row true [] [] 196,
   .row true [.i .i64 1, .i .i64 1] [] 142,
   .row true [.i .i64 0, .i .i64 0] [] 142,
   .row true [.i .i64 1, .i .i64 1] [] 142,
   .row true [.i .i64 0, .nsl, .b true, .i .i64 2, .s ⟨#[97]⟩, .s ⟨#[49]⟩, .b true, .s ByteArray.empty, .ni, .np, .np, .nf, .b false, .i .i64 0, .i .i64 0, .i .i64 0, .s ByteArray.empty, .s ByteArray.empty, .b false, .i .i64 0, .nsl, .b false, .i .i64 0, .i .i64 0, .s ByteArray.empty, .i .i64 0, .i .i64 0, .nsl, .i .i64 0, .i .i64 0] [] 153,
   .row true [.i .i64 2, .s ⟨#[97]⟩, .s ⟨#[49]⟩] [] 88,
   .row true [.i .i64 2, .s ⟨#[97]⟩, .s ⟨#[49]⟩] [] 88,
   .row true [.p 18 0] [] 68,
   .row true [.i .i64 2] [] 3,
   .row true [.p 18 0] [] 68,
   .row true [.i .i64 0, .b true, .b true, .i .i64 1, .i .i64 1, .i .i64 0, .i .i64 0, .sl 43 0 1 o0.n, .sl 44 0 1 o1.n, .ni] [] 280,
   .row true [.p 24 0] [] 272,
   .row true [.i .i64 1, .i .i64 1] [] 142,
   .row true [.i .i64 1, .i .i64 1] [] 142,
   .row true [.i .i64 1, .i .i64 1] [] 142,
   .row true [.i .i64 1, .i .i64 1] [] 142,
   .row true [.i .i64 1, .i .i64 1] [] 142,
   .row true [.i .i64 1, .s ByteArray.empty, .s ByteArray.empty, .b true, .i .i64 0, .sl 38 0 0 0, .sl 39 0 0 0, .s ByteArray.empty, .s ByteArray.empty, .i .i64 0, .i .i64 0, .i .i64 0, .s ByteArray.empty, .i .i64 0, .i .i64 0] [] 160,
   .row true [.i .i64 1, .s ByteArray.empty, .s ByteArray.empty, .b true, .i .i64 0, .sl 38 0 0 0, .sl 39 0 0 0, .s ByteArray.empty, .s ByteArray.empty, .i .i64 0, .i .i64 0, .i .i64 0, .s ByteArray.empty, .i .i64 0, .i .i64 0] [] 160,
   .row true [.i .i64 1, .i .i64 1] [] 142,
   .row true [.i .i64 1, .s ByteArray.empty, .s ByteArray.empty, .b true, .i .i64 0, .sl 38 0 0 0, .sl 39 0 0 0, .s ByteArray.empty, .s ByteArray.empty, .i .i64 0, .i .i64 0, .i .i64 0, .s ByteArray.empty, .i .i64 0, .i .i64 0] [] 160,
   .row true [.i .i64 1, .i .i64 1] [] 142,
   .row true [.i .i64 1, .s ByteArray.empty, .s ByteArray.empty, .b true, .i .i64 0, .sl 38 0 0 0, .sl 39 0 0 0, .s ByteArray.empty, .s ByteArray.empty, .i .i64 0, .i .i64 0, .i .i64 0, .s ByteArray.empty, .i .i64 0, .i .i64 0] [] 160,
   .row true [.i .i64 1, .s ByteArray.empty, .s ByteArray.empty, .b true, .i .i64 0, .sl 38 0 0 0, .sl 39 0 0 0, .s ByteArray.empty, .s ByteArray.empty, .i .i64 0, .i .i64 0, .i .i64 0, .s ByteArray.empty, .i .i64 0, .i .i64 0] [] 160,
   .row true [] [] 66,
   .row true [] [] 196,
   .row true [.i .i64 1, .s ByteArray.empty, .s ByteArray.empty, .b true, .i .i64 0, .sl 38 0 0 0, .sl 39 0 0 0, .s ByteArray.empty, .s ByteArray.empty, .i .i64 0, .i .i64 0, .i .i64 0, .s ByteArray.empty, .i .i64 0, .i .i64 0] [] 160,
   .row true [.i .i64 1, .s ByteArray.empty, .s ByteArray.empty, .b true, .i .i64 0, .sl 38 0 0 0, .sl 39 0 0 0, .s ByteArray.empty, .s ByteArray.empty, .i .i64 0, .i .i64 0, .i .i64 0, .s ByteArray.empty, .i .i64 0, .i .i64 0] [] 160,
   .row true [.i .i64 1, .i .i64 1] [] 142,
   .row true [.i .i64 1, .s ByteArray.empty, .s ByteArray.empty, .b true, .i .i64 0, .sl 38 0 0 0, .sl 39 0 0 0, .s ByteArray.empty, .s ByteArray.empty, .i .i64 0, .i .i64 0, .i .i64 0, .s ByteArray.empty, .i .i64 0, .i .i64 0] o0.l 160,
   .row true [.i .i64 1, .i .i64 1] o1.l 142,
   .row true [.p 24 0] [] 272,
   .row true [.i .i64 0, .i .i64 1, .i .i64 1, .sl 59 0 1 o3.n, .sl 52 0 1 o2.n, .b true, .s ByteArray.empty, .s ByteArray.empty, .b true, .i .i64 0, .nsl, .b false, .s ByteArray.empty, .s ByteArray.empty, .b false, .i .i64 0, .nsl, .b false, .i .i64 0, .i .i64 0, .s ByteArray.empty] [] 192,
   .row true [.i .i64 0, .i .i64 1, .i .i64 1, .sl 59 0 1 o3.n, .sl 52 0 1 o2.n, .b true, .s ByteArray.empty, .s ByteArray.empty, .b true, .i .i64 0, .nsl, .b false, .s ByteArray.empty, .s ByteArray.empty, .b false, .i .i64 0, .nsl, .b false, .i .i64 0, .i .i64 0, .s ByteArray.empty] [] 192,
   .row true [.i .i64 1, .i .i64 1] [] 142,
   .row true [.i .i64 0, .i .i64 1, .i .i64 1, .sl 59 0 1 o3.n, .sl 52 0 1 o2.n, .b true, .s ByteArray.empty, .s ByteArray.empty, .b true, .i .i64 0, .nsl, .b false, .s ByteArray.empty, .s ByteArray.empty, .b false, .i .i64 0, .nsl, .b false, .i .i64 0, .i .i64 0, .s ByteArray.empty] [] 192,
   .dead,
   .row true [.i .i64 0, .i .i64 1, .i .i64 1, .sl 59 0 1 o3.n, .sl 52 0 1 o2.n, .b true, .s ByteArray.empty, .s ByteArray.empty, .b true, .i .i64 0, .nsl, .b false, .s ByteArray.empty, .s ByteArray.empty, .b false, .i .i64 0, .nsl, .b false, .i .i64 0, .i .i64 0, .s ByteArray.empty] [] 192,
   .row true [.i .i64 1, .i .i64 1] o2.l 142,
   .row true [.i .i64 1, .s ByteArray.empty, .s ByteArray.empty, .b true, .i .i64 0, .sl 38 0 0 0, .sl 39 0 0 0, .s ByteArray.empty, .s ByteArray.empty, .i .i64 0, .i .i64 0, .i .i64 0, .s ByteArray.empty, .i .i64 0, .i .i64 0] [] 160,
   .row true [.i .i64 1, .s ByteArray.empty, .s ByteArray.empty, .b true, .i .i64 0, .sl 56 0 0 0, .sl 57 0 0 0, .s ByteArray.empty, .s ByteArray.empty, .i .i64 0, .i .i64 0, .i .i64 0, .s ByteArray.empty, .i .i64 0, .i .i64 0] [] 160,
   .row true [.i .i64 1, .s ByteArray.empty, .s ByteArray.empty, .b true, .i .i64 0, .sl 56 0 0 0, .sl 57 0 0 0, .s ByteArray.empty, .s ByteArray.empty, .i .i64 0, .i .i64 0, .i .i64 0, .s ByteArray.empty, .i .i64 0, .i .i64 0] [] 160,
   .row true [] [] 66,
   .row true [] [] 196,
   .row true [.i .i64 1, .s ByteArray.empty, .s ByteArray.empty, .b true, .i .i64 0, .sl 56 0 0 0, .sl 57 0 0 0, .s ByteArray.empty, .s ByteArray.empty, .i .i64 0, .i .i64 0, .i .i64 0, .s ByteArray.empty, .i .i64 0, .i .i64 0] [] 160,
   .row true [.i .i64 1, .s ByteArray.empty, .s ByteArray.empty, .b true, .i .i64 0, .sl 56 0 0 0, .sl 57 0 0 0, .s ByteArray.empty, .s ByteArray.empty, .i .i64 0, .i .i64 0, .i .i64 0, .s ByteArray.empty, .i .i64 0, .i .i64 0] o3.l 160,
   .row true [.s ByteArray.empty, .s ByteArray.empty, .b true, .i .i64 0, .nsl, .b false] [] 123,
   .row true [.i .i64 1, .s ByteArray.empty, .s ByteArray.empty, .b true, .i .i64 0, .sl 38 0 0 0, .sl 39 0 0 0, .s ByteArray.empty, .s ByteArray.empty, .i .i64 0, .i .i64 0, .i .i64 0, .s ByteArray.empty, .i .i64 0, .i .i64 0] [] 160,
   .row true [.i .i64 1, .s ByteArray.empty, .s ByteArray.empty, .b true, .i .i64 0, .sl 38 0 0 0, .sl 39 0 0 0, .s ByteArray.empty, .s ByteArray.empty, .i .i64 0, .i .i64 0, .i .i64 0, .s ByteArray.empty, .i .i64 0, .i .i64 0] [] 160,
   .row true [.s ByteArray.empty, .s ByteArray.empty, .b true, .i .i64 0, .nsl, .b false] [] 123,
   .row true [.sl 38 0 0 0] [] 27,
   .row true [.s ByteArray.empty, .s ByteArray.empty, .b true, .i .i64 0, .nsl, .b false] [] 123,
   .row true [.s ByteArray.empty, .s ByteArray.empty, .b true] [] 46,
   .row true [.s ByteArray.empty, .s ByteArray.empty, .b true] [] 46,
   .row true [.s ByteArray.empty, .s ByteArray.empty, .b true] [] 46,
   .row true [.i .i64 0] [] 3,
   .row true [.nsl] [] 27,
   .row true [.i .i64 0, .i .i64 1, .i .i64 1, .sl 59 0 1 o3.n, .sl 52 0 1 o2.n, .b true, .s ByteArray.empty, .s ByteArray.empty, .b true, .i .i64 0, .nsl, .b false, .s ByteArray.empty, .s ByteArray.empty, .b false, .i .i64 0, .nsl, .b false, .i .i64 0, .i .i64 0, .s ByteArray.empty] [] 192,
   .row true [.i .i64 20, .i .i64 4, .i .i64 2, .i .i64 4, .i .i64 4, .i .i64 99] [] 23,
   .row true [.i .i64 0, .i .i64 1, .i .i64 1, .sl 59 0 1 o3.n, .sl 52 0 1 o2.n, .b true, .s ByteArray.empty, .s ByteArray.empty, .b true, .i .i64 0, .nsl, .b false, .s ByteArray.empty, .s ByteArray.empty, .b false, .i .i64 0, .nsl, .b false, .i .i64 0, .i .i64 0, .s ByteArray.empty] [] 192,
   .row true [.i .i64 20, .i .i64 4, .i .i64 2, .i .i64 4, .i .i64 4, .i .i64 99] [] 23,
   .row true [.i .i64 0, .i .i64 1, .i .i64 1, .sl 59 0 1 o3.n, .sl 52 0 1 o2.n, .b true, .s ByteArray.empty, .s ByteArray.empty, .b true, .i .i64 0, .nsl, .b false, .s ByteArray.empty, .s ByteArray.empty, .b false, .i .i64 0, .nsl, .b false, .i .i64 0, .i .i64 0, .s ByteArray.empty] [] 192,
   .row true [.i .i64 20, .i .i64 4, .i .i64 2, .i .i64 4, .i .i64 4, .i .i64 99] [] 23,
   .row true [.i .i64 10, .i .i64 0, .s ByteArray.empty, .i .i64 0, .i .i64 0, .i .i64 0, .s ByteArray.empty] [] 282,
   .row true [.i .i64 0, .i .i64 1, .i .i64 1, .sl 59 0 1 o3.n, .sl 52 0 1 o2.n, .b true, .s ByteArray.empty, .s ByteArray.empty, .b true, .i .i64 0, .nsl, .b false, .s ByteArray.empty, .s ByteArray.empty, .b false, .i .i64 0, .nsl, .b false, .i .i64 0, .i .i64 0, .s ByteArray.empty] [] 192,
   .row true [.b false, .i .i64 0, .i .i64 0, .i .i64 0, .s ByteArray.empty, .s ByteArray.empty, .b false, .i .i64 0, .nsl, .b false, .i .i64 0, .i .i64 0, .s ByteArray.empty] [] 149,
   .row true [.i .i64 20, .i .i64 4, .i .i64 2, .i .i64 4, .i .i64 4, .i .i64 99] [] 23,
   .row true [.i .i64 10, .i .i64 0, .s ByteArray.empty, .i .i64 0, .i .i64 0, .i .i64 0, .s ByteArray.empty] [] 282,
   .row true [.i .i64 0, .i .i64 1, .i .i64 1, .sl 59 0 1 o3.n, .sl 52 0 1 o2.n, .b true, .s ByteArray.empty, .s ByteArray.empty, .b true, .i .i64 0, .nsl, .b false, .s ByteArray.empty, .s ByteArray.empty, .b false, .i .i64 0, .nsl, .b false, .i .i64 0, .i .i64 0, .s ByteArray.empty] [] 192,
   .row true [.i .i64 0, .i .i64 1, .i .i64 1, .sl 59 0 1 o3.n, .sl 52 0 1 o2.n, .b true, .s ByteArray.empty, .s ByteArray.empty, .b true, .i .i64 0, .nsl, .b false, .s ByteArray.empty, .s ByteArray.empty, .b false, .i .i64 0, .nsl, .b false, .i .i64 0, .i .i64 0, .s ByteArray.empty] [] 192,
   .row true [.i .i64 0, .i .i64 1, .i .i64 1, .sl 59 0 1 o3.n, .sl 52 0 1 o2.n, .b true, .s ByteArray.empty, .s ByteArray.empty, .b true, .i .i64 0, .nsl, .b false, .s ByteArray.empty, .s ByteArray.empty, .b false, .i .i64 0, .nsl, .b false, .i .i64 0, .i .i64 0, .s ByteArray.empty] [] 192,
   .row true [.b false, .i .i64 0, .i .i64 0, .i .i64 0, .s ByteArray.empty, .s ByteArray.empty, .b false, .i .i64 0, .nsl, .b false, .i .i64 0, .i .i64 0, .s ByteArray.empty] [] 149,
   .row true [.i .i64 20, .i .i64 4, .i .i64 2, .i .i64 4, .i .i64 4, .i .i64 99] [] 23,
   .row true [.i .i64 0, .i .i64 0, .s ByteArray.empty, .i .i64 0, .i .i64 0, .i .i64 0, .s ByteArray.empty] [] 282,
   .row true [.i .i64 0, .i .i64 1, .i .i64 1, .sl 59 0 1 o3.n, .sl 52 0 1 o2.n, .b true, .s ByteArray.empty, .s ByteArray.empty, .b true, .i .i64 0, .nsl, .b false, .s ByteArray.empty, .s ByteArray.empty, .b false, .i .i64 0, .nsl, .b false, .i .i64 0, .i .i64 0, .s ByteArray.empty] [] 192,
   .row true [.i .i64 0, .i .i64 1, .i .i64 1, .sl 59 0 1 o3.n, .sl 52 0 1 o2.n, .b true, .s ByteArray.empty, .s ByteArray.empty, .b true, .i .i64 0, .nsl, .b false, .s ByteArray.empty, .s ByteArray.empty, .b false, .i .i64 0, .nsl, .b false, .i .i64 0, .i .i64 0, .s ByteArray.empty] [] 192,
   .row true [.i .i64 0, .i .i64 1, .i .i64 1, .sl 59 0 1 o3.n, .sl 52 0 1 o2.n, .b true, .s ByteArray.empty, .s ByteArray.empty, .b true, .i .i64 0, .nsl, .b false, .s ByteArray.empty, .s ByteArray.empty, .b false, .i .i64 0, .nsl, .b false, .i .i64 0, .i .i64 0, .s ByteArray.empty] [] 192,
   .row true [.i .i64 0, .i .i64 0, .s ByteArray.empty, .i .i64 0, .i .i64 0, .i .i64 0, .s ByteArray.empty] [] 282,
   .row true [.i .i64 10, .i .i64 0, .s ByteArray.empty, .i .i64 0, .i .i64 0, .i .i64 0, .s ByteArray.empty] [] 282,
   .row true [.p 18 0] [] 68,
   .row true [.i .i64 0, .i .i64 1, .i .i64 1, .sl 59 0 1 o3.n, .sl 52 0 1 o2.n, .b true, .s ByteArray.empty, .s ByteArray.empty, .b true, .i .i64 0, .nsl, .b false, .s ByteArray.empty, .s ByteArray.empty, .b false, .i .i64 0, .nsl, .b false, .i .i64 0, .i .i64 0, .s ByteArray.empty] [] 192,
   .row true [.i .i64 2, .s ByteArray.empty, .s ByteArray.empty, .b false, .i .i64 0, .nsl, .nsl, .s ⟨#[97]⟩, .s ⟨#[49]⟩, .i .i64 0, .i .i64 0, .i .i64 0, .s ByteArray.empty, .i .i64 0, .i .i64 0] [] 160,
   .row true [.s ByteArray.empty, .ni] [] 106,
   .row true [.i .i64 1, .i .i64 1] [] 142,
   .row true [.i .i64 2, .s ByteArray.empty, .s ByteArray.empty, .b false, .i .i64 0, .nsl, .nsl, .s ⟨#[97]⟩, .s ⟨#[49]⟩, .i .i64 0, .i .i64 0, .i .i64 0, .s ByteArray.empty, .i .i64 1, .i .i64 1] [] 160,
   .row true [.i .i64 0, .i .i64 1, .i .i64 1, .i .i64 0, .fn 230 [.p 98 0]] [] 294,
   .row true [.p 18 0] [] 68,
   .row true [.i .i64 0, .i .i64 1, .i .i64 1, .i .i64 0, .fn 230 [.p 98 0]] [] 294,
   .row true [.fn 210 [.p 93 0, .p 96 0]] [] 296,
   .row true [.i .i64 0, .i .i64 1, .i .i64 1, .i .i64 0, .fn 230 [.p 98 0]] [] 294,
   .row true [.i .i64 0, .i .i64 1, .i .i64 1, .i .i64 0, .fn 230 [.p 98 0], .i .i64 7, .nsl, .nsl, .i .i64 2, .s ByteArray.empty, .s ByteArray.empty, .b false, .i .i64 0, .nsl, .nsl, .s ⟨#[97]⟩, .s ⟨#[49]⟩, .i .i64 0, .i .i64 0, .i .i64 0, .s ByteArray.empty, .i .i64 1, .i .i64 1, .sl 121 0 1 o4.n, .i .i64 0, .b true, .ni] [] 337,
   .row true [] [] 3,
   .row true [.i .i64 2, .s ByteArray.empty, .s ByteArray.empty, .b false, .i .i64 0, .nsl, .nsl, .s ⟨#[97]⟩, .s ⟨#[49]⟩, .i .i64 0, .i .i64 0, .i .i64 0, .s ByteArray.empty, .i .i64 1, .i .i64 1] [] 160,
   .row true [.i .i64 2, .s ByteArray.empty, .s ByteArray.empty, .b false, .i .i64 0, .nsl, .nsl, .s ⟨#[97]⟩, .s ⟨#[49]⟩, .i .i64 0, .i .i64 0, .i .i64 0, .s ByteArray.empty, .i .i64 1, .i .i64 1] [] 160,
   .row true [.p 104 0] [] 318,
   .row true [.i .i64 2, .s ByteArray.empty, .s ByteArray.empty, .b false, .i .i64 0, .nsl, .nsl, .s ⟨#[97]⟩, .s ⟨#[49]⟩, .i .i64 0, .i .i64 0, .i .i64 0, .s ByteArray.empty, .i .i64 1, .i .i64 1] [] 160,
   .row true [.i .i64 2, .s ByteArray.empty, .s ByteArray.empty, .b false, .i .i64 0, .nsl, .nsl, .s ⟨#[97]⟩, .s ⟨#[49]⟩, .i .i64 0, .i .i64 0, .i .i64 0, .s ByteArray.empty, .i .i64 1, .i .i64 1] [] 160,
   .row true [.i .i64 2, .i .i64 1] [] 142,
   .row true [.i .i64 2, .i .i64 1] [] 142,
   .row true [.i .i64 2, .s ByteArray.empty, .s ByteArray.empty, .b false, .i .i64 0, .nsl, .nsl, .s ⟨#[97]⟩, .s ⟨#[49]⟩, .i .i64 0, .i .i64 0, .i .i64 0, .s ByteArray.empty, .i .i64 1, .i .i64 1] [] 160,
   .row true [.i .i64 2, .i .i64 1] [] 142,
   .row true [.i .i64 2, .s ByteArray.empty, .s ByteArray.empty, .b false, .i .i64 0, .sl 117 0 0 0, .sl 118 0 0 0, .s ⟨#[97]⟩, .s ⟨#[49]⟩, .i .i64 0, .i .i64 0, .i .i64 0, .s ByteArray.empty, .i .i64 1, .i .i64 1] [] 160,
   .row true [.i .i64 2, .s ByteArray.empty, .s ByteArray.empty, .b false, .i .i64 0, .sl 117 0 0 0, .sl 118 0 0 0, .s ⟨#[97]⟩, .s ⟨#[49]⟩, .i .i64 0, .i .i64 0, .i .i64 0, .s ByteArray.empty, .i .i64 1, .i .i64 1] [] 160,
   .row true [] [] 66,
   .row true [] [] 196,
   .row true [.i .i64 2, .i .i64 1] [] 142,
   .row true [.i .i64 2, .i .i64 1] [] 142,
   .row true [.i .i64 2, .i .i64 1] o4.l 142,
   .row true [.i .i64 1, .i .i64 1] [] 142,
   .row true [.i .i64 2, .i .i64 1] [] 142,
   .row true [.i .i64 1, .i .i64 1] [] 142,
   .row true [.i .i64 2, .i .i64 1] [] 142,
   .row true [.p 18 0] [] 68,
   .row true [.s ByteArray.empty, .ni] [] 106,
   .row true [.s ByteArray.empty, .ni] [] 106,
   .row true [.b true, .i .i64 2, .i .i64 1] [] 233,
   .row true [.i .i64 0] [] 3,
   .row true [.i .i64 0] o5.l 3,
   .row true [.b false, .i .i64 0, .i .i64 0] [] 233,
   .row true [.b false, .i .i64 0, .i .i64 0] [] 233,
   .row true [.b false, .i .i64 0, .i .i64 0] [] 233,
   .row true [.i .i64 2, .i .i64 1] [] 142,
   .row true [.i .i64 0, .i .i64 0] [] 142,
   .row true [.i .i64 2, .s ByteArray.empty, .s ByteArray.empty, .b false, .i .i64 0, .sl 143 0 0 0, .sl 144 0 0 0, .s ⟨#[97]⟩, .s ⟨#[49]⟩, .i .i64 0, .i .i64 0, .i .i64 0, .s ByteArray.empty, .i .i64 1, .i .i64 1] [] 160,
   .row true [.i .i64 2, .i .i64 1] [] 142,
   .row true [.i .i64 2, .s ByteArray.empty, .s ByteArray.empty, .b false, .i .i64 0, .sl 143 0 0 0, .sl 144 0 0 0, .s ⟨#[97]⟩, .s ⟨#[49]⟩, .i .i64 0, .i .i64 0, .i .i64 0, .s ByteArray.empty, .i .i64 1, .i .i64 1] [] 160,
   .row true [.i .i64 2, .i .i64 1] [] 142,
   .row true [.i .i64 2, .s ByteArray.empty, .s ByteArray.empty, .b false, .i .i64 0, .sl 143 0 0 0, .sl 144 0 0 0, .s ⟨#[97]⟩, .s ⟨#[49]⟩, .i .i64 0, .i .i64 0, .i .i64 0, .s ByteArray.empty, .i .i64 1, .i .i64 1] [] 160,
   .row true [.i .i64 2, .s ByteArray.empty, .s ByteArray.empty, .b false, .i .i64 0, .sl 143 0 0 0, .sl 144 0 0 0, .s ⟨#[97]⟩, .s ⟨#[49]⟩, .i .i64 0, .i .i64 0, .i .i64 0, .s ByteArray.empty, .i .i64 1, .i .i64 1] [] 160,
   .row true [] [] 66,
   .row true [] [] 196,
   .row true [.i .i64 2, .s ByteArray.empty, .s ByteArray.empty, .b false, .i .i64 0, .sl 143 0 0 0, .sl 144 0 0 0, .s ⟨#[97]⟩, .s ⟨#[49]⟩, .i .i64 0, .i .i64 0, .i .i64 0, .s ByteArray.empty, .i .i64 1, .i .i64 1] [] 160,
   .row true [.i .i64 2, .i .i64 1] [] 142,
   .dead,
   .dead,
   .row true [.i .i64 1, .s ByteArray.empty, .s ByteArray.empty, .b true, .i .i64 0, .sl 155 0 0 0, .sl 156 0 0 0, .s ByteArray.empty, .s ByteArray.empty, .i .i64 0, .i .i64 0, .i .i64 0, .s ByteArray.empty, .i .i64 0, .i .i64 0] [] 160,
   .row true [.i .i64 1, .i .i64 1] [] 142,
   .row true [.i .i64 1, .s ByteArray.empty, .s ByteArray.empty, .b true, .i .i64 0, .sl 155 0 0 0, .sl 156 0 0 0, .s ByteArray.empty, .s ByteArray.empty, .i .i64 0, .i .i64 0, .i .i64 0, .s ByteArray.empty, .i .i64 0, .i .i64 0] [] 160,
   .row true [.i .i64 1, .i .i64 1] [] 142,
   .row true [.i .i64 1, .s ByteArray.empty, .s ByteArray.empty, .b true, .i .i64 0, .sl 155 0 0 0, .sl 156 0 0 0, .s ByteArray.empty, .s ByteArray.empty, .i .i64 0, .i .i64 0, .i .i64 0, .s ByteArray.empty, .i .i64 0, .i .i64 0] [] 160,
   .row true [.i .i64 1, .s ByteArray.empty, .s ByteArray.empty, .b true, .i .i64 0, .sl 155 0 0 0, .sl 156 0 0 0, .s ByteArray.empty, .s ByteArray.empty, .i .i64 0, .i .i64 0, .i .i64 0, .s ByteArray.empty, .i .i64 0, .i .i64 0] [] 160,
   .row true [] [] 66,
   .row true [] [] 196,
   .row true [.i .i64 1, .s ByteArray.empty, .s ByteArray.empty, .b true, .i .i64 0, .sl 155 0 0 0, .sl 156 0 0 0, .s ByteArray.empty, .s ByteArray.empty, .i .i64 0, .i .i64 0, .i .i64 0, .s ByteArray.empty, .i .i64 0, .i .i64 0] [] 160,
   .row true [.i .i64 1, .i .i64 1] [] 142,
   .row true [.i .i64 2, .s ByteArray.empty, .s ByteArray.empty, .b false, .i .i64 0, .sl 143 0 0 0, .sl 144 0 0 0, .s ⟨#[97]⟩, .s ⟨#[49]⟩, .i .i64 0, .i .i64 0, .i .i64 0, .s ByteArray.empty, .i .i64 1, .i .i64 1, .i .i64 1, .s ByteArray.empty, .s ByteArray.empty, .b true, .i .i64 0, .sl 155 0 0 0, .sl 156 0 0 0, .s ByteArray.empty, .s ByteArray.empty, .i .i64 0, .i .i64 0, .i .i64 0, .s ByteArray.empty, .i .i64 0, .i .i64 0] o8.l 160,
   .row true [.i .i64 2, .i .i64 1, .i .i64 1, .i .i64 1] o9.l 142,
   .row true [.i .i64 0, .i .i64 0] [] 142,
   .row true [.i .i64 0, .i .i64 0, .i .i64 0, .sl 179 0 2 o12.n, .sl 165 0 2 o10.n, .b true, .s ByteArray.empty, .s ByteArray.empty, .b true, .i .i64 0, .sl 199 0 1 o13.n, .b false, .s ByteArray.empty, .s ByteArray.empty, .b false, .i .i64 0, .nsl, .b false, .i .i64 0, .i .i64 0, .s ByteArray.empty] [] 192,
   .dead,
   .row true [.i .i64 0, .i .i64 0, .i .i64 0, .sl 179 0 2 o12.n, .sl 165 0 2 o10.n, .b true, .s ByteArray.empty, .s ByteArray.empty, .b true, .i .i64 0, .sl 199 0 1 o13.n, .b false, .s ByteArray.empty, .s ByteArray.empty, .b false, .i .i64 0, .nsl, .b false, .i .i64 0, .i .i64 0, .s ByteArray.empty] [] 192,
   .row true [.i .i64 2, .i .i64 1, .i .i64 1, .i .i64 1] o10.l 142,
   .row true [.i .i64 2, .s ByteArray.empty, .s ByteArray.empty, .b false, .i .i64 0, .sl 143 0 0 0, .sl 144 0 0 0, .s ⟨#[97]⟩, .s ⟨#[49]⟩, .i .i64 0, .i .i64 0, .i .i64 0, .s ByteArray.empty, .i .i64 1, .i .i64 1] [] 160,
   .row true [.i .i64 2, .s ByteArray.empty, .s ByteArray.empty, .b false, .i .i64 0, .sl 169 0 0 0, .sl 170 0 0 0, .s ⟨#[97]⟩, .s ⟨#[49]⟩, .i .i64 0, .i .i64 0, .i .i64 0, .s ByteArray.empty, .i .i64 1, .i .i64 1] [] 160,
   .row true [.i .i64 2, .s ByteArray.empty, .s ByteArray.empty, .b false, .i .i64 0, .sl 169 0 0 0, .sl 170 0 0 0, .s ⟨#[97]⟩, .s ⟨#[49]⟩, .i .i64 0, .i .i64 0, .i .i64 0, .s ByteArray.empty, .i .i64 1, .i .i64 1] [] 160,
   .row true [] [] 66,
   .row true [] [] 196,
   .row true [.i .i64 2, .s ByteArray.empty, .s ByteArray.empty, .b false, .i .i64 0, .sl 169 0 0 0, .sl 170 0 0 0, .s ⟨#[97]⟩, .s ⟨#[49]⟩, .i .i64 0, .i .i64 0, .i .i64 0, .s ByteArray.empty, .i .i64 1, .i .i64 1] [] 160,
   .dead,
   .row true [.i .i64 1, .s ByteArray.empty, .s ByteArray.empty, .b true, .i .i64 0, .sl 155 0 0 0, .sl 156 0 0 0, .s ByteArray.empty, .s ByteArray.empty, .i .i64 0, .i .i64 0, .i .i64 0, .s ByteArray.empty, .i .i64 0, .i .i64 0] [] 160,
   .row true [.i .i64 1, .s ByteArray.empty, .s ByteArray.empty, .b true, .i .i64 0, .sl 176 0 0 0, .sl 177 0 0 0, .s ByteArray.empty, .s ByteArray.empty, .i .i64 0, .i .i64 0, .i .i64 0, .s ByteArray.empty, .i .i64 0, .i .i64 0] [] 160,
   .row true [.i .i64 1, .s ByteArray.empty, .s ByteArray.empty, .b true, .i .i64 0, .sl 176 0 0 0, .sl 177 0 0 0, .s ByteArray.empty, .s ByteArray.empty, .i .i64 0, .i .i64 0, .i .i64 0, .s ByteArray.empty, .i .i64 0, .i .i64 0] [] 160,
   .row true [] [] 66,
   .row true [] [] 196,
   .row true [.i .i64 1, .s ByteArray.empty, .s ByteArray.empty, .b true, .i .i64 0, .sl 176 0 0 0, .sl 177 0 0 0, .s ByteArray.empty, .s ByteArray.empty, .i .i64 0, .i .i64 0, .i .i64 0, .s ByteArray.empty, .i .i64 0, .i .i64 0] [] 160,
   .row true [.i .i64 2, .s ByteArray.empty, .s ByteArray.empty, .b false, .i .i64 0, .sl 169 0 0 0, .sl 170 0 0 0, .s ⟨#[97]⟩, .s ⟨#[49]⟩, .i .i64 0, .i .i64 0, .i .i64 0, .s ByteArray.empty, .i .i64 1, .i .i64 1, .i .i64 1, .s ByteArray.empty, .s ByteArray.empty, .b true, .i .i64 0, .sl 176 0 0 0, .sl 177 0 0 0, .s ByteArray.empty, .s ByteArray.empty, .i .i64 0, .i .i64 0, .i .i64 0, .s ByteArray.empty, .i .i64 0, .i .i64 0] o12.l 160,
   .row true [.s ByteArray.empty, .s ByteArray.empty, .b true, .i .i64 0, .sl 199 0 1 o13.n, .b false] [] 123,
   .row true [.i .i64 2, .s ByteArray.empty, .s ByteArray.empty, .b false, .i .i64 0, .sl 143 0 0 0, .sl 144 0 0 0, .s ⟨#[97]⟩, .s ⟨#[49]⟩, .i .i64 0, .i .i64 0, .i .i64 0, .s ByteArray.empty, .i .i64 1, .i .i64 1] [] 160,
   .row true [.i .i64 1, .s ByteArray.empty, .s ByteArray.empty, .b true, .i .i64 0, .sl 155 0 0 0, .sl 156 0 0 0, .s ByteArray.empty, .s ByteArray.empty, .i .i64 0, .i .i64 0, .i .i64 0, .s ByteArray.empty, .i .i64 0, .i .i64 0] [] 160,
   .row true [.i .i64 1, .s ByteArray.empty, .s ByteArray.empty, .b true, .i .i64 0, .sl 155 0 0 0, .sl 156 0 0 0, .s ByteArray.empty, .s ByteArray.empty, .i .i64 0, .i .i64 0, .i .i64 0, .s ByteArray.empty, .i .i64 0, .i .i64 0] [] 160,
   .row true [.s ByteArray.empty, .s ByteArray.empty, .b true, .i .i64 0, .sl 199 0 1 o13.n, .b false] [] 123,
   .row true [.sl 155 0 0 0] [] 27,
   .row true [.s ByteArray.empty, .s ByteArray.empty, .b true, .i .i64 0, .nsl, .b false] [] 123,
   .row true [.s ByteArray.empty, .s ByteArray.empty, .b true] [] 46,
   .row true [.s ByteArray.empty, .s ByteArray.empty, .b true] [] 46,
   .row true [.s ByteArray.empty, .s ByteArray.empty, .b true] [] 46,
   .row true [.i .i64 0] [] 3,
   .row true [.nsl] [] 27,
   .row true [.s ByteArray.empty, .s ByteArray.empty, .b true, .i .i64 0, .sl 199 0 1 o13.n, .b false] [] 123,
   .row true [.i .i64 2, .s ByteArray.empty, .s ByteArray.empty, .b false, .i .i64 0, .sl 143 0 0 0, .sl 144 0 0 0, .s ⟨#[97]⟩, .s ⟨#[49]⟩, .i .i64 0, .i .i64 0, .i .i64 0, .s ByteArray.empty, .i .i64 1, .i .i64 1] [] 160,
   .row true [.s ByteArray.empty, .s ByteArray.empty, .b true, .i .i64 0, .sl 199 0 1 o13.n, .b false] [] 123,
   .row true [.s ⟨#[97]⟩, .s ⟨#[49]⟩] [] 66,
   .row true [.s ⟨#[97]⟩, .s ⟨#[49]⟩] [] 66,
   .row true [.s ⟨#[97]⟩, .s ⟨#[49]⟩] [] 66,
   .row true [.nsl, .sl 197 0 1 1, .nsl] [] 27,
   .row true [.s ⟨#[97]⟩, .s ⟨#[49]⟩] o13.l 66,
   .row true [.s ByteArray.empty, .s ByteArray.empty, .b true, .i .i64 0, .sl 199 0 1 o13.n, .b false] [] 123,
   .row true [.i .i64 0, .i .i64 0, .i .i64 0, .sl 179 0 2 o12.n, .sl 165 0 2 o10.n, .b true, .s ByteArray.empty, .s ByteArray.empty, .b true, .i .i64 0, .sl 199 0 1 o13.n, .b false, .s ByteArray.empty, .s ByteArray.empty, .b false, .i .i64 0, .nsl, .b false, .i .i64 0, .i .i64 0, .s ByteArray.empty] [] 192,
   .row true [.b true, .i .i64 2, .i .i64 1] [] 233,
   .row true [.i .i64 0] [] 3,
   .row true [.i .i64 0] o14.l 3,
   .row true [.b false, .i .i64 0, .i .i64 0] [] 233,
   .row true [.b false, .i .i64 0, .i .i64 0] [] 233,
   .row true [.b false, .i .i64 0, .i .i64 0] [] 233,
   .row true [.i .i64 0, .i .i64 0] [] 142]⟩
theorem hdL2 (o0 o1 o2 o3 o4 o5 o6 o7 o8 o9 o10 o11 o12 o13 o14 : Orc) : run Pr (fun _ => false) hdC2 [o5, o6, o7, o8, o9, o10, o11, o12, o13, o14] (hdS2 o0 o1 o2 o3 o4) =
    some ([.eq false false, .app 0 0 0 1 1 8 1 o5.l.length o5.n, .eq true true, .eq true true, .app 0 0 0 15 1 192 15 o6.l.length o6.n, .app 0 0 0 2 1 16 2 o7.l.length o7.n, .eq true true, .eq true true, .app 1 o6.n (15 + o6.l.length) 15 2 192 30 o8.l.length o8.n, .app 1 o7.n (2 + o7.l.length) 2 2 16 4 o9.l.length o9.n, .app 0 0 0 2 2 16 4 o10.l.length o10.n, .eq true true, .eq true true, .app 0 0 0 15 1 192 15 o11.l.length o11.n, .eq true true, .eq true true, .app 1 o11.n (15 + o11.l.length) 15 2 192 30 o12.l.length o12.n, .app 0 0 0 2 1 32 2 o13.l.length o13.n, .eq false false, .eq (Nat.ble 1 o13.n) true, .app 0 0 0 1 1 8 1 o14.l.length o14.n], .at (hdS3 o0 o1 o2 o3 o4 o5 o6 o7 o8 o9 o10 o11 o12 o13 o14)) := by kernel_rfl
def hdC3 : List Cmd := [.seg [true, true], .app false, .seg [], .app false, .seg [true, true], .app false, .seg [], .app false, .seg [], .app false, .seg [true, false], .app false, .seg []]
theorem hdL3 (o0 o1 o2 o3 o4 o5 o6 o7 o8 o9 o10 o11 o12 o13 o14 o15 o16 o17 o18 o19 o20 : Orc) : runV (run Pr (fun _ => false) hdC3 [o15, o16, o17, o18, o19, o20] (hdS3 o0 o1 o2 o3 o4 o5 o6 o7 o8 o9 o10 o11 o12 o13 o14)) =
    some ([.eq true true, .eq true true, .app 0 0 0 15 1 192 15 o15.l.length o15.n, .app 0 0 0 2 1 16 2 o16.l.length o16.n, .eq true true, .eq true true, .app 1 o15.n (15 + o15.l.length) 15 2 192 30 o17.l.length o17.n, .app 1 o16.n (2 + o16.l.length) 2 2 16 4 o18.l.length o18.n, .app 0 0 0 2 1 32 2 o19.l.length o19.n, .eq false false, .eq (Nat.ble 1 o19.n) true, .app 0 0 0 2 1 32 2 o20.l.length o20.n], .b true) := by kernel_rfl
noncomputable abbrev Chd (w : World) : Ctx := { P := Pr, hm := rmix, f0 := 17, ρ0 := fun _ => none, w0 := w, Q := fun x _ _ => ∃ v, (∀ ρ, x.den ρ = some v) ∧ v = .bool true }
theorem hd_calls (w : World) : Calls Pr 17 #[] w fun e w' => ∃ v, e = .returned v ∧ Quiet w w' ∧ v = .bool true := by
  refine quiet_of_wps (args := []) (vs := []) rmix (enters_of hd0) rfl ?_
  show WPs (Chd w) _ hdS0
  refine WPs.runs (C := Chd w) (fun _ => false) hdC0 fun os hos => ?_
  replace hos : os.length = 4 := hos
  obtain ⟨o0, os, rfl, hos0x0⟩ := orcs_succ hos
  obtain ⟨o1, os, rfl, hos0x1⟩ := orcs_succ hos0x0
  obtain ⟨o2, os, rfl, hos0x2⟩ := orcs_succ hos0x1
  obtain ⟨o3, os, rfl, hos0x3⟩ := orcs_succ hos0x2
  obtain rfl := orcs0 hos0x3
  refine ⟨_, _, hdL0 o0 o1 o2 o3, ?_⟩
  refine ⟨rfl, ?_⟩
  refine ⟨rfl, ?_⟩
  refine ⟨rfl, ?_⟩
  refine ⟨rfl, ?_⟩
  refine ⟨rfl, ?_⟩
  refine ⟨by omega, fun a0 b0 => ?_⟩
  refine ⟨by omega, fun a1 b1 => ?_⟩
  refine ⟨by omega, fun a2 b2 => ?_⟩
  refine ⟨rfl, ?_⟩
  refine ⟨rfl, ?_⟩
  refine ⟨by omega, fun a3 b3 => ?_⟩
  show WPs (Chd w) _ (hdS1 o0 o1 o2 o3)
  refine WPs.runs (C := Chd w) (fun _ => false) hdC1 fun os hos => ?_
  replace hos : os.length = 1 := hos
  obtain ⟨o4, os, rfl, hos1x0⟩ := orcs_succ hos
  obtain rfl := orcs0 hos1x0
  refine ⟨_, _, hdL1 o0 o1 o2 o3 o4, ?_⟩
  refine ⟨rfl, ?_⟩
  refine ⟨rfl, ?_⟩
  refine ⟨rfl, ?_⟩
  refine ⟨rfl, ?_⟩
  refine ⟨by omega, fun a4 b4 => ?_⟩
  show WPs (Chd w) _ (hdS2 o0 o1 o2 o3 o4)
  refine WPs.runs (C := Chd w) (fun _ => false) hdC2 fun os hos => ?_
  replace hos : os.length = 10 := hos
  obtain ⟨o5, os, rfl, hos2x0⟩ := orcs_succ hos
  obtain ⟨o6, os, rfl, hos2x1⟩ := orcs_succ hos2x0
  obtain ⟨o7, os, rfl, hos2x2⟩ := orcs_succ hos2x1
  obtain ⟨o8, os, rfl, hos2x3⟩ := orcs_succ hos2x2
  obtain ⟨o9, os, rfl, hos2x4⟩ := orcs_succ hos2x3
  obtain ⟨o10, os, rfl, hos2x5⟩ := orcs_succ hos2x4
  obtain ⟨o11, os, rfl, hos2x6⟩ := orcs_succ hos2x5
  obtain ⟨o12, os, rfl, hos2x7⟩ := orcs_succ hos2x6
  obtain ⟨o13, os, rfl, hos2x8⟩ := orcs_succ hos2x7
  obtain ⟨o14, os, rfl, hos2x9⟩ := orcs_succ hos2x8
  obtain rfl := orcs0 hos2x9
  refine ⟨_, _, hdL2 o0 o1 o2 o3 o4 o5 o6 o7 o8 o9 o10 o11 o12 o13 o14, ?_⟩
  refine ⟨rfl, ?_⟩
  refine ⟨by omega, fun a5 b5 => ?_⟩
  refine ⟨rfl, ?_⟩
  refine ⟨rfl, ?_⟩
  refine ⟨by omega, fun a6 b6 => ?_⟩
  refine ⟨by omega, fun a7 b7 => ?_⟩
  refine ⟨rfl, ?_⟩
  refine ⟨rfl, ?_⟩
  refine ⟨by omega, fun a8 b8 => ?_⟩
  refine ⟨by omega, fun a9 b9 => ?_⟩
  refine ⟨by omega, fun a10 b10 => ?_⟩
  refine ⟨rfl, ?_⟩
  refine ⟨rfl, ?_⟩
  refine ⟨by omega, fun a11 b11 => ?_⟩
  refine ⟨rfl, ?_⟩
  refine ⟨rfl, ?_⟩
  refine ⟨by omega, fun a12 b12 => ?_⟩
  refine ⟨by omega, fun a13 b13 => ?_⟩
  refine ⟨rfl, ?_⟩
  refine ⟨Nat.ble_eq_true_of_le (by omega), ?_⟩
  refine ⟨by omega, fun a14 b14 => ?_⟩
  show WPs (Chd w) _ (hdS3 o0 o1 o2 o3 o4 o5 o6 o7 o8 o9 o10 o11 o12 o13 o14)
  refine WPs.runs (C := Chd w) (fun _ => false) hdC3 fun os hos => ?_
  replace hos : os.length = 6 := hos
  obtain ⟨o15, os, rfl, hos3x0⟩ := orcs_succ hos
  obtain ⟨o16, os, rfl, hos3x1⟩ := orcs_succ hos3x0
  obtain ⟨o17, os, rfl, hos3x2⟩ := orcs_succ hos3x1
  obtain ⟨o18, os, rfl, hos3x3⟩ := orcs_succ hos3x2
  obtain ⟨o19, os, rfl, hos3x4⟩ := orcs_succ hos3x3
  obtain ⟨o20, os, rfl, hos3x5⟩ := orcs_succ hos3x4
  obtain rfl := orcs0 hos3x5
  obtain ⟨H, h⟩ := runV_of (hdL3 o0 o1 o2 o3 o4 o5 o6 o7 o8 o9 o10 o11 o12 o13 o14 o15 o16 o17 o18 o19 o20)
  refine ⟨_, _, h, ?_⟩
  refine ⟨rfl, ?_⟩
  refine ⟨rfl, ?_⟩
  refine ⟨by omega, fun a15 b15 => ?_⟩
  refine ⟨by omega, fun a16 b16 => ?_⟩
  refine ⟨rfl, ?_⟩
  refine ⟨rfl, ?_⟩
  refine ⟨by omega, fun a17 b17 => ?_⟩
  refine ⟨by omega, fun a18 b18 => ?_⟩
  refine ⟨by omega, fun a19 b19 => ?_⟩
  refine ⟨rfl, ?_⟩
  refine ⟨Nat.ble_eq_true_of_le (by omega), ?_⟩
  refine ⟨by omega, fun a20 b20 => ?_⟩
  exact ⟨_, fun ρ => rfl, rfl⟩
end Go.Rl.Z
