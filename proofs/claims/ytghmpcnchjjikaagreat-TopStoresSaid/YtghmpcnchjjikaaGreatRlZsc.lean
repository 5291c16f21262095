/-
  What looks through slots, or pages, of which the first one alone is used: mapping.Table.Pages and arena.Arena.Live.
-/
import Derived.Test.YtghmpcnchjjikaaGreatRlZcm
set_option linter.all false
set_option linter.unusedVariables false
set_option linter.unusedSimpArgs false
set_option linter.unnecessarySimpa false
open Go Go.Rl
namespace Go.Rl.Z
set_option maxRecDepth 100000

theorem zero_take {n sz i : Nat} {zs : List Value} (hz : zs.length = sz) (hi : i < n) :
    ((((List.range (n * sz)).map fun k => zs.getD (k % sz) default)).drop (i * sz)).take sz = zs := by
  have hle : i * sz + sz ≤ n * sz := by
    have := Nat.mul_le_mul_right sz (show i + 1 ≤ n by omega)
    rw [Nat.add_mul] at this
    omega
  apply List.ext_getElem?
  intro k
  rw [List.getElem?_take]
  split
  · rename_i hk
    rw [List.getElem?_drop, List.getElem?_map, List.getElem?_range (by omega)]
    simp only [Option.map_some]
    have : (i * sz + k) % sz = k := by
      rw [Nat.add_comm, Nat.add_mul_mod_self_right]
      exact Nat.mod_eq_of_lt hk
    rw [this, List.getElem?_eq_getElem (by omega)]
    simp [List.getD, List.getElem?_eq_getElem (show k < zs.length by omega)]
  · rw [List.getElem?_eq_none (by omega)]

theorem row_take {n sz i : Nat} {zs vs rest : List Value} (hz : zs.length = sz) (hv : vs.length = sz) (hr : rest = ((List.range (n * sz)).map fun k => zs.getD (k % sz) default).drop (1 * sz)) (h1 : 1 ≤ i) (hi : i < n) :
    ((vs ++ rest).drop (i * sz)).take sz = zs := by
  have h2 : sz ≤ i * sz := Nat.le_mul_of_pos_left sz h1
  rw [List.drop_append, List.drop_eq_nil_of_le (by omega), List.nil_append, hr, List.drop_drop]
  have : 1 * sz + (i * sz - vs.length) = i * sz := by omega
  rw [this]
  exact zero_take hz hi

/-! ### Pages -/
section
variable (am pb : Addr) (nb : Nat)
noncomputable def gS0 : SS := sOf Pr 107 [.v (.pointer (some am))] []
noncomputable def gS1 : SS := (adv Pr noSt 100000 [] [] (gS0 am)).st
noncomputable def gS2 : SS := (adv Pr noSt 100000 [] [] (behind (gS1 am) (.v (.slice (some pb) nb nb)) (gS1 am).heap)).st
def keepG : List Nat := classes 26 [3, 11, 12, 14] [13]
noncomputable def gH0 (j : Nat → Value) : SS := orSS (canonS [] keepG j (fun _ _ => .nilIface) (gS2 am pb nb))
noncomputable def gH1 (j : Nat → Value) (i : Int) (oc : Nat) (orr : List Value) : SS :=
  ⟨(putSl (putSl (putSl (gH0 am pb nb j) 3 (.so 0 0 1 oc 0)) 13 (.v (.int .i64 i))) 14 (.v (.bool (decide (i < (nb : Int)))))).frames, [.row true [] orr 3]⟩
def pgV : List Value := [.bool true, .int .i64 1, .int .i64 1]
def pgZ : List Value := [.bool false, .int .i64 0, .int .i64 0]
theorem g0 : entersB Pr 107 [.v (.pointer (some am))] = true := by kernel_rfl
theorem g1 (o : Orc) : run Pr noSt [.seg [], .imm1 (.slice (some pb) nb nb), .seg [], .canon [] keepG] [o] (gS0 am) = some ([.imm1 (am.add 0) (.slice (some pb) nb nb), .keep []], .at (gH0 am pb nb o.j)) := by kernel_rfl
theorem g2 (j : Nat → Value) (oa oc : Orc) : run Pr noSt [.seg [true, true], .imm pgV, .seg [true], .app true, .seg [], .canon [(2, [])] keepG] [oa, oc] (gH0 am pb nb j) =
    some ([.eq (decide ((0 : Int) ≤ 0) && decide ((0 : Int) < (nb : Int))) true, .eq (decide ((0 : Int) < (nb : Int))) true, .imm (pb.add ((0 : Int).toNat * 3)) 3 pgV, .eq true true, .app 0 0 0 1 1 8 0 oa.l.length oa.n, .keep [(2, [])]], .at (gH1 am pb nb oc.j 1 oa.n oa.l)) := by kernel_rfl
theorem g3 (j : Nat → Value) (i : Int) (oc : Nat) (orr : List Value) (o : Orc) : run Pr noSt [.seg [true, true], .imm pgZ, .seg [false], .canon [(0, [])] keepG] [o] (gH1 am pb nb j i oc orr) =
    some ([.eq (decide (0 ≤ i) && decide (i < (nb : Int))) true, .eq (decide (i < (nb : Int))) true, .imm (pb.add (i.toNat * 3)) 3 pgZ, .eq false false, .keep [(0, [])]], .at (gH1 am pb nb o.j (IntKind.i64.wrap (i + 1)) oc orr)) := by kernel_rfl
theorem g4 (j : Nat → Value) (i : Int) (oc : Nat) (orr : List Value) : runV (run Pr noSt [.seg [false]] [] (gH1 am pb nb j i oc orr)) = some ([.eq (decide (i < (nb : Int))) false], .so 0 0 1 oc 0) := by kernel_rfl
end
/-! ### Live -/
section
variable (am pb : Addr) (nb : Nat) (a7 a8 : Addr)
noncomputable def lS0 : SS := sOf Pr 47 [.v (.pointer (some am))] []
noncomputable def lS1 : SS := (adv Pr noSt 100000 [] [] (lS0 am)).st
noncomputable def lS2 : SS := (adv Pr noSt 100000 [] [] (behind (lS1 am) (.v (.slice (some pb) nb nb)) (lS1 am).heap)).st
def keepL : List Nat := classes 30 [3, 11, 12, 14] [13]
noncomputable def lH0 (j : Nat → Value) : SS := orSS (canonS [] keepL j (fun _ _ => .nilIface) (lS2 am pb nb))
noncomputable def lH1 (j : Nat → Value) (i : Int) (oc : Nat) (orr : List Value) : SS :=
  ⟨(putSl (putSl (putSl (lH0 am pb nb j) 3 (.so 0 0 1 oc 0)) 13 (.v (.int .i64 i))) 14 (.v (.bool (decide (i < (nb : Int)))))).frames, [.row true [] orr 142]⟩
def lvV : List Value := [.int .i64 1, .bool true, .int .i64 1, .string ByteArray.empty, .string ByteArray.empty, .bool true, .int .i64 0, .slice (some a7) 0 0, .slice (some a8) 0 0, .string ByteArray.empty, .string ByteArray.empty, .int .i64 0, .int .i64 0, .int .i64 0, .string ByteArray.empty, .int .i64 0, .int .i64 0]
def lvZ : List Value := [.int .i64 0, .bool false, .int .i64 0, .string ByteArray.empty, .string ByteArray.empty, .bool false, .int .i64 0, .slice none 0 0, .slice none 0 0, .string ByteArray.empty, .string ByteArray.empty, .int .i64 0, .int .i64 0, .int .i64 0, .string ByteArray.empty, .int .i64 0, .int .i64 0]
theorem lv0 : entersB Pr 47 [.v (.pointer (some am))] = true := by kernel_rfl
theorem lv1 (o : Orc) : run Pr noSt [.seg [], .imm1 (.slice (some pb) nb nb), .seg [], .canon [] keepL] [o] (lS0 am) = some ([.imm1 (am.add 0) (.slice (some pb) nb nb), .keep []], .at (lH0 am pb nb o.j)) := by kernel_rfl
theorem lv2 (j : Nat → Value) (oa oc : Orc) : run Pr noSt [.seg [true, true], .imm (lvV a7 a8), .seg [true], .app true, .seg [], .canon [(2, [])] keepL] [oa, oc] (lH0 am pb nb j) =
    some ([.eq (decide ((0 : Int) ≤ 0) && decide ((0 : Int) < (nb : Int))) true, .eq (decide ((0 : Int) < (nb : Int))) true, .imm (pb.add ((0 : Int).toNat * 17)) 17 (lvV a7 a8), .eq true true, .app 0 0 0 2 1 16 0 oa.l.length oa.n, .keep [(2, [])]], .at (lH1 am pb nb oc.j 1 oa.n oa.l)) := by kernel_rfl
theorem lv3 (j : Nat → Value) (i : Int) (oc : Nat) (orr : List Value) (o : Orc) : run Pr noSt [.seg [true, true], .imm lvZ, .seg [false], .canon [(0, [])] keepL] [o] (lH1 am pb nb j i oc orr) =
    some ([.eq (decide (0 ≤ i) && decide (i < (nb : Int))) true, .eq (decide (i < (nb : Int))) true, .imm (pb.add (i.toNat * 17)) 17 lvZ, .eq false false, .keep [(0, [])]], .at (lH1 am pb nb o.j (IntKind.i64.wrap (i + 1)) oc orr)) := by kernel_rfl
theorem lv4 (j : Nat → Value) (i : Int) (oc : Nat) (orr : List Value) : runV (run Pr noSt [.seg [false]] [] (lH1 am pb nb j i oc orr)) = some ([.eq (decide (i < (nb : Int))) false], .so 0 0 1 oc 0) := by kernel_rfl
end

theorem orcs2 {os : List Orc} (h : os.length = 2) : ∃ o o', os = [o, o'] := by
  obtain ⟨o, os', rfl, h'⟩ := orcs_succ h
  obtain ⟨o', rfl⟩ := orcs1 h'
  exact ⟨o, o', rfl⟩

/-- One slice, of one element. -/
def OneSl (v : Value) : Prop := ∃ a c, v = .slice (some a) 1 c

noncomputable abbrev Cpages (w : World) : Ctx := { P := Pr, hm := rmix, f0 := 107, ρ0 := fun _ => none, w0 := w, Q := fun x _ _ => ∃ c, x = .so 0 0 1 c 0 }

theorem pages_loop (bT bP nb : Nat) (rb : List Value) (T : TypeId) (w : World) (hP : w.heap[bP]? = some (.cells ((pgV) ++ rb).toArray T (0, 0))) (hz : rb = ((List.range (nb * 3)).map fun k => (pgZ).getD (k % 3) default).drop (1 * 3)) (hmax : nb ≤ 100000) :
    ∀ (d i : Nat) (j : Nat → Value) (oc : Nat) (orr : List Value), 1 ≤ i → i + d = nb → WPs (Cpages w) (fun b => w.heap[b]?) (gH1 ⟨bT, 0, none⟩ ⟨bP, 0, none⟩ nb j (i : Int) oc orr)
  | 0, i, j, oc, orr, h1, hd => by
    refine WPs.runs (C := Cpages w) noSt [.seg [false]] fun os hos => ?_
    obtain rfl := orcs0 hos
    obtain ⟨H, h⟩ := runV_of (g4 ⟨bT, 0, none⟩ ⟨bP, 0, none⟩ nb j (i : Int) oc orr)
    exact ⟨_, _, h, by simp; omega, ⟨oc, rfl⟩⟩
  | d + 1, i, j, oc, orr, h1, hd => by
    refine WPs.runs (C := Cpages w) noSt [.seg [true, true], .imm pgZ, .seg [false], .canon [(0, [])] keepG] fun os hos => ?_
    obtain ⟨o, rfl⟩ := orcs1 hos
    refine ⟨_, _, g3 ⟨bT, 0, none⟩ ⟨bP, 0, none⟩ nb j (i : Int) oc orr o, by simp; omega, by simp; omega, ?_, rfl, (fun n b e => by cases e), ?_⟩
    · have hsp : ((⟨bP, 0, none⟩ : Addr).add ((i : Int).toNat * 3)) = ⟨bP, i * 3, none⟩ := by rw [add_off]; simp
      rw [hsp]
      refine ⟨rfl, _, _, _, hP, ?_⟩
      simp only [List.toList_toArray]
      exact row_take (n := nb) rfl rfl hz h1 (by omega)
    · show WPs _ _ _
      rw [wrap_id (by omega) (by omega)]
      have := pages_loop bT bP nb rb T w hP hz hmax d (i + 1) o.j oc orr (by omega) (by omega)
      simpa using this

theorem pages_calls (bT bP nb : Nat) (rb : List Value) (T T2 : TypeId) (more : List Value) (w : World) (hT : w.heap[bT]? = some (.cells (.slice (some ⟨bP, 0, none⟩) nb nb :: more).toArray T2 (0, 0))) (hP : w.heap[bP]? = some (.cells ((pgV) ++ rb).toArray T (0, 0)))
    (hz : rb = ((List.range (nb * 3)).map fun k => (pgZ).getD (k % 3) default).drop (1 * 3)) (h1 : 1 ≤ nb) (hmax : nb ≤ 100000) :
    Calls Pr 107 #[.pointer (some ⟨bT, 0, none⟩)] w fun e w' => ∃ v, e = .returned v ∧ Quiet w w' ∧ OneSl v := by
  have := calls_of_wps (C := Cpages w) (I := fun b => w.heap[b]?) (f := 107) (args := [.v (.pointer (some ⟨bT, 0, none⟩))]) (vs := [.pointer (some ⟨bT, 0, none⟩)]) (w := w) (H0 := []) (enters_of (g0 _)) rfl rfl
    ⟨fun n _ _ _ _ hn => by simp at hn, fun n _ hn => by simp at hn, fun n m b hn _ _ _ => by obtain ⟨o, ho, _⟩ := hn; simp at ho, fun n b hb => by cases hb⟩
    rfl (fun b o hb => ⟨hb, fun n e => by cases e⟩) ?_
  · refine this.mono fun e w' hF => ?_
    obtain ⟨x, H, ρ, I, val, rfl, hx, _, hmv, _, c, hQ⟩ := hF
    subst hQ
    simp only [SV.den] at hx
    rw [if_pos (by omega)] at hx
    simp only [Option.map_eq_some_iff] at hx
    obtain ⟨b, _, rfl⟩ := hx
    exact ⟨_, rfl, hmv.quiet, _, _, rfl⟩
  · refine WPs.runs (C := Cpages w) noSt [.seg [], .imm1 (.slice (some ⟨bP, 0, none⟩) nb nb), .seg [], .canon [] keepG] fun os hos => ?_
    obtain ⟨o, rfl⟩ := orcs1 hos
    refine ⟨_, _, g1 ⟨bT, 0, none⟩ ⟨bP, 0, none⟩ nb o, ⟨rfl, _, _, _, hT, rfl⟩, (fun n b e => by cases e), ?_⟩
    show WPs _ _ _
    refine WPs.runs (C := Cpages w) noSt [.seg [true, true], .imm (pgV), .seg [true], .app true, .seg [], .canon [(2, [])] keepG] fun os hos => ?_
    obtain ⟨oa, oc, rfl⟩ := orcs2 hos
    refine ⟨_, _, g2 ⟨bT, 0, none⟩ ⟨bP, 0, none⟩ nb o.j oa oc, by simp; omega, by simp; omega, ⟨rfl, _, _, _, hP, rfl⟩, rfl, ⟨by omega, fun _ _ => ⟨(fun n b e => by cases e), ?_⟩⟩⟩
    show WPs _ _ _
    exact pages_loop bT bP nb rb T w hP hz hmax (nb - 1) 1 oc.j oa.n oa.l (by omega) (by omega)

noncomputable abbrev Clive (w : World) : Ctx := { P := Pr, hm := rmix, f0 := 47, ρ0 := fun _ => none, w0 := w, Q := fun x _ _ => ∃ c, x = .so 0 0 1 c 0 }

theorem live_loop (bT bP nb : Nat) (a7 a8 : Addr) (rb : List Value) (T : TypeId) (w : World) (hP : w.heap[bP]? = some (.cells ((lvV a7 a8) ++ rb).toArray T (0, 0))) (hz : rb = ((List.range (nb * 17)).map fun k => (lvZ).getD (k % 17) default).drop (1 * 17)) (hmax : nb ≤ 100000) :
    ∀ (d i : Nat) (j : Nat → Value) (oc : Nat) (orr : List Value), 1 ≤ i → i + d = nb → WPs (Clive w) (fun b => w.heap[b]?) (lH1 ⟨bT, 0, none⟩ ⟨bP, 0, none⟩ nb j (i : Int) oc orr)
  | 0, i, j, oc, orr, h1, hd => by
    refine WPs.runs (C := Clive w) noSt [.seg [false]] fun os hos => ?_
    obtain rfl := orcs0 hos
    obtain ⟨H, h⟩ := runV_of (lv4 ⟨bT, 0, none⟩ ⟨bP, 0, none⟩ nb j (i : Int) oc orr)
    exact ⟨_, _, h, by simp; omega, ⟨oc, rfl⟩⟩
  | d + 1, i, j, oc, orr, h1, hd => by
    refine WPs.runs (C := Clive w) noSt [.seg [true, true], .imm lvZ, .seg [false], .canon [(0, [])] keepL] fun os hos => ?_
    obtain ⟨o, rfl⟩ := orcs1 hos
    refine ⟨_, _, lv3 ⟨bT, 0, none⟩ ⟨bP, 0, none⟩ nb j (i : Int) oc orr o, by simp; omega, by simp; omega, ?_, rfl, (fun n b e => by cases e), ?_⟩
    · have hsp : ((⟨bP, 0, none⟩ : Addr).add ((i : Int).toNat * 17)) = ⟨bP, i * 17, none⟩ := by rw [add_off]; simp
      rw [hsp]
      refine ⟨rfl, _, _, _, hP, ?_⟩
      simp only [List.toList_toArray]
      exact row_take (n := nb) rfl rfl hz h1 (by omega)
    · show WPs _ _ _
      rw [wrap_id (by omega) (by omega)]
      have := live_loop bT bP nb a7 a8 rb T w hP hz hmax d (i + 1) o.j oc orr (by omega) (by omega)
      simpa using this

theorem live_calls (bT bP nb : Nat) (a7 a8 : Addr) (rb : List Value) (T T2 : TypeId) (more : List Value) (w : World) (hT : w.heap[bT]? = some (.cells (.slice (some ⟨bP, 0, none⟩) nb nb :: more).toArray T2 (0, 0))) (hP : w.heap[bP]? = some (.cells ((lvV a7 a8) ++ rb).toArray T (0, 0)))
    (hz : rb = ((List.range (nb * 17)).map fun k => (lvZ).getD (k % 17) default).drop (1 * 17)) (h1 : 1 ≤ nb) (hmax : nb ≤ 100000) :
    Calls Pr 47 #[.pointer (some ⟨bT, 0, none⟩)] w fun e w' => ∃ v, e = .returned v ∧ Quiet w w' ∧ OneSl v := by
  have := calls_of_wps (C := Clive w) (I := fun b => w.heap[b]?) (f := 47) (args := [.v (.pointer (some ⟨bT, 0, none⟩))]) (vs := [.pointer (some ⟨bT, 0, none⟩)]) (w := w) (H0 := []) (enters_of (lv0 _)) rfl rfl
    ⟨fun n _ _ _ _ hn => by simp at hn, fun n _ hn => by simp at hn, fun n m b hn _ _ _ => by obtain ⟨o, ho, _⟩ := hn; simp at ho, fun n b hb => by cases hb⟩
    rfl (fun b o hb => ⟨hb, fun n e => by cases e⟩) ?_
  · refine this.mono fun e w' hF => ?_
    obtain ⟨x, H, ρ, I, val, rfl, hx, _, hmv, _, c, hQ⟩ := hF
    subst hQ
    simp only [SV.den] at hx
    rw [if_pos (by omega)] at hx
    simp only [Option.map_eq_some_iff] at hx
    obtain ⟨b, _, rfl⟩ := hx
    exact ⟨_, rfl, hmv.quiet, _, _, rfl⟩
  · refine WPs.runs (C := Clive w) noSt [.seg [], .imm1 (.slice (some ⟨bP, 0, none⟩) nb nb), .seg [], .canon [] keepL] fun os hos => ?_
    obtain ⟨o, rfl⟩ := orcs1 hos
    refine ⟨_, _, lv1 ⟨bT, 0, none⟩ ⟨bP, 0, none⟩ nb o, ⟨rfl, _, _, _, hT, rfl⟩, (fun n b e => by cases e), ?_⟩
    show WPs _ _ _
    refine WPs.runs (C := Clive w) noSt [.seg [true, true], .imm (lvV a7 a8), .seg [true], .app true, .seg [], .canon [(2, [])] keepL] fun os hos => ?_
    obtain ⟨oa, oc, rfl⟩ := orcs2 hos
    refine ⟨_, _, lv2 ⟨bT, 0, none⟩ ⟨bP, 0, none⟩ nb a7 a8 o.j oa oc, by simp; omega, by simp; omega, ⟨rfl, _, _, _, hP, rfl⟩, rfl, ⟨by omega, fun _ _ => ⟨(fun n b e => by cases e), ?_⟩⟩⟩
    show WPs _ _ _
    exact live_loop bT bP nb a7 a8 rb T w hP hz hmax (nb - 1) 1 oc.j oa.n oa.l (by omega) (by omega)

end Go.Rl.Z
