/-
  rowlocklaw17.Few: what it says when it says yes.
-/
import Derived.Test.YtghmpcnchjjikaaGreatRlZfw
import Derived.Test.YtghmpcnchjjikaaGreatRlZsc
set_option linter.all false
set_option linter.unusedVariables false
set_option linter.unusedSimpArgs false
set_option linter.unnecessarySimpa false
open Go Go.Rl
namespace Go.Rl

/-- A call that changes nothing that was there, and comes to what is one of some, where memory may be asked. -/
theorem WPs.callAs2 {C : Ctx} {I : Imm} {S : SS} {f : FuncId} {args : List SV} (hs : calleeAt C.P S = some (f, args)) {R : SV → Prop}
    (spec : ∀ ρ w vs, Holds ρ S.heap w → ImmOK I ρ w → SV.denL ρ args = some vs → Calls C.P f vs.toArray w fun e w' => ∃ v y, e = .returned v ∧ Quiet w w' ∧ (∀ ρ, SV.den ρ y = some v) ∧ R y)
    (next : ∀ y, R y → WPs C I (behind S y S.heap)) : WPs C I S := by
  refine WPs.call hs (R := fun x H' I' => H' = S.heap ∧ I' = I ∧ R x) ?_ ?_
  · intro ρ w vs hH hI hv cs
    obtain ⟨e, w', fr, ⟨v, y, he, hq, hy, hR⟩, h2⟩ := spec ρ w vs hH hI hv cs
    subst he
    exact ⟨_, w', fr, ⟨y, v, ρ, S.heap, I, rfl, hy ρ, hq.holds hH, hq.moves ρ, hI.moves (hq.moves ρ), KeepsAll.refl _, ⟨rfl, rfl, hR⟩⟩, h2⟩
  · rintro x H' I' ⟨rfl, rfl, hR⟩
    exact next x hR
end Go.Rl
namespace Go.Rl.Z
set_option maxRecDepth 100000

def actV (k : Int) (rd : Bool) (ky vl lo hi : ByteArray) (ub : Bool) (lm : Int) (rv : Bool) : List Value := [(.int .i64 k), (.bool rd), (.string ky), (.string vl), (.string lo), (.string hi), (.bool ub), (.int .i64 lm), (.bool rv)]

/-- An act, in memory. -/
def ActIn (I : Imm) (ad : Addr) (i : Nat) : Prop :=
  ∃ (cs : Array Value) (T : TypeId) (fz : Nat × Nat) (k : Int) (rd : Bool) (ky vl lo hi : ByteArray) (ub : Bool) (lm : Int) (rv : Bool),
    I ad.block = some (.cells cs T fz) ∧ (cs.toList.drop (ad.off + i * 9)).take 9 = actV k rd ky vl lo hi ub lm rv

/-- Acts, in memory. -/
def ActsIn (I : Imm) (bo : Option Addr) (m : Nat) : Prop := m = 0 ∨ ∃ bd, bo = some bd ∧ bd.spot = none ∧ ∀ e, e < m → ActIn I bd e

/-- The lists of a play, in memory. -/
def PlayIn (I : Imm) (ad : Addr) (n : Nat) : Prop :=
  ∀ i, i < n → ∃ cs T fz bo m mc, (ad.add i).spot = none ∧ I (ad.add i).block = some (.cells cs T fz) ∧ cs[(ad.add i).off]? = some (.slice bo m mc) ∧ m * 72 ≤ 140737488355328 ∧ ActsIn I bo m

theorem addr_add' {ad : Addr} (h : ad.spot = none) (m : Nat) : (ad.add m).block = ad.block ∧ (ad.add m).off = ad.off + m ∧ (ad.add m).spot = none := by
  unfold Addr.add
  split
  · subst m; exact ⟨rfl, rfl, h⟩
  · exact ⟨rfl, rfl, rfl⟩

theorem cell_of_take {cs : Array Value} {off k m : Nat} {l : List Value} (h : (cs.toList.drop off).take m = l) (hk : k < m) (v : Value) (hv : l[k]? = some v) : cs[off + k]? = some v := by
  subst h
  rw [List.getElem?_take, if_pos hk, List.getElem?_drop] at hv
  simpa using hv

/-- One cell of an act. -/
theorem act_cell {I : Imm} {bd : Addr} (hsp : bd.spot = none) {e : Nat} {cs : Array Value} {T : TypeId} {fz : Nat × Nat} {l : List Value} (hI : I bd.block = some (.cells cs T fz)) (hl : (cs.toList.drop (bd.off + e * 9)).take 9 = l)
    (k : Nat) (hk : k < 9) (v : Value) (hv : l[k]? = some v) (a : Addr) (ha : a = ⟨bd.block, bd.off + e * 9 + k, none⟩) : a.spot = none ∧ ∃ cs T fz, I a.block = some (.cells cs T fz) ∧ cs[a.off]? = some v := by
  subst ha
  exact ⟨rfl, cs, T, fz, hI, cell_of_take hl hk v hv⟩

theorem add2 {bd : Addr} (hsp : bd.spot = none) (m k : Nat) : (bd.add m).add k = ⟨bd.block, bd.off + m + k, none⟩ := by
  obtain ⟨e1, e2, e3⟩ := addr_add' hsp m
  obtain ⟨d1, d2, d3⟩ := addr_add' e3 k
  cases h : (bd.add m).add k
  rw [h] at d1 d2 d3
  simp only at d1 d2 d3
  subst d1 d2 d3
  rw [e1, e2]

theorem add3 {bd : Addr} (hsp : bd.spot = none) (m k l : Nat) : ((bd.add m).add k).add l = ⟨bd.block, bd.off + m + (k + l), none⟩ := by
  rw [add2 (addr_add' hsp m).2.2 k l]
  rw [(addr_add' hsp m).1, (addr_add' hsp m).2.1, Nat.add_assoc]

/-- What Few says when it says yes. -/
def FewB (p : TP) : Prop := rrB p.a p.b p.t p.r p.h p.c = true ∧ p.a ≤ 300 ∧ p.b ≤ 60 ∧ p.t ≤ 8 ∧ (p.n : Int) ≤ p.t

def FewQ (p : TP) (x : SV) : Prop := x = .b false ∨ ∃ b, x = .v (.bool b) ∧ FewB p

noncomputable abbrev Cfew (w : World) (p : TP) : Ctx := { P := Pr, hm := rmix, f0 := 16, ρ0 := fun _ => none, w0 := w, Q := fun x _ _ => FewQ p x }

theorem bool_dec {p : Prop} [Decidable p] (b : Bool) (h : decide p = b) : (b = true → p) ∧ (b = false → ¬ p) := by
  subst h; simp

theorem few_inner (p : TP) (tb : Option Addr) (tn tc : Nat) (w : World) (I : Imm) (s : Int) (i : Nat) (bo : Option Addr) (m mc : Nat) (hm : m * 72 ≤ 140737488355328) (hA : ActsIn I bo m)
    (next : ∀ j, WPs (Cfew w p) I (fO p (some p.ad) tb tn tc j s (IntKind.i64.wrap ((i : Int) + 1)))) :
    ∀ (d e : Nat) (j : Nat → Value), e + d = m → WPs (Cfew w p) I (fI p tb tn tc j s (i : Int) bo m mc (e : Int))
  | 0, e, j, hd => by
    refine WPs.runs (C := Cfew w p) st13 [.seg [false], .canon [(0, [])] scF] fun os hos => ?_
    obtain ⟨o, rfl⟩ := orcs1 hos
    exact ⟨_, _, f5a p tb tn tc j s i bo m mc e o, by simp; omega, (fun n b e => by cases e), next o.j⟩
  | d + 1, e, j, hd => by
    rcases id hA with h0 | ⟨bd, rfl, hsp, hact⟩
    · omega
    by_cases h40 : e ≤ 40
    rotate_left 1
    · refine WPs.runs (C := Cfew w p) st13 [.seg [true, false], .canon [(0, [])] scF] fun os hos => ?_
      obtain ⟨o, rfl⟩ := orcs1 hos
      exact ⟨_, _, f5b p tb tn tc j s i (some bd) m mc e o, by simp; omega, by simp; omega, (fun n b e => by cases e), next o.j⟩
    obtain ⟨cs, T, fz, k, rd, ky, vl, lo, hi, ub, lm, rv, hI, hcs⟩ := hact e (by omega)
    have c2 := act_cell hsp hI hcs 2 (by omega) (.string ky) rfl _ (add2 hsp (e * 9) 2)
    have c3 := act_cell hsp hI hcs 3 (by omega) (.string vl) rfl _ (add2 hsp (e * 9) 3)
    have c4 := act_cell hsp hI hcs 4 (by omega) (.string lo) rfl _ (add3 hsp (e * 9) 4 0)
    have c5 := act_cell hsp hI hcs 5 (by omega) (.string hi) rfl _ (add3 hsp (e * 9) 4 1)
    have b0 : (decide (0 ≤ (e : Int)) && decide ((e : Int) < (m : Int))) = true := by simp; omega
    have b1 : decide ((e : Int) ≤ 40) = true := by simp; omega
    have b2 : decide ((e : Int) < (m : Int)) = true := by simp; omega
    cases x1 : decide ((ky.size : Int) > 100)
    rotate_left 1
    · refine WPs.runs (C := Cfew w p) st13 [.seg [true, true, true], .imm1 (.string ky), .seg [true]] fun os hos => ?_
      obtain rfl := orcs0 hos
      obtain ⟨H, h⟩ := runV_of (f4a p tb tn tc j s i m mc e bd ky)
      exact ⟨_, _, h, b0, b1, b2, c2, x1, .inl rfl⟩
    cases x2 : decide ((vl.size : Int) > 100)
    rotate_left 1
    · refine WPs.runs (C := Cfew w p) st13 [.seg [true, true, true], .imm1 (.string ky), .seg [false, true], .imm1 (.string vl), .seg [true]] fun os hos => ?_
      obtain rfl := orcs0 hos
      obtain ⟨H, h⟩ := runV_of (f4b p tb tn tc j s i m mc e bd ky vl)
      exact ⟨_, _, h, b0, b1, b2, c2, b0, x1, c3, x2, .inl rfl⟩
    cases x3 : decide ((lo.size : Int) > 100)
    rotate_left 1
    · refine WPs.runs (C := Cfew w p) st13 [.seg [true, true, true], .imm1 (.string ky), .seg [false, true], .imm1 (.string vl), .seg [false, true], .imm1 (.string lo), .seg [true]] fun os hos => ?_
      obtain rfl := orcs0 hos
      obtain ⟨H, h⟩ := runV_of (f4c p tb tn tc j s i m mc e bd ky vl lo)
      exact ⟨_, _, h, b0, b1, b2, c2, b0, x1, c3, b0, x2, c4, x3, .inl rfl⟩
    cases x4 : decide ((hi.size : Int) > 100)
    rotate_left 1
    · refine WPs.runs (C := Cfew w p) st13 [.seg [true, true, true], .imm1 (.string ky), .seg [false, true], .imm1 (.string vl), .seg [false, true], .imm1 (.string lo), .seg [false, true], .imm1 (.string hi), .seg [true]] fun os hos => ?_
      obtain rfl := orcs0 hos
      obtain ⟨H, h⟩ := runV_of (f4d p tb tn tc j s i m mc e bd ky vl lo hi)
      exact ⟨_, _, h, b0, b1, b2, c2, b0, x1, c3, b0, x2, c4, b0, x3, c5, x4, .inl rfl⟩
    refine WPs.runs (C := Cfew w p) st13 [.seg [true, true, true], .imm1 (.string ky), .seg [false, true], .imm1 (.string vl), .seg [false, true], .imm1 (.string lo), .seg [false, true], .imm1 (.string hi), .seg [false], .canon [(0, [])] scG] fun os hos => ?_
    obtain ⟨o, rfl⟩ := orcs1 hos
    refine ⟨_, _, f3 p tb tn tc j s i m mc e bd ky vl lo hi o, b0, b1, b2, c2, b0, x1, c3, b0, x2, c4, b0, x3, c5, x4, (fun n b e => by cases e), ?_⟩
    show WPs _ _ _
    rw [wrap_id (by omega) (by omega)]
    have := few_inner p tb tn tc w I s i (some bd) m mc hm hA next d (e + 1) o.j (by omega)
    simpa using this

theorem few_end (p : TP) (bs tb : Option Addr) (tn tc : Nat) (w : World) (I : Imm) (j : Nat → Value) (s i : Int) (hi : ¬ i < (p.n : Int)) : WPs (Cfew w p) I (fO p bs tb tn tc j s i) := by
  have b0 : decide (i < (p.n : Int)) = false := by simpa using hi
  have hcall : ∀ q, rrB p.a p.b p.t p.r p.h p.c = q → IsCall Pr 13 [lmS p] (.v (.bool q)) := by
    intro q hq
    refine ⟨.bool q, fun _ => rfl, fun ρ w vs hv => ?_⟩
    simp only [lmS, SV.denL, SV.den, Option.bind_some, Option.map_some, Option.some.injEq] at hv
    subst hv
    rw [← hq]
    exact rr_calls p.a p.b p.t p.r p.h p.c w
  cases x1 : rrB p.a p.b p.t p.r p.h p.c
  · refine WPs.runs (C := Cfew w p) st13 [.seg [false], .call (.v (.bool false)), .seg [false]] fun os hos => ?_
    obtain rfl := orcs0 hos
    obtain ⟨H, h⟩ := runV_of (f6a p bs tb tn tc j s i false)
    exact ⟨_, _, h, b0, hcall _ x1, rfl, .inl rfl⟩
  cases x2 : decide (p.a ≤ 300)
  · refine WPs.runs (C := Cfew w p) st13 [.seg [false], .call (.v (.bool true)), .seg [true, false]] fun os hos => ?_
    obtain rfl := orcs0 hos
    obtain ⟨H, h⟩ := runV_of (f6b p bs tb tn tc j s i true)
    exact ⟨_, _, h, b0, hcall _ x1, x2, rfl, .inl rfl⟩
  cases x3 : decide (p.b ≤ 60)
  · refine WPs.runs (C := Cfew w p) st13 [.seg [false], .call (.v (.bool true)), .seg [true, true, false]] fun os hos => ?_
    obtain rfl := orcs0 hos
    obtain ⟨H, h⟩ := runV_of (f6c p bs tb tn tc j s i true)
    exact ⟨_, _, h, b0, hcall _ x1, x3, x2, rfl, .inl rfl⟩
  cases x4 : decide (p.t ≤ 8)
  · refine WPs.runs (C := Cfew w p) st13 [.seg [false], .call (.v (.bool true)), .seg [true, true, true, false]] fun os hos => ?_
    obtain rfl := orcs0 hos
    obtain ⟨H, h⟩ := runV_of (f6d p bs tb tn tc j s i true)
    exact ⟨_, _, h, b0, hcall _ x1, x4, x3, x2, rfl, .inl rfl⟩
  cases x5 : decide ((p.n : Int) ≤ p.t)
  · refine WPs.runs (C := Cfew w p) st13 [.seg [false], .call (.v (.bool true)), .seg [true, true, true, true, false]] fun os hos => ?_
    obtain rfl := orcs0 hos
    obtain ⟨H, h⟩ := runV_of (f6e p bs tb tn tc j s i true)
    exact ⟨_, _, h, b0, hcall _ x1, x5, x4, x3, x2, rfl, .inl rfl⟩
  cases x6 : decide (s ≤ 40)
  · refine WPs.runs (C := Cfew w p) st13 [.seg [false], .call (.v (.bool true)), .seg [true, true, true, true, true, false]] fun os hos => ?_
    obtain rfl := orcs0 hos
    obtain ⟨H, h⟩ := runV_of (f6f p bs tb tn tc j s i true)
    exact ⟨_, _, h, b0, hcall _ x1, x6, x5, x4, x3, x2, rfl, .inl rfl⟩
  refine WPs.runs (C := Cfew w p) st13 [.seg [false], .call (.v (.bool true)), .seg [true, true, true, true, true, true]] fun os hos => ?_
  obtain rfl := orcs0 hos
  obtain ⟨H, h⟩ := runV_of (f6g p bs tb tn tc j s i true)
  exact ⟨_, _, h, b0, hcall _ x1, x6, x5, x4, x3, x2, rfl, .inr ⟨_, rfl, x1, of_decide_eq_true x2, of_decide_eq_true x3, of_decide_eq_true x4, of_decide_eq_true x5⟩⟩

theorem few_outer (p : TP) (bs tb : Option Addr) (tn tc : Nat) (w : World) (I : Imm) (hn : p.n < 9223372036854775807) (hA : p.n = 0 ∨ bs = some p.ad ∧ PlayIn I p.ad p.n) :
    ∀ (d i : Nat) (j : Nat → Value) (s : Int), i + d = p.n → WPs (Cfew w p) I (fO p bs tb tn tc j s (i : Int))
  | 0, i, j, s, hd => few_end p bs tb tn tc w I j s i (by omega)
  | d + 1, i, j, s, hd => by
    rcases id hA with h0 | ⟨rfl, hP⟩
    · omega
    obtain ⟨cs, T, fz, bo, m, mc, h1, h2, h3, h4, h5⟩ := hP i (by omega)
    refine WPs.runs (C := Cfew w p) st13 [.seg [true, true], .imm1 (.slice bo m mc), .seg [], .canon [(0, [])] scG] fun os hos => ?_
    obtain ⟨o, rfl⟩ := orcs1 hos
    refine ⟨_, _, f2 p tb tn tc j s i bo m mc o, by simp; omega, by simp; omega, ?_, (fun n b e => by cases e), ?_⟩
    · have : (p.ad.add ((i : Int).toNat * 1)) = p.ad.add i := by simp
      rw [this]
      exact ⟨h1, cs, T, fz, h2, h3⟩
    · show WPs _ _ _
      refine few_inner p tb tn tc w I (IntKind.i64.wrap (s + m)) i bo m mc h4 h5 (fun j => ?_) m 0 o.j (by omega)
      rw [wrap_id (n := (i : Int) + 1) (by omega) (by omega)]
      have := few_outer p (some p.ad) tb tn tc w I hn hA d (i + 1) j (IntKind.i64.wrap (s + m)) (by omega)
      simpa using this

theorem few_calls (p : TP) (bs tb : Option Addr) (tn tc : Nat) (w : World) (I : Imm) (hI : ∀ b o, I b = some o → w.heap[b]? = some o) (hn : p.n < 9223372036854775807) (hA : p.n = 0 ∨ bs = some p.ad ∧ PlayIn I p.ad p.n) :
    Calls Pr 16 #[.agg #[.int .i64 p.a, .int .i64 p.b, .int .i64 p.t, .int .i64 p.r, .int .i64 p.h, .int .i64 p.c, .slice bs p.n p.cap, .slice tb tn tc]] w fun e w' => ∃ v y, e = .returned v ∧ Quiet w w' ∧ (∀ ρ, SV.den ρ y = some v) ∧ (y = .b false ∨ y = .b true ∧ FewB p) := by
  have := calls_of_wps (C := Cfew w p) (I := I) (f := 16) (args := [fArg p bs (.slice tb tn tc)]) (vs := [.agg #[.int .i64 p.a, .int .i64 p.b, .int .i64 p.t, .int .i64 p.r, .int .i64 p.h, .int .i64 p.c, .slice bs p.n p.cap, .slice tb tn tc]]) (w := w) (H0 := []) (enters_of (f0 p bs tb tn tc)) rfl rfl
    ⟨fun n _ _ _ _ hn => by simp at hn, fun n _ hn => by simp at hn, fun n m b hn _ _ _ => by obtain ⟨o, ho, _⟩ := hn; simp at ho, fun n b hb => by cases hb⟩
    (by simp [fArg, SV.denL, SV.den]) (fun b o hb => ⟨hI b o hb, fun n e => by cases e⟩) ?_
  · refine this.mono fun e w' hF => ?_
    obtain ⟨x, H, ρ, I, val, rfl, hx, _, hmv, _, hQ⟩ := hF
    rcases hQ with rfl | ⟨b, rfl, hb⟩
    · simp only [SV.den, Option.some.injEq] at hx
      exact ⟨_, .b false, rfl, hmv.quiet, fun _ => by simp [SV.den, hx], .inl rfl⟩
    · simp only [SV.den, Option.some.injEq] at hx
      subst hx
      cases b
      · exact ⟨_, .b false, rfl, hmv.quiet, fun _ => rfl, .inl rfl⟩
      · exact ⟨_, .b true, rfl, hmv.quiet, fun _ => rfl, .inr ⟨rfl, hb⟩⟩
  · refine WPs.runs (C := Cfew w p) st13 [.seg [], .canon [(0, [])] scF] fun os hos => ?_
    obtain ⟨o, rfl⟩ := orcs1 hos
    refine ⟨_, _, f1 p bs tb tn tc o, (fun n b e => by cases e), ?_⟩
    exact few_outer p bs tb tn tc w I hn hA p.n 0 o.j 0 (by omega)
end Go.Rl.Z
