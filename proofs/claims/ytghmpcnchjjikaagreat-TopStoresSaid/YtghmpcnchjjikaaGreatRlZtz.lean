/-
  TopStores: all joined.
-/
import Derived.Test.YtghmpcnchjjikaaGreatRlZtu
import Derived.Test.YtghmpcnchjjikaaGreatRlZhd
import Derived.Test.YtghmpcnchjjikaaGreatRlZtr00
import Derived.Test.YtghmpcnchjjikaaGreatRlZtr01
import Derived.Test.YtghmpcnchjjikaaGreatRlZtr10
import Derived.Test.YtghmpcnchjjikaaGreatRlZtr11
set_option linter.all false
set_option linter.unusedVariables false
set_option linter.unusedSimpArgs false
set_option linter.unnecessarySimpa false
open Go Go.Rl
namespace Go.Rl.Z
set_option maxRecDepth 100000

theorem hd_is : IsCall Pr 17 [] (.b true) := ⟨.bool true, fun _ => rfl, fun ρ w vs hv => by
  simp only [SV.denL, Option.some.injEq] at hv
  subst hv
  exact hd_calls w⟩

section
variable (p : TP) (q : TQ) (w : World) (I : Imm)

theorem ts_inner (i : Nat) (bo : Option Addr) (m mcap : Nat) (hm : m * 72 ≤ 140737488355328) (hA : ActsIn I bo m) (hq : 1 ≤ q.na ∧ 1 ≤ q.nb) (hit : (i : Int) < p.t) (hpc : p.c ≤ 1099511627776)
    (next : ∀ now tl cI lM cM j jc, 1 ≤ now → now ≤ p.c → WPs (Cts w) I (tOH p q now tl [] cI lM cM j jc (IntKind.i64.wrap ((i : Int) + 1)))) :
    ∀ (d e : Nat), e + d = m → ∀ S, InS p q i bo m mcap e S → WPs (Cts w) I S
  | 0, e, hd, S, hS => by
    have b0 : decide ((e : Int) < (m : Int)) = false := by simp; omega
    refine WPs.runs (C := Cts w) tSt [.seg [false], .canon keepX scO] fun os hos => ?_
    obtain ⟨oc, rfl⟩ := orcsN1 hos
    cases hS with
    | s00 now tl cI lM cM j jc er h1 h2 he => exact ⟨_, _, p_out00 p q now tl [] cI lM cM j jc i bo m mcap e er oc, b0, (fun n b e => by cases e), next _ _ _ _ _ _ _ h1 h2⟩
    | s01 now tl cI lM cM j jc sl sc sr er h1 h2 he _ _ _ => exact ⟨_, _, p_out01 p q now tl [] cI lM cM j jc i bo m mcap e sl sc sr er oc, b0, (fun n b e => by cases e), next _ _ _ _ _ _ _ h1 h2⟩
    | s10 now tl cI lM cM j jc kl kc kr er h1 h2 he _ _ _ => exact ⟨_, _, p_out10 p q now tl [] cI lM cM j jc i bo m mcap e kl kc kr er oc, b0, (fun n b e => by cases e), next _ _ _ _ _ _ _ h1 h2⟩
    | s11 now tl cI lM cM j jc kl kc kr sl sc sr er h1 h2 he _ _ _ _ _ _ => exact ⟨_, _, p_out11 p q now tl [] cI lM cM j jc i bo m mcap e kl kc kr sl sc sr er oc, b0, (fun n b e => by cases e), next _ _ _ _ _ _ _ h1 h2⟩
  | d + 1, e, hd, S, hS => by
    rcases id hA with h0 | ⟨bd, rfl, hsp, hact⟩
    · omega
    have g := fun S hS => ts_inner i (some bd) m mcap hm hA hq hit hpc next d (e + 1) (by omega) S hS
    cases hS with
    | s00 now tl cI lM cM j jc er h1 h2 he => exact round00 p q w I i bd hsp m mcap e (by omega) hm (hact e (by omega)) hq hit hpc g now tl cI lM cM j jc er h1 h2 he
    | s01 now tl cI lM cM j jc sl sc sr er h1 h2 he a1 a2 a3 => exact round01 p q w I i bd hsp m mcap e (by omega) hm (hact e (by omega)) hq hit hpc g now tl cI lM cM j jc sl sc sr a1 a2 a3 er h1 h2 he
    | s10 now tl cI lM cM j jc kl kc kr er h1 h2 he a1 a2 a3 => exact round10 p q w I i bd hsp m mcap e (by omega) hm (hact e (by omega)) hq hit hpc g now tl cI lM cM j jc kl kc kr a1 a2 a3 er h1 h2 he
    | s11 now tl cI lM cM j jc kl kc kr sl sc sr er h1 h2 he a1 a2 a3 a4 a5 a6 => exact round11 p q w I i bd hsp m mcap e (by omega) hm (hact e (by omega)) hq hit hpc g now tl cI lM cM j jc kl kc kr a1 a2 a3 sl sc sr a4 a5 a6 er h1 h2 he

/-- What was made: zeros behind the first. -/
def ZeroQ (q : TQ) : Prop :=
  q.ra = ((List.range (q.na * 17)).map fun k => lvZ.getD (k % 17) default).drop (1 * 17) ∧ q.rb = ((List.range (q.nb * 3)).map fun k => pgZ.getD (k % 3) default).drop (1 * 3)

/-- The pages, of a heap in which they stand at 2 and 3. -/
theorem pages_spec {H : List SO} (hz : ZeroQ q) (h1 : 1 ≤ q.nb) (hmax : q.nb ≤ 100000) (h2 : H[2]? = some (.row true [.b true, .i .i64 1, .i .i64 1] q.rb 233)) (h3 : H[3]? = some (.row true [.so 2 0 q.nb q.nb 1] [] 227))
    (ρ : Rho) (w : World) (vs : List Value) (hH : Holds ρ H w) (hv : SV.denL ρ [.p 3 0] = some vs) : Calls Pr 107 vs.toArray w fun e w' => ∃ v, e = .returned v ∧ Quiet w w' ∧ OneSl v := by
  obtain ⟨b2, r2⟩ := (hH.row 2 _ _ _ _ h2).1 rfl
  obtain ⟨b3, r3⟩ := (hH.row 3 _ _ _ _ h3).1 rfl
  obtain ⟨v2, d2, m2⟩ := (hH.row 2 _ _ _ _ h2).2 b2 r2
  obtain ⟨v3, d3, m3⟩ := (hH.row 3 _ _ _ _ h3).2 b3 r3
  simp only [SV.denL, SV.den, Option.bind_some, Option.map_some, Option.some.injEq] at d2
  subst d2
  simp only [SV.denL, SV.den, r2, h1, if_true, Option.bind_some, Option.map_some, Option.some.injEq] at d3
  subst d3
  simp only [SV.denL, SV.den, r3, Option.bind_some, Option.map_some, Option.some.injEq] at hv
  subst hv
  exact pages_calls b3 b2 q.nb q.rb 233 227 [] w m3 m2 hz.2 h1 hmax

theorem live_spec {na : Nat} {ra : List Value} {H : List SO} (x y n7 n8 : Nat) (c : Int) (hz : ra = ((List.range (na * 17)).map fun k => lvZ.getD (k % 17) default).drop (1 * 17)) (h1 : 1 ≤ na) (hmax : na ≤ 100000)
    (h2 : H[x]? = some (.row true [.i .i64 1, .b true, .i .i64 1, .s ByteArray.empty, .s ByteArray.empty, .b true, .i .i64 0, .sl n7 0 0 0, .sl n8 0 0 0, .s ByteArray.empty, .s ByteArray.empty, .i .i64 0, .i .i64 0, .i .i64 0, .s ByteArray.empty, .i .i64 0, .i .i64 0] ra 171))
    (h3 : H[y]? = some (.row true [.so x 0 na na 1, .v (.int .i64 c)] [] 169))
    (ρ : Rho) (w : World) (vs : List Value) (hH : Holds ρ H w) (hv : SV.denL ρ [.p y 0] = some vs) : Calls Pr 47 vs.toArray w fun e w' => ∃ v, e = .returned v ∧ Quiet w w' ∧ OneSl v := by
  obtain ⟨b2, r2⟩ := (hH.row x _ _ _ _ h2).1 rfl
  obtain ⟨b3, r3⟩ := (hH.row y _ _ _ _ h3).1 rfl
  obtain ⟨v2, d2, m2⟩ := (hH.row x _ _ _ _ h2).2 b2 r2
  obtain ⟨v3, d3, m3⟩ := (hH.row y _ _ _ _ h3).2 b3 r3
  simp only [SV.denL, SV.den, r2, h1, if_true, Option.bind_some, Option.map_some, Option.some.injEq] at d3
  subst d3
  cases e7 : ρ n7 with
  | none => simp [SV.denL, SV.den, e7] at d2
  | some a7 =>
  cases e8 : ρ n8 with
  | none => simp [SV.denL, SV.den, e8] at d2
  | some a8 =>
  simp only [SV.denL, SV.den, e7, e8, Option.bind_some, Option.map_some, Option.some.injEq] at d2
  subst d2
  simp only [SV.denL, SV.den, r3, Option.bind_some, Option.map_some, Option.some.injEq] at hv
  subst hv
  exact live_calls b3 b2 na ⟨a7, 0, none⟩ ⟨a8, 0, none⟩ ra 171 169 [.int .i64 c] w m3 m2 hz h1 hmax

theorem ts_end (hz : ZeroQ q) (hq : 1 ≤ q.na ∧ 1 ≤ q.nb) (hqm : q.na ≤ 100000 ∧ q.nb ≤ 100000) (ha : p.a ≠ 0) (i : Nat) (hi : p.n ≤ i) (now tl : Int) (cI : Nat) (lM : List (Int × Int × Nat)) (cM : Nat) (j : Nat → Value) (jc : Nat → Nat → Value) : WPs (Cts w) I (tOH p q now tl [] cI lM cM j jc i) := by
  have n1 : decide (1 > (q.na : Int)) = false := by simp; omega
  have n2 : decide (0 ≥ (q.nb : Int)) = false := by simp; omega
  have a0 : ((0 : Int) == p.a) = false := by simp; omega
  refine WPs.runs (C := Cts w) tSt [.seg [false]] fun os hos => ?_
  obtain rfl := orcs0 hos
  refine ⟨_, _, p_end1 p q now tl [] cI lM cM j jc i, by simp; omega, ?_⟩
  show WPs _ _ _
  refine WPs.callQuiet (C := Cts w) (R := OneSl) (e1c p q now tl [] cI lM cM j jc i) (fun ρ w vs hH _ hv => pages_spec q hz hq.2 hqm.2 rfl rfl ρ w vs hH hv) ?_
  rintro _ ⟨pa, pc, rfl⟩
  refine WPs.runs (C := Cts w) tSt c_end2 fun os hos => ?_
  obtain ⟨o0, o1, o2, o3, rfl⟩ := orcsN4 hos
  refine ⟨_, _, p_end2 p q now tl [] cI lM cM j jc i pa pc o0 o1 o2 o3, ?_⟩
  refine ⟨rfl, rfl, n1, a0, n2, ⟨by decide, by decide, by decide, by decide⟩, fun _ _ => ⟨⟨by decide, by decide, by decide, by decide⟩, fun _ _ => ⟨⟨by decide, by decide, by decide, by decide⟩, fun _ _ => ⟨rfl, rfl, ⟨by decide, by decide, by decide, by decide⟩, fun _ _ => ?_⟩⟩⟩⟩
  show WPs _ _ _
  refine WPs.callQuiet (C := Cts w) (R := OneSl) (e2c p q now tl [] cI lM cM j jc i pa pc o0 o1 o2 o3) (fun ρ w vs hH _ hv => pages_spec q hz hq.2 hqm.2 rfl rfl ρ w vs hH hv) ?_
  rintro _ ⟨pa', pc', rfl⟩
  refine WPs.runs (C := Cts w) tSt c_end3 fun os hos => ?_
  obtain ⟨o4, o5, rfl⟩ := orcsN2 hos
  refine ⟨_, _, p_end3 p q now tl [] cI lM cM j jc i pa' pc' o0 o1 o2 o3 o4 o5, ?_⟩
  refine ⟨rfl, rfl, n1, a0, n2, rfl, ⟨by decide, by decide, by decide, by decide⟩, fun _ _ => ⟨⟨by decide, by decide, by decide, by decide⟩, fun _ _ => ?_⟩⟩
  show WPs _ _ _
  refine WPs.callQuiet (C := Cts w) (R := OneSl) (e3c p q now tl [] cI lM cM j jc i pa' pc' o0 o1 o2 o3 o4 o5) (fun ρ w vs hH _ hv => live_spec 0 1 7 8 p.c hz.1 hq.1 hqm.1 rfl rfl ρ w vs hH hv) ?_
  rintro _ ⟨la, lc, rfl⟩
  refine WPs.runs (C := Cts w) tSt c_end4 fun os hos => ?_
  obtain rfl := orcs0 hos
  obtain ⟨H, h⟩ := runV_of (p_end4 p q now tl [] cI lM cM j jc i pa' pc' o0 o1 o2 o3 o4 o5 la lc)
  exact ⟨_, _, h, rfl, hd_is, rfl⟩

theorem ts_outer (hP : PlayIn I p.ad p.n) (hn : (p.n : Int) ≤ p.t) (ht : p.t ≤ 8) (hpc : p.c ≤ 1099511627776) (hz : ZeroQ q) (hq : 1 ≤ q.na ∧ 1 ≤ q.nb) (hqm : q.na ≤ 100000 ∧ q.nb ≤ 100000) (ha : p.a ≠ 0) :
    ∀ (d i : Nat) (now tl : Int) (cI : Nat) (lM : List (Int × Int × Nat)) (cM : Nat) (j : Nat → Value) (jc : Nat → Nat → Value), i + d = p.n → 1 ≤ now → now ≤ p.c → WPs (Cts w) I (tOH p q now tl [] cI lM cM j jc i)
  | 0, i, now, tl, cI, lM, cM, j, jc, hd, h1, h2 => ts_end p q w I hz hq hqm ha i (by omega) now tl cI lM cM j jc
  | d + 1, i, now, tl, cI, lM, cM, j, jc, hd, h1, h2 => by
    obtain ⟨cs, T, fz, bo, m, mc, k1, k2, k3, k4, k5⟩ := hP i (by omega)
    have b0 : (decide (0 ≤ (i : Int)) && decide ((i : Int) < (p.n : Int))) = true := by simp; omega
    have b1 : decide ((i : Int) < (p.n : Int)) = true := by simp; omega
    have t1 : (!(decide ((i : Int) < p.t))) = false := by simp; omega
    have t2 : decide ((i : Int) ≥ 0) = true := by simp
    refine WPs.runs (C := Cts w) tSt (c_begin bo m mc) fun os hos => ?_
    obtain ⟨oc, rfl⟩ := orcsN1 hos
    refine ⟨_, _, p_begin p q now tl [] cI lM cM j jc i bo m mc oc, b0, b1, ?_, t1, t2, t1, t2, (fun n b e => by cases e), ?_⟩
    · have : (p.ad.add ((i : Int).toNat * 1)) = p.ad.add i := by simp
      rw [this]
      exact ⟨k1, cs, T, fz, k2, k3⟩
    · show WPs _ _ _
      refine ts_inner p q w I i bo m mc k4 k5 hq (by omega) hpc ?_ m 0 (by omega) _ (.s00 now tl _ _ _ _ _ _ h1 h2 (.inl rfl))
      intro now' tl' cI' lM' cM' j' jc' h1' h2'
      rw [wrap_id (by omega) (by omega)]
      have := ts_outer hP hn ht hpc hz hq hqm ha d (i + 1) now' tl' cI' lM' cM' j' jc' (by omega) h1' h2'
      simpa using this

theorem ts_wps (bs tb : Option Addr) (tn tc : Nat) (hn : p.n < 9223372036854775807) (hA : p.n = 0 ∨ bs = some p.ad ∧ PlayIn I p.ad p.n) :
    WPs (Cts w) I (uS p bs (.slice tb tn tc)) := by
  refine WPs.to (C := Cts w) rmix tSt (u1 p bs (.slice tb tn tc)) obsN ?_
  refine WPs.callAs2 (C := Cts w) (S := uS1 p bs (.slice tb tn tc)) (u2 p bs (.slice tb tn tc)) (R := fun y => y = .b false ∨ y = .b true ∧ FewB p) ?_ ?_
  · intro ρ w vs _ hI hv
    simp only [fArg, SV.denL, SV.den, Option.bind_some, Option.map_some, Option.some.injEq] at hv
    subst hv
    exact few_calls p bs tb tn tc w I (fun b o hb => (hI b o hb).1) hn hA
  rintro y (rfl | ⟨rfl, hb⟩)
  · refine WPs.runs (C := Cts w) tSt [.seg [], .call (.b true), .seg []] fun os hos => ?_
    obtain rfl := orcs0 hos
    obtain ⟨H, h⟩ := runV_of (u3 p bs (.slice tb tn tc))
    exact ⟨_, _, h, hd_is, rfl⟩
  rcases id hA with h0 | ⟨rfl, hP⟩
  · refine WPs.runs (C := Cts w) tSt [.seg [true], .call (.b true), .seg []] fun os hos => ?_
    obtain rfl := orcs0 hos
    obtain ⟨H, h⟩ := runV_of (u4 p bs (.slice tb tn tc))
    exact ⟨_, _, h, by simp [h0], hd_is, rfl⟩
  by_cases h0 : p.n = 0
  · refine WPs.runs (C := Cts w) tSt [.seg [true], .call (.b true), .seg []] fun os hos => ?_
    obtain rfl := orcs0 hos
    obtain ⟨H, h⟩ := runV_of (u4 p (some p.ad) (.slice tb tn tc))
    exact ⟨_, _, h, by simp [h0], hd_is, rfl⟩
  obtain ⟨hr, ha, hb, ht, hnt⟩ := hb
  unfold rrB at hr
  simp only [Bool.and_eq_true, Bool.not_eq_true', decide_eq_true_eq, decide_eq_false_iff_not] at hr
  obtain ⟨r1, r2, r3, r4, r5, r6, r7, r8, r9, r10, r11, r12⟩ := hr
  have c1 : decide (p.c > 1099511627776) = false := by simp; omega
  have c2 : decide (p.c < 1) = false := by simp; omega
  have c3 : decide (p.t > 64) = false := by simp; omega
  have c4 : decide (p.t < 1) = false := by simp; omega
  refine WPs.runs (C := Cts w) tSt c_initb fun os hos => ?_
  obtain ⟨o0, o1, rfl⟩ := orcsN2 hos
  refine ⟨_, _, u5 p (.slice tb tn tc) o0 o1, ?_⟩
  refine ⟨c1, c2, by simp; omega, by simp; omega, by simp; omega, by simp; omega, by simp; omega, by simp; omega, by simp; omega, by simp; omega, by simp; omega, by simp; omega, by simp; omega, by simp; omega, by simp; omega, by simp; omega, by simp; omega, ⟨rfl, by omega, by omega⟩, fun g1 z1 => ?_⟩
  refine ⟨by simp; omega, by simp; omega, ⟨rfl, by omega, by omega⟩, fun g2 z2 => ?_⟩
  refine ⟨c1, c2, c3, c4, by simp; omega, by simp; omega, rfl, rfl, by simp; omega, by simp; omega, c1, c2, c3, c4, ?_⟩
  have q1 : ∃ zs : List Value, o0.l = ((List.range (o0.n * 17)).map fun k => lvZ.getD (k % 17) default).drop (1 * 17) := by
    obtain ⟨zs, y1, y2, y3⟩ := z1
    have : zs = lvZ := by
      have := y1 (fun _ => none)
      simp only [SV.denL, SV.den, Option.bind_some, Option.map_some, Option.some.injEq] at this
      exact this.symm
    subst this
    exact ⟨[], y3⟩
  have q2 : ∃ zs : List Value, o1.l = ((List.range (o1.n * 3)).map fun k => pgZ.getD (k % 3) default).drop (1 * 3) := by
    obtain ⟨zs, y1, y2, y3⟩ := z2
    have : zs = pgZ := by
      have := y1 (fun _ => none)
      simp only [SV.denL, SV.den, Option.bind_some, Option.map_some, Option.some.injEq] at this
      exact this.symm
    subst this
    exact ⟨[], y3⟩
  obtain ⟨_, q1⟩ := q1
  obtain ⟨_, q2⟩ := q2
  show WPs _ _ _
  refine WPs.callQuiet (C := Cts w) (R := OneSl) (u6 p (.slice tb tn tc) o0 o1) (fun ρ w vs hH _ hv => live_spec 5 6 16 17 p.c q1 (by omega) (by omega) rfl rfl ρ w vs hH hv) ?_
  rintro _ ⟨la, lc, rfl⟩
  refine WPs.runs (C := Cts w) tSt [.seg [], .canon keepO scO] fun os hos => ?_
  obtain ⟨oc, rfl⟩ := orcsN1 hos
  refine ⟨_, _, p_init2 p (.slice tb tn tc) o0 o1 oc la lc, (fun n b e => by cases e), ?_⟩
  exact ts_outer p ⟨o0.n, o1.n, o0.l, o1.l⟩ w I hP hnt ht r12 ⟨q1, q2⟩ ⟨by show 1 ≤ o0.n; omega, by show 1 ≤ o1.n; omega⟩ ⟨by show o0.n ≤ 100000; omega, by show o1.n ≤ 100000; omega⟩ (by omega) p.n 0 1 0 0 [] 0 oc.j oc.jc (by omega) (by omega) (by omega)

theorem ts_calls (bs tb : Option Addr) (tn tc : Nat) (hI : ∀ b o, I b = some o → w.heap[b]? = some o) (hn : p.n < 9223372036854775807) (hA : p.n = 0 ∨ bs = some p.ad ∧ PlayIn I p.ad p.n) :
    Calls Pr 4 #[.agg #[.int .i64 p.a, .int .i64 p.b, .int .i64 p.t, .int .i64 p.r, .int .i64 p.h, .int .i64 p.c, .slice bs p.n p.cap, .slice tb tn tc]] w fun e w' => e = .returned (.bool true) ∧ Quiet w w' := by
  have := calls_of_wps (C := Cts w) (I := I) (f := 4) (args := [fArg p bs (.slice tb tn tc)]) (vs := [.agg #[.int .i64 p.a, .int .i64 p.b, .int .i64 p.t, .int .i64 p.r, .int .i64 p.h, .int .i64 p.c, .slice bs p.n p.cap, .slice tb tn tc]]) (w := w) (H0 := []) (enters_of (u0 p bs (.slice tb tn tc))) rfl rfl
    ⟨fun n _ _ _ _ hn => by simp at hn, fun n _ hn => by simp at hn, fun n m b hn _ _ _ => by obtain ⟨o, ho, _⟩ := hn; simp at ho, fun n b hb => by cases hb⟩
    (by simp [fArg, SV.denL, SV.den]) (fun b o hb => ⟨hI b o hb, fun n e => by cases e⟩) (ts_wps p w I bs tb tn tc hn hA)
  refine this.mono fun e w' hF => ?_
  obtain ⟨x, H, ρ, I, val, rfl, hx, _, hmv, _, hQ⟩ := hF
  subst hQ
  simp only [SV.den, Option.some.injEq] at hx
  subst hx
  exact ⟨rfl, hmv.quiet⟩
end
end Go.Rl.Z
