/-
  TopStores: what holds in its inner loop.
-/
import Derived.Test.YtghmpcnchjjikaaGreatRlZfc
set_option linter.all false
set_option linter.unusedVariables false
set_option linter.unusedSimpArgs false
set_option linter.unnecessarySimpa false
open Go Go.Rl
namespace Go.Rl.Z
set_option maxRecDepth 100000
noncomputable abbrev Cts (w : World) : Ctx := { P := Pr, hm := rmix, f0 := 4, ρ0 := fun _ => none, w0 := w, Q := fun x _ _ => x = .b true }
def ErOK (er : SV) : Prop := er = .ni ∨ ∃ x, er = .ifc 252 (.v x)

inductive InS (p : TP) (q : TQ) (i : Nat) (bo : Option Addr) (m mcap e : Nat) : SS → Prop
  | s00 (now tl : Int) (cI : Nat) (lM : List (Int × Int × Nat)) (cM : Nat) (j : Nat → Value) (jc : Nat → Nat → Value) (er : SV) (h1 : 1 ≤ now) (h2 : now ≤ p.c) (he : ErOK er) :
    InS p q i bo m mcap e (tIH00 p q now tl [] cI lM cM j jc i bo m mcap (e : Int) er)
  | s01 (now tl : Int) (cI : Nat) (lM : List (Int × Int × Nat)) (cM : Nat) (j : Nat → Value) (jc : Nat → Nat → Value) (sl sc : Nat) (sr : List Value) (er : SV) (h1 : 1 ≤ now) (h2 : now ≤ p.c) (he : ErOK er) (hsl : sl ≤ e) (hsc : sl ≤ sc) (hsr : sr.length = sc * 3) :
    InS p q i bo m mcap e (tIH01 p q now tl [] cI lM cM j jc i bo m mcap (e : Int) sl sc sr er)
  | s10 (now tl : Int) (cI : Nat) (lM : List (Int × Int × Nat)) (cM : Nat) (j : Nat → Value) (jc : Nat → Nat → Value) (kl kc : Nat) (kr : List Value) (er : SV) (h1 : 1 ≤ now) (h2 : now ≤ p.c) (he : ErOK er) (hkl : kl ≤ e) (hkc : kl ≤ kc) (hkr : kr.length = kc * 1) :
    InS p q i bo m mcap e (tIH10 p q now tl [] cI lM cM j jc i bo m mcap (e : Int) kl kc kr er)
  | s11 (now tl : Int) (cI : Nat) (lM : List (Int × Int × Nat)) (cM : Nat) (j : Nat → Value) (jc : Nat → Nat → Value) (kl kc : Nat) (kr : List Value) (sl sc : Nat) (sr : List Value) (er : SV) (h1 : 1 ≤ now) (h2 : now ≤ p.c) (he : ErOK er)
      (hkl : kl ≤ e) (hkc : kl ≤ kc) (hkr : kr.length = kc * 1) (hsl : sl ≤ e) (hsc : sl ≤ sc) (hsr : sr.length = sc * 3) :
    InS p q i bo m mcap e (tIH11 p q now tl [] cI lM cM j jc i bo m mcap (e : Int) kl kc kr sl sc sr er)

theorem imHas_one (i x : Int) (c : Nat) : (!(imHas i [(i, x, c)])) = false := by simp [imHas, imFind]
theorem imDel_one (i x : Int) (c : Nat) : imDel i [(i, x, c)] = [] := by simp [imDel, imFind]

theorem act_imm {I : Imm} {bd : Addr} (hsp : bd.spot = none) {e : Nat} {cs : Array Value} {T : TypeId} {fz : Nat × Nat} {l : List Value} (hI : I bd.block = some (.cells cs T fz)) (hl : (cs.toList.drop (bd.off + e * 9)).take 9 = l) :
    IsImm I (bd.add ((e : Int).toNat * 9)) 9 l := by
  obtain ⟨e1, e2, e3⟩ := addr_add' hsp (e * 9)
  have : (e : Int).toNat = e := by simp
  rw [this]
  exact ⟨e3, cs, T, fz, by rw [e1]; exact hI, by rw [e2]; exact hl⟩

theorem cmp_e (ky : ByteArray) : IsCall Pr 96 [.s ByteArray.empty, .v (.string ky)] (.v (.int .i64 (cmpI ByteArray.empty ky))) := by
  refine ⟨_, fun ρ => rfl, fun ρ w vs hv => ?_⟩
  simp only [SV.denL, SV.den, Option.bind_some, Option.map_some, Option.some.injEq] at hv
  subst hv
  exact cmp_calls ByteArray.empty ky (by decide) w
theorem ext72 : IsExt Pr 72 [.ifc 40 (.i .i64 6)] (.ifc 216 (.v rt)) := by
  intro ρ vs w hv
  simp only [SV.denL, SV.den, Option.bind_some, Option.map_some, Option.some.injEq] at hv
  subst hv
  exact ⟨_, typeOf_run _ w, rfl⟩
theorem ext306 : IsExt Pr 306 [.v rt] (.b true) := by
  intro ρ vs w hv
  simp only [SV.denL, SV.den, Option.bind_some, Option.map_some, Option.some.injEq] at hv
  subst hv
  exact ⟨_, comparable_run w, rfl⟩

theorem orcsN1 {os : List Orc} (h : os.length = 1) : ∃ a, os = [a] := orcs1 h
theorem orcsN2 {os : List Orc} (h : os.length = 2) : ∃ a b, os = [a, b] := orcs2 h
theorem orcsN3 {os : List Orc} (h : os.length = 3) : ∃ a b c, os = [a, b, c] := by
  obtain ⟨o, os', rfl, h'⟩ := orcs_succ h; obtain ⟨b, c, rfl⟩ := orcsN2 h'; exact ⟨o, b, c, rfl⟩
theorem orcsN4 {os : List Orc} (h : os.length = 4) : ∃ a b c d, os = [a, b, c, d] := by
  obtain ⟨o, os', rfl, h'⟩ := orcs_succ h; obtain ⟨b, c, d, rfl⟩ := orcsN3 h'; exact ⟨o, b, c, d, rfl⟩
theorem orcsN5 {os : List Orc} (h : os.length = 5) : ∃ a b c d e, os = [a, b, c, d, e] := by
  obtain ⟨o, os', rfl, h'⟩ := orcs_succ h; obtain ⟨b, c, d, e, rfl⟩ := orcsN4 h'; exact ⟨o, b, c, d, e, rfl⟩
theorem orcsN6 {os : List Orc} (h : os.length = 6) : ∃ a b c d e f, os = [a, b, c, d, e, f] := by
  obtain ⟨o, os', rfl, h'⟩ := orcs_succ h; obtain ⟨b, c, d, e, f, rfl⟩ := orcsN5 h'; exact ⟨o, b, c, d, e, f, rfl⟩
theorem orcsN7 {os : List Orc} (h : os.length = 7) : ∃ a b c d e f g, os = [a, b, c, d, e, f, g] := by
  obtain ⟨o, os', rfl, h'⟩ := orcs_succ h; obtain ⟨b, c, d, e, f, g, rfl⟩ := orcsN6 h'; exact ⟨o, b, c, d, e, f, g, rfl⟩
end Go.Rl.Z
