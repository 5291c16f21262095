/-
  TopStores: what comes in.
-/
import Derived.Test.YtghmpcnchjjikaaGreatRlZtz
import Derived.Test.YtghmpcnchjjikaaGreatRlSx
import Derived.Test.YtghmpcnchjjikaaGreatRows
import Derived.SizedLaws
set_option linter.all false
set_option linter.unusedVariables false
set_option linter.unusedSimpArgs false
set_option linter.unnecessarySimpa false
open Go Go.Rl
namespace Go.Rl.Z
set_option maxRecDepth 100000

section
variable {H : Type} {enc : TypeId × Value → H} {w : World} {spare : Nat → Bool} {held : Bool}

theorem int_at {fuel : Nat} {t : TypeId} {cs : List Value} {x : DataW H × List MemPlace} (i : Nat) (hk : kindAt Pr 4 t i = some (.i .i64)) (h : DataW.trod enc Pr w 0 spare held fuel t cs = some x) :
    ∃ n, cs[i]? = some (.int .i64 n) ∧ (Lit.int .i64 n).wf = true := by
  obtain ⟨v, hv, n, rfl, hw⟩ := kindAt_ok hk h
  exact ⟨n, hv, hw⟩
theorem bool_at {fuel : Nat} {t : TypeId} {cs : List Value} {x : DataW H × List MemPlace} (i : Nat) (hk : kindAt Pr 4 t i = some .b) (h : DataW.trod enc Pr w 0 spare held fuel t cs = some x) :
    ∃ n, cs[i]? = some (.bool n) := by
  obtain ⟨v, hv, n, rfl⟩ := kindAt_ok hk h
  exact ⟨n, hv⟩
theorem str_at {fuel : Nat} {t : TypeId} {cs : List Value} {x : DataW H × List MemPlace} (i : Nat) (hk : kindAt Pr 4 t i = some .s) (h : DataW.trod enc Pr w 0 spare held fuel t cs = some x) :
    ∃ n : ByteArray, cs[i]? = some (.string n) ∧ n.size ≤ maxLen := by
  obtain ⟨v, hv, n, rfl, hw⟩ := kindAt_ok hk h
  exact ⟨n, hv, hw⟩

theorem list_ext8 {cs : List Value} {a b c d e f g h : Value} (hl : cs.length = 8) (h0 : cs[0]? = some a) (h1 : cs[1]? = some b) (h2 : cs[2]? = some c) (h3 : cs[3]? = some d) (h4 : cs[4]? = some e) (h5 : cs[5]? = some f) (h6 : cs[6]? = some g) (h7 : cs[7]? = some h) :
    cs = [a, b, c, d, e, f, g, h] := by
  match cs, hl with
  | [_, _, _, _, _, _, _, _], _ => simp_all
theorem list_ext9 {cs : List Value} {a b c d e f g h i : Value} (hl : cs.length = 9) (h0 : cs[0]? = some a) (h1 : cs[1]? = some b) (h2 : cs[2]? = some c) (h3 : cs[3]? = some d) (h4 : cs[4]? = some e) (h5 : cs[5]? = some f) (h6 : cs[6]? = some g) (h7 : cs[7]? = some h) (h8 : cs[8]? = some i) :
    cs = [a, b, c, d, e, f, g, h, i] := by
  match cs, hl with
  | [_, _, _, _, _, _, _, _, _], _ => simp_all

theorem act_of {fuel : Nat} {cs : List Value} {x : DataW H × List MemPlace} (hl : cs.length = 9) (h : DataW.trod enc Pr w 0 spare held fuel 48 cs = some x) :
    ∃ k rd ky vl lo hi ub lm rv, cs = actV k rd ky vl lo hi ub lm rv := by
  obtain ⟨a, h0, _⟩ := int_at 0 (by kernel_rfl) h
  obtain ⟨b, h1⟩ := bool_at 1 (by kernel_rfl) h
  obtain ⟨c, h2, _⟩ := str_at 2 (by kernel_rfl) h
  obtain ⟨d, h3, _⟩ := str_at 3 (by kernel_rfl) h
  obtain ⟨e, h4, _⟩ := str_at 4 (by kernel_rfl) h
  obtain ⟨f, h5, _⟩ := str_at 5 (by kernel_rfl) h
  obtain ⟨g, h6⟩ := bool_at 6 (by kernel_rfl) h
  obtain ⟨i, h7, _⟩ := int_at 7 (by kernel_rfl) h
  obtain ⟨j, h8⟩ := bool_at 8 (by kernel_rfl) h
  exact ⟨a, b, c, d, e, f, g, i, j, list_ext9 hl h0 h1 h2 h3 h4 h5 h6 h7 h8⟩

theorem add_add {a : Addr} (n : Nat) {j : Nat} (hj : 0 < j) : (a.add n).add j = ⟨a.block, a.off + n + j, none⟩ := by
  unfold Addr.add
  rw [if_neg (by omega)]
  split
  · subst n; rfl
  · rfl

/-- Cells that stand in memory one behind the other. -/
theorem row_of {a : Addr} {n m : Nat} {cs : List Value} (hm : 0 < m) (h : w.cells? 0 (a.add n) m = some cs) :
    (a.add n).spot = none ∧ ∃ row T fz, w.heap[a.block]? = some (.cells row T fz) ∧ (row.toList.drop (a.off + n)).take m = cs := by
  obtain ⟨_, hl, hc⟩ := World.cells?_some h
  have hsp : (a.add n).spot = none := by
    have h0 := hc 0 hm
    have : cs[0]? = some (cs[0]'(by omega)) := List.getElem?_eq_getElem _
    rw [this] at h0
    have := World.cell?_spot h0
    simpa [Addr.add] using this
  have hblk : (a.add n).block = a.block ∧ (a.add n).off = a.off + n := by
    unfold Addr.add
    split
    · subst n; exact ⟨rfl, rfl⟩
    · exact ⟨rfl, rfl⟩
  have hcell : ∀ j, w.cell? ((a.add n).add j) = (match w.heap[a.block]? with | some (.cells c _ _) => c[a.off + n + j]? | _ => none) := by
    intro j
    obtain ⟨e1, e2, e3⟩ : ((a.add n).add j).block = a.block ∧ ((a.add n).add j).off = a.off + n + j ∧ ((a.add n).add j).spot = none := by
      by_cases hj : j = 0
      · subst hj
        have : (a.add n).add 0 = a.add n := by simp [Addr.add]
        rw [this]
        exact ⟨hblk.1, by rw [hblk.2]; rfl, hsp⟩
      · have : (a.add n).add j = ⟨(a.add n).block, (a.add n).off + j, none⟩ := by
          show (if j = 0 then _ else _) = _
          rw [if_neg hj]
        rw [this]
        exact ⟨hblk.1, by show (a.add n).off + j = _; rw [hblk.2], rfl⟩
    unfold World.cell?
    rw [e1, e2, e3]
    cases w.heap[a.block]? with
    | none => rfl
    | some o => cases o <;> rfl
  refine ⟨hsp, ?_⟩
  have h0 := hc 0 hm
  rw [hcell, List.getElem?_eq_getElem (by omega)] at h0
  split at h0
  case h_2 => cases h0
  case h_1 c T fz hb =>
    refine ⟨c, T, fz, hb, ?_⟩
    apply List.ext_getElem?
    intro j
    rw [List.getElem?_take]
    split
    · rename_i hj
      have := hc j hj
      rw [hcell, hb] at this
      rw [List.getElem?_drop, ← this]
      simp
    · rw [List.getElem?_eq_none (by omega)]

theorem weights_all {e : TypeId} : ∀ {ds : List (DataW H)} {d : DataW H}, d ∈ ds → ∀ n ∈ d.weights Pr e, n ∈ DataW.weightsAll Pr e ds
  | d0 :: ds, d, hd, n, hn => by
    simp only [DataW.weightsAll, List.mem_append]
    rcases List.mem_cons.1 hd with rfl | hd
    · exact .inl hn
    · exact .inr (weights_all hd n hn)

/-- Acts that came in. -/
theorem acts_in {fuel : Nat} {x : DataW H × List MemPlace} {base : Option Addr} {n cap : Nat} (h : DataW.trod enc Pr w 0 spare held fuel 24 [.slice base n cap] = some x)
    (hz : ∀ n ∈ x.1.weights Pr 24, n ≤ reachBytes) : n * 72 ≤ 140737488355328 ∧ ActsIn (fun b => w.heap[b]?) base n := by
  have hu : Pr.underlying 24 = some (.slice 48) := by kernel_rfl
  have h9 : Pr.cellsOf 48 = 9 := by kernel_rfl
  have hb : Pr.bytesOf 48 = 104 := by kernel_rfl
  rcases DataW.trod_slice hu h with ⟨e1, _⟩ | ⟨a, len, cap', elems, rest, m, _, e1, ex, _, _, _, hlen, hel, _⟩
  · simp only [List.cons.injEq, Value.slice.injEq, and_true] at e1
    obtain ⟨rfl, rfl, rfl⟩ := e1
    exact ⟨by decide, .inl rfl⟩
  · simp only [List.cons.injEq, Value.slice.injEq, and_true] at e1
    obtain ⟨rfl, rfl, rfl⟩ := e1
    constructor
    · have := hz ((elems.length + rest.length) * 104) (by rw [ex]; simp [DataW.weights, hu, hb])
      have hr : reachBytes = 140737488351232 := rfl
      rw [hr] at this
      omega
    · by_cases hn : n = 0
      · exact .inl hn
      have hcell : ∀ i, i < n → ∃ cs' y, w.cells? 0 (a.add (i * 9)) 9 = some cs' ∧ DataW.trod enc Pr w 0 spare held m 48 cs' = some y := by
        intro i hi
        have := hel i hi
        rw [List.getElem?_eq_getElem (by omega), h9] at this
        simp only [Option.bind_eq_some_iff] at this
        obtain ⟨cs', k1, k2⟩ := this
        exact ⟨cs', _, k1, k2⟩
      refine .inr ⟨a, rfl, ?_, fun i hi => ?_⟩
      · obtain ⟨cs', y, hc, _⟩ := hcell 0 (by omega)
        have := (row_of (by decide) hc).1
        simpa [Addr.add] using this
      · obtain ⟨cs', y, hc, ht⟩ := hcell i hi
        obtain ⟨_, row, T, fz, hbk, hr⟩ := row_of (by decide) hc
        obtain ⟨k, rd, ky, vl, lo, hi', ub, lm, rv, rfl⟩ := act_of (World.cells?_some hc).2.1 ht
        exact ⟨row, T, fz, k, rd, ky, vl, lo, hi', ub, lm, rv, hbk, hr⟩

/-- Lists that came in. -/
theorem lists_in {fuel : Nat} {x : DataW H × List MemPlace} {base : Option Addr} {n cap : Nat} (h : DataW.trod enc Pr w 0 spare held fuel 52 [.slice base n cap] = some x)
    (hz : ∀ n ∈ x.1.weights Pr 52, n ≤ reachBytes) : n < 9223372036854775807 ∧ (n = 0 ∨ ∃ ad, base = some ad ∧ PlayIn (fun b => w.heap[b]?) ad n) := by
  have hu : Pr.underlying 52 = some (.slice 24) := by kernel_rfl
  have hu2 : Pr.underlying 24 = some (.slice 48) := by kernel_rfl
  have h9 : Pr.cellsOf 24 = 1 := by kernel_rfl
  have hb : Pr.bytesOf 24 = 24 := by kernel_rfl
  rcases DataW.trod_slice hu h with ⟨e1, _⟩ | ⟨a, len, cap', elems, rest, m, _, e1, ex, _, _, _, hlen, hel, _⟩
  · simp only [List.cons.injEq, Value.slice.injEq, and_true] at e1
    obtain ⟨rfl, rfl, rfl⟩ := e1
    exact ⟨by decide, .inl rfl⟩
  · simp only [List.cons.injEq, Value.slice.injEq, and_true] at e1
    obtain ⟨rfl, rfl, rfl⟩ := e1
    constructor
    · have := hz ((elems.length + rest.length) * 24) (by rw [ex]; simp [DataW.weights, hu, hb])
      have hr : reachBytes = 140737488351232 := rfl
      rw [hr] at this
      omega
    · refine .inr ⟨a, rfl, fun i hi => ?_⟩
      have hi' : i < elems.length := by omega
      have := hel i hi
      rw [List.getElem?_eq_getElem hi', h9] at this
      simp only [Option.bind_eq_some_iff] at this
      obtain ⟨cs', hc, ht⟩ := this
      rw [Nat.mul_one] at hc
      have hsl : ∃ bo k c, cs' = [.slice bo k c] := by
        rcases DataW.trod_slice hu2 ht with ⟨e1, _⟩ | ⟨a, len, cap', _, _, _, _, e1, _⟩
        · exact ⟨_, _, _, e1⟩
        · exact ⟨_, _, _, e1⟩
      obtain ⟨bo, k, c, rfl⟩ := hsl
      obtain ⟨h1, row, T, fz, hbk, hr⟩ := row_of (by decide) hc
      have hw : ∀ n ∈ (elems[i]).1.weights Pr 24, n ≤ reachBytes := by
        intro n hn
        refine hz n ?_
        rw [ex]
        simp only [DataW.weights, hu, List.mem_cons, List.mem_append]
        exact .inr (.inl (weights_all (List.mem_map.2 ⟨_, List.getElem_mem hi', rfl⟩) n hn))
      obtain ⟨h3, h4⟩ := acts_in ht hw
      have hbo : (a.add i).block = a.block ∧ (a.add i).off = a.off + i := by
        unfold Addr.add
        split
        · subst i; exact ⟨rfl, rfl⟩
        · exact ⟨rfl, rfl⟩
      refine ⟨row, T, fz, bo, k, c, h1, by rw [hbo.1]; exact hbk, ?_, h3, h4⟩
      rw [hbo.2]
      have := cell_of_take (k := 0) (m := 1) hr (by decide) _ rfl
      simpa using this

/-- A play that came in. -/
theorem play_in {fuel : Nat} {cs : List Value} {x : DataW H × List MemPlace} (hl : cs.length = 8) (h : DataW.trod enc Pr w 0 spare held fuel 55 cs = some x) (hz : ∀ n ∈ x.1.weights Pr 55, n ≤ reachBytes) :
    ∃ (p : TP) (bs tb : Option Addr) (tn tc : Nat), cs = [.int .i64 p.a, .int .i64 p.b, .int .i64 p.t, .int .i64 p.r, .int .i64 p.h, .int .i64 p.c, .slice bs p.n p.cap, .slice tb tn tc] ∧ p.n < 9223372036854775807 ∧ (p.n = 0 ∨ bs = some p.ad ∧ PlayIn (fun b => w.heap[b]?) p.ad p.n) := by
  obtain ⟨a, h0, _⟩ := int_at 0 (by kernel_rfl) h
  obtain ⟨b, h1, _⟩ := int_at 1 (by kernel_rfl) h
  obtain ⟨c, h2, _⟩ := int_at 2 (by kernel_rfl) h
  obtain ⟨d, h3, _⟩ := int_at 3 (by kernel_rfl) h
  obtain ⟨e, h4, _⟩ := int_at 4 (by kernel_rfl) h
  obtain ⟨f, h5, _⟩ := int_at 5 (by kernel_rfl) h
  have hsl : ∀ (i : Nat), (match kindAt Pr 4 55 i with | some (.sl _) => true | _ => false) = true → ∃ bo k c, cs[i]? = some (.slice bo k c) := by
    intro i hk
    split at hk
    case h_2 => cases hk
    rename_i t hk2
    obtain ⟨v, hv, hok⟩ := kindAt_ok hk2 h
    rcases hok with rfl | ⟨a, len, cap, rfl, _⟩
    · exact ⟨_, _, _, hv⟩
    · exact ⟨_, _, _, hv⟩
  obtain ⟨bs, n, cap, h6⟩ := hsl 6 (by kernel_rfl)
  obtain ⟨tb, tn, tc, h7⟩ := hsl 7 (by kernel_rfl)
  have hcs := list_ext8 hl h0 h1 h2 h3 h4 h5 h6 h7
  subst hcs
  have hu : Pr.underlying 55 = some (.struct #[{ name := "Limits", type := 23, offset := 0, embedded := false, tag := "", pkgPath := "", byteOffset := 0 },
        { name := "Acts", type := 52, offset := 6, embedded := false, tag := "", pkgPath := "", byteOffset := 48 },
        { name := "Turns", type := 53, offset := 7, embedded := false, tag := "", pkgPath := "", byteOffset := 72 }]) := Go.Proofs.Tryz.underlying55
  have c52 : Pr.cellsOf 52 = 1 := by kernel_rfl
  obtain ⟨xs, m, _, ex, _, hlen, hf⟩ := DataW.trod_struct hu h
  have hx := hf 1 _ rfl
  have hl1 : 1 < xs.length := by rw [hlen]; decide
  rw [List.getElem?_eq_getElem hl1] at hx
  have hx' : DataW.trod enc Pr w 0 spare held m 52 [.slice bs n cap] = some xs[1] := by
    have := hx
    simpa [c52] using this
  have hw : ∀ n ∈ (xs[1]).1.weights Pr 52, n ≤ reachBytes := by
    intro n hn
    refine hz n ?_
    rw [ex]
    simp only [DataW.weights, hu]
    exact DataW.weights_mem_each (j := 1) (t := 52) rfl (by rw [List.getElem?_map, List.getElem?_eq_getElem hl1]; rfl) n hn
  obtain ⟨g1, g2⟩ := lists_in hx' hw
  rcases g2 with g2 | ⟨ad, rfl, g2⟩
  · exact ⟨⟨a, b, c, d, e, f, default, n, cap⟩, bs, tb, tn, tc, rfl, g1, .inl g2⟩
  · exact ⟨⟨a, b, c, d, e, f, ad, n, cap⟩, _, tb, tn, tc, rfl, g1, .inr ⟨rfl, g2⟩⟩
end
end Go.Rl.Z
