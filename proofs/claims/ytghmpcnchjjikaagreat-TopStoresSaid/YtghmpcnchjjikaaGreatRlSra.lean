/-
  Rules, more: what is appended to a slice of open length; how many entries a map has; a load of one cell that never turns.
-/
import Derived.Test.YtghmpcnchjjikaaGreatRlSr9
import Derived.Laws.AppendOwn
set_option linter.all false
set_option linter.unusedVariables false
set_option linter.unusedSimpArgs false
set_option linter.unnecessarySimpa false
namespace Go.Rl
open Go

/-- What is appended to a slice of open length. -/
structure App where
  n : Nat
  len : Nat
  cap : Nat
  rest : List Value
  e : TypeId
  k : Nat
  sz : Nat
  news : List SV
  bytes : Nat

def appAt (P : Program) (S : SS) : Option App :=
  (siteAt S).bind fun o => match o.op with
    | .call c => (match c.callee, c.args.toList, c.argTypes.toList with
      | .builtin .append, [a, b], [t, tx] =>
        (match P.underlying t, P.underlying tx, sval (topTm S) a with
        | some (.slice e), some (.slice _), .so n 0 len cap _ =>
          (match S.heap[n]? with
          | some (.row true [] rest T) =>
            (sliceCells P S.heap e (sval (topTm S) b)).bind fun (k, _, news) => (P.info? e).bind fun i =>
              (match i.zero with
              | some z => if (Nat.beq T e && news.all oneS) && Nat.beq z.cells.size i.size then some ⟨n, len, cap, rest, e, k, i.size, news, i.bytes⟩ else none
              | none => none)
          | _ => none)
        | _, _, _ => none)
      | _, _, _ => none)
    | _ => none

section
variable {C : Ctx} {I : Imm} {S : SS}

theorem oneS_cell {ρ : Rho} : ∀ {news : List SV} {vs : List Value}, news.all oneS = true → SV.denL ρ news = some vs → ∀ u ∈ vs, u.oneCell' = true := by
  intro news
  induction news with
  | nil => intro vs _ h u hu; simp only [SV.denL, Option.some.injEq] at h; subst h; cases hu
  | cons x r ih =>
    intro vs ha h u hu
    simp only [List.all_cons, Bool.and_eq_true] at ha
    simp only [SV.denL, Option.bind_eq_some_iff, Option.map_eq_some_iff] at h
    obtain ⟨y, hy, l, hl, rfl⟩ := h
    rcases List.mem_cons.1 hu with rfl | hu
    · cases x <;> simp only [SV.den, Option.some.injEq, Option.map_eq_some_iff] at hy
      case v z =>
        subst hy
        have := ha.1
        simp only [oneS] at this
        cases z <;> simp_all [oneV, Value.oneCell']
      case ag => simp [oneS] at ha
      case tp => simp [oneS] at ha
      case so n off len cap lo =>
        split at hy
        · simp only [Option.map_eq_some_iff] at hy; obtain ⟨_, _, rfl⟩ := hy; rfl
        · cases hy
      all_goals first
        | (subst hy; rfl)
        | (obtain ⟨_, _, rfl⟩ := hy; rfl)
    · exact ih ha.2 hl u hu

/-- What 'appAt' says. -/
theorem appAt_spec {A : App} (h : appAt C.P S = some A) :
    ∃ o c a b t tx lo i z it cap2, siteAt S = some o ∧ o.op = .call c ∧ c = { callee := .builtin .append, args := #[a, b], argTypes := #[t, tx] } ∧
      C.P.underlying t = some (.slice A.e) ∧ C.P.underlying tx = some (.slice i) ∧ sval (topTm S) a = .so A.n 0 A.len A.cap lo ∧ S.heap[A.n]? = some (.row true [] A.rest A.e) ∧
      sliceCells C.P S.heap A.e (sval (topTm S) b) = some (A.k, cap2, A.news) ∧ C.P.info? A.e = some it ∧ it.zero = some z ∧ it.size = A.sz ∧ it.bytes = A.bytes ∧ A.news.all oneS = true ∧ z.cells.size = it.size := by
  unfold appAt at h
  cases hs : siteAt S with
  | none => rw [hs] at h; cases h
  | some o =>
    rw [hs] at h
    simp only [Option.bind_some] at h
    split at h
    case h_2 => cases h
    case h_1 c hop =>
      split at h
      case h_2 => cases h
      case h_1 a b t tx hcal hargs hts =>
        split at h
        case h_2 => cases h
        case h_1 e e' n len cap lo hu hux ha =>
          split at h
          case h_2 => cases h
          case h_1 rest T hn =>
            cases hb : sliceCells C.P S.heap e (sval (topTm S) b) with
            | none => rw [hb] at h; cases h
            | some p =>
              obtain ⟨k, cap2, news⟩ := p
              cases hi : C.P.info? e with
              | none => rw [hb, hi] at h; cases h
              | some it =>
                rw [hb, hi] at h
                simp only [Option.bind_some] at h
                split at h
                case h_2 => cases h
                case h_1 z hz =>
                  split at h
                  case isFalse => cases h
                  case isTrue hcond =>
                    simp only [Bool.and_eq_true] at hcond
                    have hT := Nat.eq_of_beq_eq_true hcond.1.1
                    subst hT
                    simp only [Option.some.injEq] at h
                    subst h
                    have h1 : c.argTypes = #[t, tx] := by rw [← Array.toArray_toList (xs := c.argTypes), hts]
                    have h2 : c.args = #[a, b] := by rw [← Array.toArray_toList (xs := c.args), hargs]
                    refine ⟨o, c, a, b, t, tx, lo, e', z, it, cap2, rfl, hop, ?_, hu, hux, ha, hn, hb, hi, hz, rfl, rfl, hcond.1.2, Nat.eq_of_beq_eq_true hcond.2⟩
                    cases c; simp only at hcal h1 h2; subst hcal h1 h2; rfl

theorem sload_rest {P : Program} {H : List SO} {n : Nat} {ks : List SV} {rest rest' : List Value} {T : TypeId} (hn : H[n]? = some (.row true ks rest T)) (t : TypeId) (m off : Nat) :
    sload P (H.set n (.row true ks rest' T)) t m off = sload P H t m off := by
  unfold sload
  have : (H.set n (.row true ks rest' T))[m]?.bind ksOf = H[m]?.bind ksOf := by
    rw [List.getElem?_set]
    split
    · rename_i e
      subst e
      have := (List.getElem?_eq_some_iff.1 hn).1
      rw [if_pos this, hn]
      rfl
    · rfl
  rw [this]

theorem Keeps.rest {P : Program} {H : List SO} {n : Nat} {ks : List SV} {rest : List Value} {T : TypeId} (hn : H[n]? = some (.row true ks rest T)) (rest' : List Value) (c : SFr) : Keeps P H (H.set n (.row true ks rest' T)) c := by
  refine ⟨fun _ _ _ _ _ _ _ _ _ _ _ _ _ hs => by rw [sload_rest hn]; exact hs, fun m _ ks' T' hr => ?_⟩
  by_cases hm : m = n
  · subst hm; rw [hn] at hr; cases hr
  · rw [List.getElem?_set_ne (Ne.symm hm)]; exact hr

/-- There is room. -/
theorem WPs.appRoom {A : App} (h : appAt C.P S = some A) (hroom : A.len + A.k ≤ A.cap) (hfit : A.rest.length = A.cap * A.sz)
    (g : ∀ rest', rest'.length = A.rest.length → WPs C I (behind S (.so A.n 0 (A.len + A.k) A.cap 0) (S.heap.set A.n (.row true [] rest' A.e)))) : WPs C I S := by
  obtain ⟨o, c, a, b, t, tx, lo, i, z, it, cap2, hs, hop, hc, hu, hux, ha, hn, hb, hi, hz, hsz, hby, hone, hzs⟩ := appAt_spec h
  refine WPs.op hs (R := fun x H' I' => ∃ rest', rest'.length = A.rest.length ∧ x = .so A.n 0 (A.len + A.k) A.cap 0 ∧ H' = S.heap.set A.n (.row true [] rest' A.e) ∧ I' = I) ?_ ?_
  · intro ρ w r hH hI hden
    have hda := hden a (by rw [hop, hc]; simp [Op.operands, Call.operands])
    have hdb := hden b (by rw [hop, hc]; simp [Op.operands, Call.operands])
    have htsz : tsz C.P A.e = some A.sz := by simp [tsz, hi, hsz]
    obtain ⟨base2, vn, hvb, hdn, hln, hrn⟩ := sliceCells_run hH hb hdb htsz
    rw [ha] at hda
    simp only [SV.den] at hda
    split at hda
    case isFalse => cases hda
    case isTrue hlo =>
      simp only [Option.map_eq_some_iff] at hda
      obtain ⟨g0, hg0, hva⟩ := hda
      obtain ⟨vs0, hd0, hrow⟩ := (hH.row _ _ _ _ _ hn).2 g0 hg0
      simp only [SV.denL, Option.some.injEq] at hd0
      subst hd0
      simp only [List.nil_append] at hrow
      have h1 := oneS_cell hone hdn
      have hfit2 : A.len * A.sz + vn.length ≤ A.rest.length := by rw [hfit, hln, ← Nat.add_mul]; exact Nat.mul_le_mul_right _ hroom
      have hst := run_storeCells_at C.P g0 (A.len * A.sz) A.e vn 0 A.rest.toArray w hrow (by simpa using hfit2) h1
      simp only [Nat.add_zero, List.toList_toArray] at hst
      have hrun : (Builtin.append_ #[t, tx] o.type #[r a, r b]).run C.P w = .ok (.slice (some ⟨g0, 0, none⟩) (A.len + A.k) A.cap) (w.setRow g0 (A.rest.take (A.len * A.sz) ++ vn ++ A.rest.drop (A.len * A.sz + vn.length)).toArray) := by
        rw [← hva, hvb]
        have hf := hrn w rfl
        rw [hvb] at hf
        simp [Builtin.append_, run_underlying hu, run_underlying hux, sizeOf, typeInfo, hi, hsz, Builtin.lenOf, hroom, hf, Addr.add_lit, hst]
      have hlen : (A.rest.take (A.len * A.sz) ++ vn ++ A.rest.drop (A.len * A.sz + vn.length)).length = A.rest.length := by
        simp only [List.length_append, List.length_take, List.length_drop]
        omega
      have hother : ∀ k, k ≠ g0 → (w.setRow g0 (A.rest.take (A.len * A.sz) ++ vn ++ A.rest.drop (A.len * A.sz + vn.length)).toArray).heap[k]? = w.heap[k]? := fun k hk => setRow_other w g0 k _ hk
      have hsize : (w.setRow g0 (A.rest.take (A.len * A.sz) ++ vn ++ A.rest.drop (A.len * A.sz + vn.length)).toArray).heap.size = w.heap.size := by simp [World.setRow]
      have hmv : Moves ρ ρ w (w.setRow g0 (A.rest.take (A.len * A.sz) ++ vn ++ A.rest.drop (A.len * A.sz + vn.length)).toArray) :=
        ⟨rfl, rfl, rfl, by rw [hsize]; exact Nat.le_refl _, fun k _ hk => hother k fun e => hk A.n (e ▸ hg0), Rho.le_refl ρ, fun _ _ h => .inl ⟨_, h⟩⟩
      refine ⟨.so A.n 0 (A.len + A.k) A.cap 0, .slice (some ⟨g0, 0, none⟩) (A.len + A.k) A.cap, ρ, _, _, I, .inl ?_, ?_, Holds.set hH hn hg0 (ks' := []) (vs' := []) rfl _ hsize (setRow_heap w g0 _ _ _ _ hrow) hother, hmv, hI.moves hmv,
        fun c _ => ⟨Keeps.rest hn _ c, fun _ _ _ => rfl⟩, _, hlen, rfl, rfl, rfl⟩
      · simp [execOp, hop, hc, resolve, invoke, builtin, hrun]
      · simp [SV.den, hg0]
  · rintro x H' I' ⟨rest', hl, rfl, rfl, rfl⟩
    exact g rest' hl

/-- There is none. -/
theorem WPs.appGrow {A : App} (h : appAt C.P S = some A) (hno : A.cap < A.len + A.k) (hlc : A.len ≤ A.cap) (hfit : A.rest.length = A.cap * A.sz) (hb : (A.len + A.k) * A.bytes ≤ 140737488355328) (h63 : A.len + A.k ≤ 4611686018427387904)
    (g : ∀ cap' rest', rest'.length = cap' * A.sz → A.len + A.k ≤ cap' → WPs C I (behind S (.so S.heap.length 0 (A.len + A.k) cap' 0) (S.heap ++ [.row true [] rest' A.e]))) : WPs C I S := by
  obtain ⟨o, c, a, b, t, tx, lo, i, z, it, cap2, hs, hop, hc, hu, hux, ha, hn, hbb, hi, hz, hsz, hby, hone, hzs⟩ := appAt_spec h
  refine WPs.op hs (R := fun x H' I' => ∃ cap' rest', rest'.length = cap' * A.sz ∧ A.len + A.k ≤ cap' ∧ x = .so S.heap.length 0 (A.len + A.k) cap' 0 ∧ H' = S.heap ++ [.row true [] rest' A.e] ∧ I' = I) ?_ ?_
  · intro ρ w r hH hI hden
    have hda := hden a (by rw [hop, hc]; simp [Op.operands, Call.operands])
    have hdb := hden b (by rw [hop, hc]; simp [Op.operands, Call.operands])
    have htsz : tsz C.P A.e = some A.sz := by simp [tsz, hi, hsz]
    obtain ⟨base2, vn, hvb, hdn, hln, hrn⟩ := sliceCells_run hH hbb hdb htsz
    rw [ha] at hda
    simp only [SV.den] at hda
    split at hda
    case isFalse => cases hda
    case isTrue hlo =>
      simp only [Option.map_eq_some_iff] at hda
      obtain ⟨g0, hg0, hva⟩ := hda
      obtain ⟨vs0, hd0, hrow⟩ := (hH.row _ _ _ _ _ hn).2 g0 hg0
      simp only [SV.denL, Option.some.injEq] at hd0
      subst hd0
      simp only [List.nil_append] at hrow
      have hle : A.len * A.sz ≤ A.rest.length := by rw [hfit]; exact Nat.mul_le_mul_right _ hlc
      have holds : (Builtin.firstCells it.size A.len (.slice (some ⟨g0, 0, none⟩) A.len A.cap)).run C.P w.drew = .ok (A.rest.take (A.len * A.sz)).toArray w.drew := by
        rw [hsz]
        refine run_firstCells_some w.drew A.sz A.len ⟨g0, 0, none⟩ A.len A.cap _ (by simp; omega) fun j v hj => ?_
        rw [add_off, cell_row (c := A.rest) (by exact hrow)]
        rw [List.getElem?_take] at hj
        split at hj
        · simpa using hj
        · cases hj
      have hgrow := run_append_grow_cells (P := C.P) w t tx o.type A.e it z hu hux hi hz (some ⟨g0, 0, none⟩) A.len A.cap (A.rest.take (A.len * A.sz)) holds (r b) A.k vn (fun w' => by rw [hvb]; rfl) (by rw [hsz]; exact hrn w.drew rfl) hno (by omega)
        (by rw [hby]; exact growslice_fits hno hb)
      have hmv : ∀ o', Moves ρ (ρ.put S.heap.length w.heap.size) w (w.drew.alloc o') := fun o' => (Moves.drew (ρ := ρ) (w := w)).trans (Moves.alloc (w := w.drew) hH.drew o')
      have hzl : z.cells.size = A.sz := by rw [hzs, hsz]
      refine ⟨.so S.heap.length 0 (A.len + A.k) (grownCap w (A.len + A.k) A.cap A.e) 0, .slice (some ⟨w.heap.size, 0, none⟩) (A.len + A.k) (grownCap w (A.len + A.k) A.cap A.e), ρ.put S.heap.length w.heap.size,
        w.drew.alloc (.cells ((A.rest.take (A.len * A.sz) ++ vn) ++ (Builtin.zeroCells z.cells (grownCap w (A.len + A.k) A.cap A.e - (A.len + A.k))).toList).toArray A.e (0, 0)),
        S.heap ++ [.row true [] ((A.rest.take (A.len * A.sz) ++ vn) ++ (Builtin.zeroCells z.cells (grownCap w (A.len + A.k) A.cap A.e - (A.len + A.k))).toList) A.e], I,
        .inl ?_, ?_, ?_, hmv _, hI.moves (hmv _), fun c _ => ⟨Keeps.append _ c, fun n hn hl => ?_⟩, _, _, ?_, grownCap_ge w _ _ _, rfl, rfl, rfl⟩
      · rw [hva] at hgrow
        simp [execOp, hop, hc, resolve, invoke, builtin, hgrow]
      · simp [SV.den, Rho.put]
      · exact hH.drew.new (w := w.drew) (ks := []) (vs := []) rfl
      · simp [Rho.put]; omega
      · have hge := grownCap_ge w (A.len + A.k) A.cap A.e
        simp only [List.length_append, List.length_take, Array.length_toList, size_zeroCells, hzl, hln, Nat.min_eq_left hle]
        rw [← Nat.add_mul, ← Nat.add_mul]
        congr 1
        omega
  · rintro x H' I' ⟨cap', rest', hl, hle, rfl, rfl, rfl⟩
    exact g cap' rest' hl hle

/-- The first that is appended, to a slice of open length. -/
theorem WPs.grow0 {need sz : Nat} {cells : List SV} {e : TypeId} (h : growAt C.P S = some (need, cells, e)) (hzz : ∃ i z, C.P.info? e = some i ∧ i.zero = some z ∧ z.cells.size = i.size ∧ i.size = sz)
    (g : ∀ cap rest, need ≤ cap → rest.length = cap * sz → WPs C I (behind S (.so S.heap.length 0 need cap 0) (S.heap ++ [.row true [] rest e]))) : WPs C I S := by
  unfold growAt at h
  cases hs : siteAt S with
  | none => rw [hs] at h; cases h
  | some o =>
    rw [hs] at h
    simp only [Option.bind_some] at h
    split at h
    case h_2 => cases h
    case h_1 c hop =>
      split at h
      case h_2 => cases h
      case h_1 a b t tx hcal hargs hts =>
        split at h
        case h_2 => cases h
        case h_1 e1 e2 hu hux =>
          cases hca : sliceCells C.P S.heap e1 (sval (topTm S) a) with
          | none => rw [hca] at h; cases h
          | some p =>
            obtain ⟨len, cap, olds⟩ := p
            cases hcb : sliceCells C.P S.heap e1 (sval (topTm S) b) with
            | none => rw [hca, hcb] at h; cases h
            | some p2 =>
              obtain ⟨k, cap2, news⟩ := p2
              cases hi : C.P.info? e1 with
              | none => rw [hca, hcb, hi] at h; cases h
              | some it =>
                rw [hca, hcb, hi] at h
                simp only [Option.bind_some] at h
                split at h
                case h_2 => cases h
                case h_1 z hz =>
                  split at h
                  case isFalse => cases h
                  case isTrue hcond =>
                    simp only [Bool.and_eq_true] at hcond
                    obtain ⟨⟨c1, c2⟩, c3⟩ := hcond
                    have c1' : cap < len + k := by simpa [Nat.blt_eq] using c1
                    have c2' := Nat.le_of_ble_eq_true c2
                    have c3' := Nat.le_of_ble_eq_true c3
                    simp only [Option.some.injEq, Prod.mk.injEq] at h
                    obtain ⟨rfl, rfl, rfl⟩ := h
                    have hsz : tsz C.P e1 = some it.size := by simp [tsz, hi]
                    refine WPs.op hs (R := fun x H' I' => ∃ cap' rest, len + k ≤ cap' ∧ rest.length = cap' * sz ∧ x = .so S.heap.length 0 (len + k) cap' 0 ∧ H' = S.heap ++ [.row true [] rest e1] ∧ I' = I) ?_ ?_
                    · intro ρ w r hH hI hden
                      have hda := hden a (by rw [hop]; simp only [Op.operands, Call.operands, Array.mem_append]; exact .inr (by rw [← Array.mem_toList_iff, hargs]; simp))
                      have hdb := hden b (by rw [hop]; simp only [Op.operands, Call.operands, Array.mem_append]; exact .inr (by rw [← Array.mem_toList_iff, hargs]; simp))
                      obtain ⟨base, vo, hva, hdo, hlo, hro⟩ := sliceCells_run hH hca hda hsz
                      obtain ⟨base2, vn, hvb, hdn, hln, hrn⟩ := sliceCells_run hH hcb hdb hsz
                      have hgrow := run_append_grow_cells (P := C.P) w t tx o.type e1 it z hu hux hi hz base len cap vo (by have := hro w.drew rfl; rwa [hva] at this) (r b) k vn (fun w' => by rw [hvb]; rfl) (hrn w.drew rfl) c1' (by omega) c2'
                      have hmv : Moves ρ (ρ.put S.heap.length w.heap.size) w (w.drew.alloc (.cells ((vo ++ vn) ++ (Builtin.zeroCells z.cells (grownCap w (len + k) cap e1 - (len + k))).toList).toArray e1 (0, 0))) :=
        (Moves.drew (ρ := ρ) (w := w)).trans (Moves.alloc (w := w.drew) hH.drew _)
                      refine ⟨.so S.heap.length 0 (len + k) (grownCap w (len + k) cap e1) 0, .slice (some ⟨w.heap.size, 0, none⟩) (len + k) (grownCap w (len + k) cap e1), ρ.put S.heap.length w.heap.size,
                        w.drew.alloc (.cells ((vo ++ vn) ++ (Builtin.zeroCells z.cells (grownCap w (len + k) cap e1 - (len + k))).toList).toArray e1 (0, 0)), S.heap ++ [.row true [] ((vo ++ vn) ++ (Builtin.zeroCells z.cells (grownCap w (len + k) cap e1 - (len + k))).toList) e1], I,
                        .inl ?_, ?_, ?_, hmv, hI.moves hmv, fun c _ => ⟨Keeps.append _ c, fun n hn hl => ?_⟩, _, _, grownCap_ge w _ _ _, ?_, rfl, rfl, rfl⟩
                      · have h1 : c.argTypes = #[t, tx] := by rw [← Array.toArray_toList (xs := c.argTypes), hts]
                        have h2 : c.args = #[a, b] := by rw [← Array.toArray_toList (xs := c.args), hargs]
                        have hc : c = { callee := .builtin .append, args := #[a, b], argTypes := #[t, tx] } := by
                          cases c; simp only at hcal h1 h2; subst hcal h1 h2; rfl
                        rw [← hva] at hgrow
                        simp [execOp, hop, hc, resolve, invoke, builtin, hgrow]
                      · simp [SV.den, Rho.put]
                      · exact hH.drew.new (w := w.drew) (ks := []) (vs := []) rfl
                      · simp [Rho.put]; omega
                      · obtain ⟨i2, z2, hi2, hz2, hz3, hz4⟩ := hzz
                        rw [hi] at hi2
                        simp only [Option.some.injEq] at hi2
                        subst hi2
                        rw [hz] at hz2
                        simp only [Option.some.injEq] at hz2
                        subst hz2
                        have hge := grownCap_ge w (len + k) cap e1
                        simp only [List.length_append, Array.length_toList, size_zeroCells, hz3, hlo, hln, hz4]
                        rw [← Nat.add_mul, ← Nat.add_mul]
                        congr 1
                        omega
                    · rintro x H' I' ⟨cap', rest, hle, hl, rfl, rfl, rfl⟩
                      exact g cap' rest hle hl

/-- A load of one cell that never turns. -/
def imm1At (P : Program) (S : SS) : Option Addr :=
  (siteAt S).bind fun o => match o.op with
    | .load t x => (match sval (topTm S) x, isAg P t with | .v (.pointer (some a)), some false => some a | _, _ => none)
    | _ => none

theorem WPs.imm1 {a : Addr} {cs : Array Value} {T : TypeId} {fz : Nat × Nat} {v : Value} (h : imm1At C.P S = some a) (hsp : a.spot = none) (hI : I a.block = some (.cells cs T fz)) (hv : cs[a.off]? = some v)
    (g : WPs C I (behind S (.v v) S.heap)) : WPs C I S := by
  unfold imm1At at h
  cases hs : siteAt S with
  | none => rw [hs] at h; cases h
  | some o =>
    rw [hs] at h
    simp only [Option.bind_some] at h
    split at h
    case h_2 => cases h
    case h_1 t' x hop =>
      split at h
      case h_2 => cases h
      case h_1 a' hx hag =>
        simp only [Option.some.injEq] at h
        subst h
        refine WPs.op hs (R := fun y H' I' => y = .v v ∧ H' = S.heap ∧ I' = I) ?_ ?_
        · intro ρ w r hH hIm hden
          have hdx := hden x (by rw [hop]; simp [Op.operands])
          rw [hx] at hdx
          simp only [SV.den, Option.some.injEq] at hdx
          obtain ⟨hb, _⟩ := hIm _ _ hI
          refine ⟨.v v, v, ρ, w, S.heap, I, .inl ?_, rfl, hH, Moves.refl ρ w, hIm, KeepsAll.refl _, rfl, rfl, rfl⟩
          have hcell : w.cell? a' = some v := by
            simp [World.cell?, hb, hsp, hv]
          simp only [execOp, hop, ← hdx, Instr.loadAt, Instr.sureAddr, loadVar, Sem.run_bind, Sem.run_pure, Result.andThen_ok, isAg_und hag, Bool.false_eq_true, if_false, Go.load, Sem.run, hcell]
        · rintro y H' I' ⟨rfl, rfl, rfl⟩
          exact g

/-- How many entries a map has. -/
def mlenAt (P : Program) (S : SS) : Option SV :=
  (siteAt S).bind fun o => match o.op with
    | .call c => (match c.callee, c.args.toList, c.argTypes.toList with
      | .builtin .len, [x], [t] =>
        (match P.underlying t, sval (topTm S) x with
        | some (.map _ _), .mp n =>
          (match S.heap[n]? with
          | some (.obj (.any (.map es _))) => some (.i .i64 es.size)
          | some (.obj (.im _ _ l _)) => some (.v (.int .i64 l.length))
          | _ => none)
        | _, _ => none)
      | _, _, _ => none)
    | _ => none

theorem WPs.mlen {y : SV} (h : mlenAt C.P S = some y) (g : WPs C I (behind S y S.heap)) : WPs C I S := by
  unfold mlenAt at h
  cases hs : siteAt S with
  | none => rw [hs] at h; cases h
  | some o =>
    rw [hs] at h
    simp only [Option.bind_some] at h
    split at h
    case h_2 => cases h
    case h_1 c hop =>
      split at h
      case h_2 => cases h
      case h_1 x t hcal hargs hts =>
        split at h
        case h_2 => cases h
        case h_1 kt et n hu hx =>
          refine WPs.opVal hs y (fun ρ w r hH hden => ?_) g
          have hdx := hden x (by rw [hop]; simp only [Op.operands, Call.operands, Array.mem_append]; exact .inr (by rw [← Array.mem_toList_iff, hargs]; simp))
          have h1 : c.argTypes = #[t] := by rw [← Array.toArray_toList (xs := c.argTypes), hts]
          have h2 : c.args = #[x] := by rw [← Array.toArray_toList (xs := c.args), hargs]
          have hc : c = { callee := .builtin .len, args := #[x], argTypes := #[t] } := by
            cases c; simp only at hcal h1 h2; subst hcal h1 h2; rfl
          have key : ∀ (es : Array MapEntry) (k : Nat) (q : SOb), S.heap[n]? = some (.obj q) → q.obj = .map es k → (execOp r o).run C.P w = .ok (.value (.int .i64 es.size)) w := by
            intro es k q hn hq
            obtain ⟨b, hb, hcc⟩ := hH.obj _ _ hn
            rw [hx] at hdx
            simp only [SV.den, hb, Option.map_some, Option.some.injEq] at hdx
            have hc' : w.heap[b]? = some (.map es k) := by rw [hcc, hq]
            simp [execOp, hop, hc, resolve, invoke, builtin, ← hdx, Builtin.len_, run_und hu, run_getMap hc', goInt]
          split at h
          · rename_i es k hn
            simp only [Option.some.injEq] at h
            subst h
            exact ⟨_, key es k _ hn rfl, rfl⟩
          · rename_i q qv l k hn
            simp only [Option.some.injEq] at h
            subst h
            exact ⟨_, key _ k _ hn rfl, by simp [SV.den]⟩
          · cases h

end
end Go.Rl
