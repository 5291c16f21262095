/-
  Rules for operations that the symbolic machine leaves: what is appended where there is no room.
-/
import Derived.Test.YtghmpcnchjjikaaGreatRlSr3
import Derived.Deep.AppendSrc
set_option linter.all false
set_option linter.unusedVariables false
set_option linter.unusedSimpArgs false
set_option linter.unnecessarySimpa false
namespace Go.Rl
open Go

/-- The cells of a slice that are there and known. -/
def sliceCells (P : Program) (H : List SO) (e : TypeId) (x : SV) : Option (Nat × Nat × List SV) :=
  match x with
  | .nsl => some (0, 0, [])
  | .sl n off len cap =>
    (tsz P e).bind fun sz => (H[n]?.bind ksOf).bind fun ks => if Nat.ble (off + len * sz) ks.length then some (len, cap, (ks.drop off).take (len * sz)) else none
  | _ => none

/-- What is appended at the operation that comes next, where there is no room: how many there are then, of which cells. -/
def growAt (P : Program) (S : SS) : Option (Nat × List SV × TypeId) :=
  (siteAt S).bind fun o => match o.op with
    | .call c => (match c.callee, c.args.toList, c.argTypes.toList with
      | .builtin .append, [a, b], [t, tx] =>
        (match P.underlying t, P.underlying tx with
        | some (.slice e), some (.slice e') =>
          (sliceCells P S.heap e (sval (topTm S) a)).bind fun (len, cap, olds) => (sliceCells P S.heap e (sval (topTm S) b)).bind fun (k, _, news) => (P.info? e).bind fun i =>
            match i.zero with
            | some _ => if Nat.blt cap (len + k) && Nat.ble (Builtin.nextslicecap (len + k) cap * i.bytes) 281474976710656 && Nat.ble (len + k) 4611686018427387904 then some (len + k, olds ++ news, e) else none
            | none => none
        | _, _ => none)
      | _, _, _ => none)
    | _ => none

section
variable {C : Ctx} {I : Imm} {S : SS}

theorem sliceCells_run {P : Program} {ρ : Rho} {H : List SO} {w : World} (hH : Holds ρ H w) {e : TypeId} {x : SV} {v : Value} {len cap : Nat} {ks : List SV} (h : sliceCells P H e x = some (len, cap, ks)) (hx : x.den ρ = some v)
    {sz : Nat} (hz : tsz P e = some sz) : ∃ base vs, v = .slice base len cap ∧ SV.denL ρ ks = some vs ∧ vs.length = len * sz ∧
      (∀ w' : World, w'.heap = w.heap → (Builtin.firstCells sz len v).run P w' = .ok vs.toArray w') := by
  unfold sliceCells at h
  split at h
  · simp only [Option.some.injEq, Prod.mk.injEq] at h
    obtain ⟨rfl, rfl, rfl⟩ := h
    simp only [SV.den, Option.some.injEq] at hx
    subst hx
    exact ⟨none, [], rfl, rfl, by simp, fun w' _ => by simp [Builtin.firstCells]⟩
  · rename_i n off len' cap'
    rw [hz] at h
    simp only [Option.bind_some] at h
    cases hk : H[n]?.bind ksOf with
    | none => rw [hk] at h; simp at h
    | some l =>
      rw [hk] at h
      simp only [Option.bind_some] at h
      split at h
      case isFalse => cases h
      case isTrue hle =>
        have hle' := Nat.le_of_ble_eq_true hle
        simp only [Option.some.injEq, Prod.mk.injEq] at h
        obtain ⟨rfl, rfl, rfl⟩ := h
        obtain ⟨rest, T, b, vs, _, hb, hv, hc⟩ := hH.live hk
        simp only [SV.den, hb, Option.map_some, Option.some.injEq] at hx
        subst hx
        have hlen := denL_length hv
        have hd := denL_take (len' * sz) (denL_drop off hv)
        have hl : ((vs.drop off).take (len' * sz)).length = len' * sz := by simp; omega
        refine ⟨_, _, rfl, hd, hl, fun w' hw => ?_⟩
        refine run_firstCells_some w' sz len' ⟨b, off, none⟩ len' cap' _ hl fun j v hj => ?_
        rw [add_off, cell_row (c := vs ++ rest) (by rw [hw]; exact hc)]
        have hj' := (List.getElem?_eq_some_iff.1 hj).1
        rw [hl] at hj'
        rw [List.getElem?_take, if_pos hj', List.getElem?_drop] at hj
        rw [List.getElem?_append_left (by omega)]
        exact hj
  · cases h

theorem run_append_grow_cells {P : Program} (w : World) (t tx ty e : TypeId) (i : TypeInfo) (z : Value) (ht : P.underlying t = some (.slice e)) {e' : TypeId} (hk : P.underlying tx = some (.slice e')) (hi : P.info? e = some i) (hz : i.zero = some z)
    (base : Option Addr) (sLen sCap : Nat) (olds : List Value) (hold : (Builtin.firstCells i.size sLen (.slice base sLen sCap)).run P w.drew = .ok olds.toArray w.drew) (x : Value) (n : Nat) (news : List Value)
    (hlen : ∀ w' : World, (Builtin.lenOf x).run P w' = .ok n w') (hnew : (Builtin.firstCells i.size n x).run P w.drew = .ok news.toArray w.drew)
    (hg : sCap < sLen + n) (h63 : ((sLen + n : Nat) : Int) ≤ 9223372036854775807) (hfit : Builtin.nextslicecap (sLen + n) sCap * i.bytes ≤ 281474976710656) :
    (Builtin.append_ #[t, tx] ty #[.slice base sLen sCap, x]).run P w =
      .ok (.slice (some ⟨w.heap.size, 0, none⟩) (sLen + n) (grownCap w (sLen + n) sCap e))
        (w.drew.alloc (.cells ((olds ++ news) ++ (Builtin.zeroCells z.cells (grownCap w (sLen + n) sCap e - (sLen + n))).toList).toArray e (0, 0))) := by
  have hn : ¬ (sLen + n ≤ sCap) := by omega
  have h63' : ¬ (9223372036854775807 < ((sLen : Int) + (n : Int))) := by omega
  have h48' : ¬ (281474976710656 < Builtin.nextslicecap (sLen + n) sCap * i.bytes) := by omega
  simp [Builtin.append_, run_underlying ht, run_underlying hk, sizeOf, typeInfo, zeroValue, hi, hz, hlen, hn, h63', h48', Question.forced, hnew, hold, newRow, grownCap]
  congr 2
  apply Array.ext'
  simp [List.append_assoc]

theorem WPs.grow {need : Nat} {cells : List SV} {e : TypeId} (h : growAt C.P S = some (need, cells, e))
    (g : ∀ cap rest, need ≤ cap → WPs C I (behind S (.sl S.heap.length 0 need cap) (S.heap ++ [.row true cells rest e]))) : WPs C I S := by
  unfold growAt at h
  cases hs : siteAt S with
  | none => rw [hs] at h; cases h
  | some o =>
    rw [hs] at h
    simp only [Option.bind_some] at h
    split at h
    case h_2 => cases h
    case h_1 c hop =>
      split at h
      case h_2 => cases h
      case h_1 a b t tx hcal hargs hts =>
        split at h
        case h_2 => cases h
        case h_1 e1 e2 hu hux =>
          cases hca : sliceCells C.P S.heap e1 (sval (topTm S) a) with
          | none => rw [hca] at h; cases h
          | some p =>
            obtain ⟨len, cap, olds⟩ := p
            cases hcb : sliceCells C.P S.heap e1 (sval (topTm S) b) with
            | none => rw [hca, hcb] at h; cases h
            | some p2 =>
              obtain ⟨k, cap2, news⟩ := p2
              cases hi : C.P.info? e1 with
              | none => rw [hca, hcb, hi] at h; cases h
              | some it =>
                rw [hca, hcb, hi] at h
                simp only [Option.bind_some] at h
                split at h
                case h_2 => cases h
                case h_1 z hz =>
                  split at h
                  case isFalse => cases h
                  case isTrue hcond =>
                    simp only [Bool.and_eq_true] at hcond
                    obtain ⟨⟨c1, c2⟩, c3⟩ := hcond
                    have c1' : cap < len + k := by simpa [Nat.blt_eq] using c1
                    have c2' := Nat.le_of_ble_eq_true c2
                    have c3' := Nat.le_of_ble_eq_true c3
                    simp only [Option.some.injEq, Prod.mk.injEq] at h
                    obtain ⟨rfl, rfl, rfl⟩ := h
                    have hsz : tsz C.P e1 = some it.size := by simp [tsz, hi]
                    refine WPs.op hs (R := fun x H' I' => ∃ cap' rest, len + k ≤ cap' ∧ x = .sl S.heap.length 0 (len + k) cap' ∧ H' = S.heap ++ [.row true (olds ++ news) rest e1] ∧ I' = I) ?_ ?_
                    · intro ρ w r hH hI hden
                      have hda := hden a (by rw [hop]; simp only [Op.operands, Call.operands, Array.mem_append]; exact .inr (by rw [← Array.mem_toList_iff, hargs]; simp))
                      have hdb := hden b (by rw [hop]; simp only [Op.operands, Call.operands, Array.mem_append]; exact .inr (by rw [← Array.mem_toList_iff, hargs]; simp))
                      obtain ⟨base, vo, hva, hdo, hlo, hro⟩ := sliceCells_run hH hca hda hsz
                      obtain ⟨base2, vn, hvb, hdn, hln, hrn⟩ := sliceCells_run hH hcb hdb hsz
                      have hgrow := run_append_grow_cells (P := C.P) w t tx o.type e1 it z hu hux hi hz base len cap vo (by have := hro w.drew rfl; rwa [hva] at this) (r b) k vn (fun w' => by rw [hvb]; rfl) (hrn w.drew rfl) c1' (by omega) c2'
                      have hmv : Moves ρ (ρ.put S.heap.length w.heap.size) w (w.drew.alloc (.cells ((vo ++ vn) ++ (Builtin.zeroCells z.cells (grownCap w (len + k) cap e1 - (len + k))).toList).toArray e1 (0, 0))) :=
        (Moves.drew (ρ := ρ) (w := w)).trans (Moves.alloc (w := w.drew) hH.drew _)
                      refine ⟨.sl S.heap.length 0 (len + k) (grownCap w (len + k) cap e1), .slice (some ⟨w.heap.size, 0, none⟩) (len + k) (grownCap w (len + k) cap e1), ρ.put S.heap.length w.heap.size,
                        w.drew.alloc (.cells ((vo ++ vn) ++ (Builtin.zeroCells z.cells (grownCap w (len + k) cap e1 - (len + k))).toList).toArray e1 (0, 0)), S.heap ++ [.row true (olds ++ news) (Builtin.zeroCells z.cells (grownCap w (len + k) cap e1 - (len + k))).toList e1], I,
                        .inl ?_, ?_, ?_, hmv, hI.moves hmv, fun c _ => ⟨Keeps.append _ c, fun n hn hl => ?_⟩, _, _, grownCap_ge w _ _ _, rfl, rfl, rfl⟩
                      · have h1 : c.argTypes = #[t, tx] := by rw [← Array.toArray_toList (xs := c.argTypes), hts]
                        have h2 : c.args = #[a, b] := by rw [← Array.toArray_toList (xs := c.args), hargs]
                        have hc : c = { callee := .builtin .append, args := #[a, b], argTypes := #[t, tx] } := by
                          cases c; simp only at hcal h1 h2; subst hcal h1 h2; rfl
                        rw [← hva] at hgrow
                        simp [execOp, hop, hc, resolve, invoke, builtin, hgrow]
                      · simp [SV.den, Rho.put]
                      · exact hH.drew.new (w := w.drew) (denL_append hdo hdn)
                      · simp [Rho.put]; omega
                    · rintro x H' I' ⟨cap', rest, hle, rfl, rfl, rfl⟩
                      exact g cap' rest hle

/-- A first entry of a map with numbers as keys. -/
def firstAt (P : Program) (S : SS) : Option (Nat × IntKind × Int × Nat) :=
  (siteAt S).bind fun o => match o.op with
    | .mapUpdate t m k _ =>
      (match P.underlying t, sval (topTm S) m, sval (topTm S) k with
      | some (.map kt _), .mp n, .i q a =>
        (match P.underlying kt, S.heap[n]? with
        | some (.int _), some (.obj (.any (.map es c))) => if es.isEmpty then some (n, q, a, c) else none
        | _, _ => none)
      | _, _, _ => none)
    | _ => none

theorem WPs.mapFirst {n c : Nat} {q : IntKind} {a : Int} (h : firstAt C.P S = some (n, q, a, c))
    (g : ∀ v, WPs C I (behind S (.tp []) (S.heap.set n (.obj (.any (.map #[⟨.int q a, v, c⟩] (c + 1))))))) : WPs C I S := by
  unfold firstAt at h
  cases hs : siteAt S with
  | none => rw [hs] at h; cases h
  | some o =>
    rw [hs] at h
    simp only [Option.bind_some] at h
    split at h
    case h_2 => cases h
    case h_1 t m k x hop =>
      split at h
      case h_2 => cases h
      case h_1 kt et n' q' a' hu hm hk =>
        split at h
        case h_2 => cases h
        case h_1 q0 es c' hkt hn =>
          split at h
          case isFalse => cases h
          case isTrue he =>
            simp only [Option.some.injEq, Prod.mk.injEq] at h
            obtain ⟨rfl, rfl, rfl, rfl⟩ := h
            have hes : es = #[] := by simpa using he
            subst hes
            refine WPs.op hs (R := fun y H' I' => ∃ v, y = .tp [] ∧ H' = S.heap.set n' (.obj (.any (.map #[⟨.int q' a', v, c'⟩] (c' + 1)))) ∧ I' = I) ?_ ?_
            · intro ρ w r hH hI hden
              have hdm := hden m (by rw [hop]; simp [Op.operands])
              have hdk := hden k (by rw [hop]; simp [Op.operands])
              rw [hm] at hdm
              rw [hk] at hdk
              obtain ⟨b, hb, hc⟩ := hH.obj _ _ hn
              simp only [SV.den, hb, Option.map_some, Option.some.injEq] at hdm hdk
              have hc' : w.heap[b]? = some (.map #[] c') := hc
              have hf : (Instr.findKey kt (.int q' a') []).run C.P w = .ok none w := run_findInt (qv := q') hkt a' [] w
              have hrun : (Instr.mapUpdate t (r m) (r k) (r x)).run C.P w = .ok () (setB w b (SOb.any (.map #[⟨.int q' a', r x, c'⟩] (c' + 1))).obj) := by
                rw [← hdm, ← hdk]
                simp only [Instr.mapUpdate, Sem.run_bind, run_und hu, Result.andThen_ok, run_getMap hc', run_checkInt hkt, hf, run_setMap hc']
                rfl
              refine ⟨.tp [], undef, ρ, _, _, I, .inr ⟨?_, rfl⟩, rfl, hH.setObj hn hb, Moves.setB hb _, hI.moves (Moves.setB hb _), fun c _ => ⟨Keeps.obj hn _ c, fun _ _ _ => rfl⟩, r x, rfl, rfl, rfl⟩
              simp [execOp, hop, hrun]
            · rintro y H' I' ⟨v, rfl, rfl, rfl⟩
              exact g v

end
end Go.Rl
