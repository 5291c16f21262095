/-
  Slices made of open length.
-/
import Derived.Test.YtghmpcnchjjikaaGreatRlSr7
import Derived.Laws.MakeOwn
set_option linter.all false
set_option linter.unusedVariables false
set_option linter.unusedSimpArgs false
set_option linter.unnecessarySimpa false
namespace Go.Rl
open Go

/-- A slice that is made at the operation that comes next: its length, its room, its elements' type, bytes, cells, and zero cells. -/
def makeAt (P : Program) (S : SS) : Option (Int × Int × TypeId × Nat × Nat × List SV) :=
  (siteAt S).bind fun o => match o.op with
    | .makeSlice t x y =>
      (match P.underlying t, sint (sval (topTm S) x), sint (sval (topTm S) y) with
      | some (.slice e), some (_, n), some (_, m) =>
        (P.info? e).bind fun i => (zeroS P e).bind fun z => (cellsS z).bind fun zc =>
          if Nat.beq zc.length i.size && !(Nat.beq i.size 0) then some (n, m, e, i.bytes, i.size, zc) else none
      | _, _, _ => none)
    | _ => none

section
variable {C : Ctx} {I : Imm} {S : SS}

/-- The other cells of a slice that was made: zero. -/
def IsZero (size : Nat) (zc : List SV) (lo len : Nat) (rest : List Value) : Prop :=
  ∃ zs : List Value, (∀ ρ, SV.denL ρ zc = some zs) ∧ zs.length = size ∧ rest = ((List.range (len * size)).map fun i => zs.getD (i % size) default).drop (lo * size)

theorem WPs.makeSym (lo : Nat) {n m : Int} {e : TypeId} {bytes size : Nat} {zc : List SV} (h : makeAt C.P S = some (n, m, e, bytes, size, zc)) (hnm : m = n) (hlo : (lo : Int) ≤ n) (hmax : n ≤ 16777216) (hb : bytes ≤ 16777216)
    (g : ∀ (len : Nat) rest, (len : Int) = n → IsZero size zc lo len rest → WPs C I (behind S (.so S.heap.length 0 len len lo) (S.heap ++ [.row true (repL zc lo) rest e]))) : WPs C I S := by
  unfold makeAt at h
  cases hs : siteAt S with
  | none => rw [hs] at h; cases h
  | some o =>
    rw [hs] at h
    simp only [Option.bind_some] at h
    split at h
    case h_2 => cases h
    case h_1 t x y hop =>
      split at h
      case h_2 => cases h
      case h_1 e' k n' k' m' hu hx hy =>
        cases hi : C.P.info? e' with
        | none => rw [hi] at h; cases h
        | some i =>
          cases hzs : zeroS C.P e' with
          | none => rw [hi, hzs] at h; cases h
          | some z =>
            cases hc : cellsS z with
            | none => rw [hi, hzs] at h; simp [hc] at h
            | some zc' =>
              rw [hi, hzs] at h
              simp only [hc, Option.bind_some] at h
              split at h
              case isFalse => cases h
              case isTrue hcond =>
                simp only [Bool.and_eq_true, Bool.not_eq_true'] at hcond
                have h1 := Nat.eq_of_beq_eq_true hcond.1
                have h2 : i.size ≠ 0 := fun e => by have := hcond.2; rw [e] at this; simp at this
                simp only [Option.some.injEq, Prod.mk.injEq] at h
                obtain ⟨rfl, rfl, rfl, rfl, rfl, rfl⟩ := h
                subst hnm
                obtain ⟨a, rfl⟩ : ∃ a : Nat, m' = (a : Int) := ⟨m'.toNat, by omega⟩
                have hloa : lo ≤ a := by omega
                refine WPs.op hs (R := fun y H' I' => ∃ rest, y = .so S.heap.length 0 a a lo ∧ H' = S.heap ++ [.row true (repL zc' lo) rest e'] ∧ I' = I ∧ IsZero i.size zc' lo a rest) ?_ ?_
                · intro ρ w r hH hI hden
                  have hdx := sint_den hx (hden x (by rw [hop]; simp [Op.operands]))
                  have hdy := sint_den hy (hden y (by rw [hop]; simp [Op.operands]))
                  obtain ⟨zv, hzz, rfl⟩ : ∃ zv, i.zero = some zv ∧ z = ofV zv := by
                    unfold zeroS at hzs
                    rw [hi] at hzs
                    simp only [Option.bind_some, Option.map_eq_some_iff] at hzs
                    obtain ⟨zv, h1, h2⟩ := hzs
                    exact ⟨zv, h1, h2.symm⟩
                  have hcs := cellsS_den hc (ofV_den ρ zv)
                  have hlc := denL_length hcs
                  have hzl : zv.cells.toList.length = i.size := by omega
                  have hrep := repL_den hcs (by omega) lo
                  have hbb : (i.bytes : Int) * (a : Int) ≤ 281474976710656 := by
                    have h3 : i.bytes * a ≤ 16777216 * 16777216 := Nat.mul_le_mul hb (by omega)
                    have h4 : ((i.bytes * a : Nat) : Int) ≤ ((16777216 * 16777216 : Nat) : Int) := Int.ofNat_le.2 h3
                    rw [Int.natCast_mul] at h4
                    exact Int.le_trans h4 (by decide)
                  have hmk := run_make (P := C.P) w t e' i zv hu hi hzz k k' (a : Int) (a : Int) (by omega) (by omega) hbb (by omega)
                  have hzall : ∀ ρ, SV.denL ρ zc' = some zv.cells.toList := fun ρ => cellsS_den hc (ofV_den ρ zv)
                  let fz : Nat → Value := fun i => zv.cells.toList.getD (i % zv.cells.toList.length) default
                  have hmap : madeCells zv.cells (a * i.size) = (((List.range (lo * zv.cells.toList.length)).map fz) ++ ((List.range (a * i.size)).map fz).drop (lo * i.size)).toArray := by
                    have hsz : zv.cells.size = i.size := by simpa using hzl
                    apply Array.ext'
                    have hle : lo * i.size ≤ a * i.size := Nat.mul_le_mul_right _ hloa
                    have e1 : (List.range (lo * zv.cells.toList.length)).map fz = ((List.range (a * i.size)).map fz).take (lo * i.size) := by
                      rw [← List.map_take, List.take_range, hzl, Nat.min_eq_left hle]
                    rw [e1, List.take_append_drop, madeCells, hsz]
                    simp only [Array.toList_map, Array.toList_range]
                    apply List.map_congr_left
                    intro q _
                    simp only [fz, hzl, getElem!_def, List.getD, Array.getElem?_toList]
                    cases zv.cells[q % i.size]? <;> rfl
                  refine ⟨.so S.heap.length 0 a a lo, .slice (some ⟨w.heap.size, 0, none⟩) a a, ρ.put S.heap.length w.heap.size, _, _, I, .inl ?_, ?_, hH.new hrep, Moves.alloc hH _, hI.moves (Moves.alloc hH _),
                    fun c _ => ⟨Keeps.append _ c, fun n hn hl => by simp [Rho.put]; omega⟩, ((List.range (a * i.size)).map fz).drop (lo * i.size), rfl, rfl, rfl, ⟨zv.cells.toList, hzall, hzl, by simp only [fz, hzl]⟩⟩
                  · rw [Int.toNat_natCast, hmap] at hmk
                    simp only [execOp, hop, hdx, hdy, Sem.run_bind, hmk, Result.andThen_ok, Sem.run_pure]
                    rfl
                  · simp [SV.den, Rho.put, hloa]
                · rintro y H' I' ⟨rest, rfl, rfl, rfl, hzz⟩
                  exact g a rest rfl hzz

end
end Go.Rl
