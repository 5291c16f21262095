/-
  What the symbolic operations say is what the operations do (5): 'sop_sound'.
-/
import Derived.Test.YtghmpcnchjjikaaGreatRlSvi
import Derived.Laws.MakeOwn
set_option linter.all false
set_option linter.unusedVariables false
set_option linter.unusedSimpArgs false
set_option linter.unnecessarySimpa false
namespace Go.Rl
open Go

section
variable {P : Program} {ρ : Rho} {H : List SO} {w : World} {r : Operand → Value} {tm : List SV}

theorem map_den {l : List Operand} (hx : ∀ x ∈ l, (sval tm x).den ρ = some (r x)) : SV.denL ρ (l.map (sval tm)) = some (l.map r) :=
  denL_map _ _ l hx

theorem run_value {s : Sem Value} {v : Value} {w w' : World} (h : s.run P w = .ok v w') : (do pure (.value (← s)) : Sem Next).run P w = .ok (.value v) w' := by
  simp [h]

theorem sindexAddr_run {t : Nat} {x i : SV} {y : SV} {v u : Value} (h : sindexAddr P t x i = some y) (hx : x.den ρ = some v) (hi : i.den ρ = some u) (w : World) :
    ∃ q, (Instr.indexAt t v u).run P w = .ok q w ∧ y.den ρ = some q := by
  have key : ∀ (e : TypeId) (n off len cap j b sz : Nat) (k : IntKind), P.underlying t = some (.slice e) → tsz P e = some sz → ρ n = some b → j < len → v = .slice (some ⟨b, off, none⟩) len cap → u = .int k (.ofNat j) → y = .p n (off + j * sz) →
      ∃ q, (Instr.indexAt t v u).run P w = .ok q w ∧ y.den ρ = some q := by
    rintro e n off len cap j b sz k hu hz hb' hb rfl rfl rfl
    refine ⟨.pointer (some ⟨b, off + j * sz, none⟩), ?_, by simp [SV.den, hb']⟩
    have hc : (0 ≤ Int.ofNat j ∧ Int.ofNat j < (len : Int)) := by simp only [Int.ofNat_eq_natCast]; omega
    simp only [Instr.indexAt, asIntOf, Sem.run_bind, Sem.run_pure, Result.andThen_ok, run_und hu, if_pos hc, run_sizeOf' hz, add_off]
    rfl
  unfold sindexAddr at h
  split at h
  case h_3 => simp at h
  case h_1 e n off len cap k j hu =>
    cases hz : tsz P e with
    | none => simp [hz] at h
    | some sz =>
      simp only [hz, Option.bind_some] at h
      split at h
      case h_2 => cases h
      case h_1 j =>
        split at h
        case isFalse => simp at h
        case isTrue hb =>
          have hb' : j < len := by simpa [Nat.blt_eq] using hb
          simp only [Option.some.injEq] at h
          simp only [SV.den, Option.some.injEq, Option.map_eq_some_iff] at hx hi
          obtain ⟨b, hb2, rfl⟩ := hx
          exact key e n off len cap j b sz k hu hz hb2 hb' rfl hi.symm h.symm
  case h_2 e n off len cap lo k j hu =>
    cases hz : tsz P e with
    | none => simp [hz] at h
    | some sz =>
      simp only [hz, Option.bind_some] at h
      split at h
      case h_2 => cases h
      case h_1 j =>
        split at h
        case isFalse => simp at h
        case isTrue hb =>
          have hb' : j < lo := by simpa [Nat.blt_eq] using hb
          simp only [Option.some.injEq] at h
          simp only [SV.den, Option.some.injEq] at hx hi
          split at hx
          case isFalse => cases hx
          case isTrue hlo =>
            simp only [Option.map_eq_some_iff] at hx
            obtain ⟨b, hb2, rfl⟩ := hx
            exact key e n off len cap j b sz k hu hz hb2 (by omega) rfl hi.symm h.symm

theorem sbuild_run {t : Nat} {ps : List (Nat × Operand)} {y : SV} (h : sbuild P t (ps.map fun (p : Nat × Operand) => (p.1, sval tm p.2)) = some y)
    (hx : ∀ p ∈ ps, (sval tm p.2).den ρ = some (r p.2)) (w : World) :
    ∃ q, (Instr.build t (ps.map fun (p : Nat × Operand) => (p.1, r p.2)).toArray).run P w = .ok q w ∧ y.den ρ = some q := by
  unfold sbuild at h
  split at h
  case h_2 => simp at h
  case h_1 fs hu =>
    cases hz : zeroS P t with
    | none => simp [hz] at h
    | some z =>
      obtain ⟨zv, hzr, hzd, _⟩ := run_zero (ρ := ρ) hz w
      cases hc : cellsS z with
      | none => simp [hz, hc] at h
      | some zc =>
        cases hpl : fs.toList.mapM (fun f => (P.info? f.type).map fun i => (f.offset, i.size)) with
        | none => simp [hz, hc, hpl] at h
        | some places =>
          simp only [hz, hc, hpl, Option.bind_some, Option.map_eq_some_iff] at h
          obtain ⟨out, ho, rfl⟩ := h
          have hcs := cellsS_den hc hzd
          obtain ⟨o, hfill, hdo⟩ := fillS_run (l := zv.cells.toList) ho hcs (parts_map hx)
          refine ⟨.agg o.toArray, run_build w t _ _ ?_, by simp only [SV.den, hdo]; rfl⟩
          obtain ⟨it, hit, hzz⟩ : ∃ it, P.info? t = some it ∧ it.zero = some zv := by
            unfold zeroS at hz
            cases hi : P.info? t with
            | none => simp [hi] at hz
            | some it =>
              simp only [zeroValue, typeInfo, Sem.run_bind, run_program, Result.andThen_ok, hi, Sem.run_pure] at hzr
              cases hq : it.zero with
              | none => simp [hq] at hzr
              | some q => simp only [hq, Sem.run_pure, Result.ok.injEq] at hzr; exact ⟨it, rfl, by rw [hq, hzr.1]⟩
          unfold Program.built
          simp only [hit, hu, hzz, hpl]
          simpa using hfill

theorem repL_den {zc : List SV} {zv : List Value} (h : SV.denL ρ zc = some zv) (hne : zv.length ≠ 0) : ∀ n,
    SV.denL ρ (repL zc n) = some ((List.range (n * zv.length)).map fun i => zv.getD (i % zv.length) default) := by
  intro n
  induction n with
  | zero => simp [repL, SV.denL]
  | succ n ih =>
    have e : (List.range ((n + 1) * zv.length)).map (fun i => zv.getD (i % zv.length) default) = zv ++ (List.range (n * zv.length)).map fun i => zv.getD (i % zv.length) default := by
      rw [Nat.add_mul, Nat.one_mul, Nat.add_comm, List.range_add, List.map_append, List.map_map]
      congr 1
      · apply List.ext_getElem
        · simp
        · intro i h1 h2
          simp [Nat.mod_eq_of_lt h2, List.getD, h2]
      · apply List.map_congr_left
        intro i _
        simp
    rw [e]
    exact denL_append h ih

theorem sbuildSlice_run {t n : Nat} {e : TypeId} {ps : List (Nat × Operand)} {ks : List SV} (h : sbuildSlice P t n (ps.map fun (p : Nat × Operand) => (p.1, sval tm p.2)) = some (ks, e))
    (hx : ∀ p ∈ ps, (sval tm p.2).den ρ = some (r p.2)) :
    ∃ vs, SV.denL ρ ks = some vs ∧ ∀ w : World, (Instr.buildSlice t n (ps.map fun (p : Nat × Operand) => (p.1, r p.2)).toArray).run P w =
      .ok (.slice (some ⟨w.heap.size, 0, none⟩) n n) (w.alloc (.cells vs.toArray e (0, 0))) := by
  unfold sbuildSlice at h
  split at h
  case h_2 => simp at h
  case h_1 e' hu =>
    cases hz : tsz P e' with
    | none => simp [hz] at h
    | some sz =>
      cases hzs : zeroS P e' with
      | none => simp [hz, hzs] at h
      | some z =>
        cases hc : cellsS z with
        | none => simp [hz, hzs, hc] at h
        | some zc =>
          simp only [hz, hzs, hc, Option.bind_some] at h
          split at h
          case isFalse => simp at h
          case isTrue hcond =>
            simp only [Bool.and_eq_true, Bool.not_eq_true'] at hcond
            obtain ⟨⟨h1, h2⟩, h3⟩ := hcond
            have h1' := Nat.eq_of_beq_eq_true h1
            have h2' : sz ≠ 0 := fun e => by subst e; simp at h2
            have h3' := Nat.le_of_ble_eq_true h3
            simp only [Option.map_eq_some_iff, Prod.mk.injEq] at h
            obtain ⟨out, ho, rfl, rfl⟩ := h
            obtain ⟨zv, hzr, hzd, _⟩ := run_zero (ρ := ρ) hzs default
            have hcs := cellsS_den hc hzd
            have hlc := denL_length hcs
            have hzl : zv.cells.toList.length = sz := by omega
            have hrep := repL_den hcs (by omega) n
            obtain ⟨o, hfill, hdo⟩ := fillS_run ho hrep (parts_map hx)
            refine ⟨o, hdo, fun w' => ?_⟩
            obtain ⟨zv', hzr', _, hzz⟩ := run_zero (ρ := ρ) hzs w'
            have : zv' = zv := by
              have a := ofV_den ρ zv; have b := ofV_den ρ zv'
              rw [← hzz] at b
              rw [hzd] at b; exact (Option.some.inj b).symm
            subst this
            rw [hzl] at hfill
            have hmap : (Array.range (n * sz)).map (fun i => zv'.cells[i % zv'.cells.size]!) = ((List.range (n * sz)).map fun i => zv'.cells.toList.getD (i % sz) default).toArray := by
              have hs : zv'.cells.size = sz := by simpa using hzl
              rw [hs]
              apply Array.ext'
              simp only [Array.toList_map, Array.toList_range]
              apply List.map_congr_left
              intro i _
              simp only [getElem!_def, List.getD, Array.getElem?_toList]
              cases zv'.cells[i % sz]? <;> rfl
            have hns : n * sz = 0 ∨ n * sz ≠ 0 := by omega
            rcases hns with hns | hns
            · have hn0 : n = 0 := by rcases Nat.mul_eq_zero.1 hns with h | h; exact h; exact absurd h h2'
              subst hn0
              simp only [Nat.zero_mul, List.range_zero, List.map_nil] at hfill
              have hf' : Instr.fill (fun i => some (i * sz, sz)) (Array.map (fun x => (#[] : Array Value)[x % (#[] : Array Value).size]!) (Array.range 0)) (List.map (fun (p : Nat × Operand) => (p.1, r p.2)) ps) = some o.toArray := by
                have he : Array.range 0 = #[] := by simp
                rw [he, Array.map_empty]; exact hfill
              have h0 : ¬ (0 > 2 ^ 24) := by omega
              simp only [Instr.buildSlice, Sem.run_bind, run_und hu, run_sizeOf' hz, Result.andThen_ok, Nat.zero_mul, if_true, if_neg h0, Sem.run_pure, hf']
              simp [newRow]
            · simp only [Instr.buildSlice, Sem.run_bind, run_und hu, run_sizeOf' hz, Result.andThen_ok, if_neg (show ¬ n * sz > 2 ^ 24 by omega), if_neg hns, hzr', Sem.run_pure, hmap, hfill]
              simp [newRow]

theorem smakeSlice_run {t n : Nat} {x y : SV} {v u : Value} {e : TypeId} {ks : List SV} (h : smakeSlice P t x y = some (n, ks, e)) (hx : x.den ρ = some v) (hy : y.den ρ = some u) :
    ∃ vs, SV.denL ρ ks = some vs ∧ ∀ w : World, (Instr.makeSlice t v u).run P w = .ok (.slice (some ⟨w.heap.size, 0, none⟩) n n) (w.alloc (.cells vs.toArray e (0, 0))) := by
  unfold smakeSlice at h
  split at h
  case h_2 => cases h
  case h_1 e' k a k' b hu =>
    cases hi : P.info? e' with
    | none => simp [hi] at h
    | some it =>
      cases hzs : zeroS P e' with
      | none => simp [hi, hzs] at h
      | some z =>
        cases hc : cellsS z with
        | none => simp [hi, hzs, hc] at h
        | some zc =>
          simp only [hi, hzs, hc, Option.bind_some] at h
          split at h
          case isFalse => cases h
          case isTrue hcond =>
            simp only [Bool.and_eq_true, Bool.not_eq_true'] at hcond
            obtain ⟨⟨⟨⟨h1, h2⟩, h3⟩, h4⟩, h5⟩ := hcond
            have h1' := Nat.eq_of_beq_eq_true h1
            have h2' := Nat.eq_of_beq_eq_true h2
            have h3' : it.size ≠ 0 := fun e => by rw [e] at h3; simp at h3
            have h4' := Nat.le_of_ble_eq_true h4
            have h5' := Nat.le_of_ble_eq_true h5
            simp only [Option.some.injEq, Prod.mk.injEq] at h
            obtain ⟨rfl, rfl, rfl⟩ := h
            subst h1'
            simp only [SV.den, Option.some.injEq] at hx hy
            subst hx hy
            obtain ⟨zv, hzz, rfl⟩ : ∃ zv, it.zero = some zv ∧ z = ofV zv := by
              unfold zeroS at hzs
              rw [hi] at hzs
              simp only [Option.bind_some, Option.map_eq_some_iff] at hzs
              obtain ⟨zv, h1, h2⟩ := hzs
              exact ⟨zv, h1, h2.symm⟩
            have hcs := cellsS_den hc (ofV_den ρ zv)
            have hlc := denL_length hcs
            have hzl : zv.cells.toList.length = it.size := by omega
            have hrep := repL_den hcs (by omega) a
            refine ⟨_, hrep, fun w' => ?_⟩
            have hb : (it.bytes : Int) * (a : Int) ≤ 281474976710656 := by
              have : ((it.bytes * a : Nat) : Int) ≤ 281474976710656 := Int.ofNat_le.2 h5'
              rwa [Int.natCast_mul] at this
            have := run_make (P := P) w' t e' it zv hu hi hzz k k' (a : Int) (a : Int) (by omega) (by omega) hb (by omega)
            rw [show (Int.ofNat a) = (a : Int) from rfl, this]
            simp only [Int.toNat_natCast]
            have hmap : madeCells zv.cells (a * it.size) = ((List.range (a * zv.cells.toList.length)).map fun i => zv.cells.toList.getD (i % zv.cells.toList.length) default).toArray := by
              have hs : zv.cells.size = it.size := by simpa using hzl
              rw [madeCells, hzl, hs]
              apply Array.ext'
              simp only [Array.toList_map, Array.toList_range]
              apply List.map_congr_left
              intro i _
              simp only [getElem!_def, List.getD, Array.getElem?_toList]
              cases zv.cells[i % it.size]? <;> rfl
            rw [hmap]

theorem sappend_sound {t tx : Nat} {a b : SV} {v u : Value} (ha : a.den ρ = some v) (hb : b.den ρ = some u) (ty : TypeId) (w : World) {s : Sem Next}
    (hs : ∀ q, (Builtin.append_ #[t, tx] ty #[v, u]).run P w = .ok q w → s.run P w = .ok (.value q) w) : (sappend P t tx a b).Sound P ρ w s := by
  unfold sappend
  split
  case h_2 => trivial
  case h_1 e d hu hux =>
    split
    case h_2 => trivial
    case h_1 sz hz hn =>
      obtain ⟨it, hi, hsz⟩ := tsz_info hz
      have hsrc : ∃ base cap e', d = .slice e' ∧ u = .slice base 0 cap := by
        unfold snone at hn
        split at hn
        · simp only [SV.den, Option.some.injEq] at hb; exact ⟨none, 0, _, rfl, hb.symm⟩
        · simp only [SV.den, Option.map_eq_some_iff] at hb
          obtain ⟨b, _, rfl⟩ := hb
          exact ⟨_, _, _, rfl, rfl⟩
        · cases hn
      obtain ⟨base, cap', e', rfl, rfl⟩ := hsrc
      have key : ∀ (bs : Option Addr) (len cap : Nat), len ≤ cap → v = .slice bs len cap → (Builtin.append_ #[t, tx] ty #[v, .slice base 0 cap']).run P w = .ok v w := by
        rintro bs len cap hle rfl
        cases bs <;> cases base <;> simp [Builtin.append_, run_und hu, run_und hux, sizeOf, typeInfo, hi, Builtin.lenOf, hle, Builtin.firstCells, storeCells, loadCells, loadCellsFrom]
      split
      · intro hle
        have ha' := ha
        simp only [SV.den, Option.map_eq_some_iff] at ha
        obtain ⟨b, _, rfl⟩ := ha
        exact ⟨_, hs _ (key _ _ _ (Nat.le_of_ble_eq_true hle) rfl), ha'⟩
      · intro hle
        have ha' := ha
        simp only [SV.den] at ha
        split at ha
        case isFalse => cases ha
        case isTrue hlo =>
          simp only [Option.map_eq_some_iff] at ha
          obtain ⟨b, _, rfl⟩ := ha
          exact ⟨_, hs _ (key _ _ _ (Nat.le_of_ble_eq_true hle) rfl), ha'⟩
      · have ha' := ha
        simp only [SV.den, Option.some.injEq] at ha
        exact ⟨_, hs _ (key none 0 0 (Nat.le_refl _) ha.symm), ha'⟩
      · trivial

theorem sstr_den {x : SV} {s : ByteArray} {v : Value} (h : sstr x = some s) (hx : x.den ρ = some v) : v = .string s := by
  unfold sstr at h
  split at h <;> simp only [Option.some.injEq, reduceCtorEq] at h
  all_goals
    subst h
    simp only [SV.den, Option.some.injEq] at hx
    exact hx.symm

theorem resolve_value {f : Operand} {args : Array Operand} {ts : Array TypeId} {ty : TypeId} {g : FuncId} {capt : Array Value} (hf : r f = .func (.func g) #[] capt) (w : World) :
    (do let d ← resolve r { callee := .value f, args := args, argTypes := ts } ty; invoke d.target d.args : Sem Next).run P w = (callFunc g (args.map r ++ capt)).run P w := by
  simp [resolve, hf, Deferred.ofValue, invoke]

theorem resolve_fb {f : Operand} {args : Array Operand} {ts : Array TypeId} {ty : TypeId} {g : FuncId} {fs : Array Value} (hf : r f = .func (.func g) fs #[]) (w : World) :
    (do let d ← resolve r { callee := .value f, args := args, argTypes := ts } ty; invoke d.target d.args : Sem Next).run P w = (callFunc g (fs ++ args.map r)).run P w := by
  simp [resolve, hf, Deferred.ofValue, invoke]

theorem arrMap {α β : Type} (g : α → β) (a : Array α) : (a.toList.map g).toArray = a.map g := by
  rw [← Array.toList_map]

theorem sop_sound (hH : Holds ρ H w) (o : Oper) (hx : ∀ x ∈ o.op.operands, (sval tm x).den ρ = some (r x)) :
    (sop P H tm o).Sound P ρ w (execOp r o) := by
  obtain ⟨dst, op, ty, pos, after, guard⟩ := o
  cases op <;> simp only [sop, execOp] <;> try trivial
  case move x => exact ⟨_, rfl, hx x (by simp [Op.operands])⟩
  case assign x => exact ⟨_, rfl, hx x (by simp [Op.operands])⟩
  case pick c a b =>
    have hc := hx c (by simp [Op.operands])
    have ha := hx a (by simp [Op.operands])
    have hb := hx b (by simp [Op.operands])
    split
    · rename_i e
      rw [e] at hc
      simp only [SV.den, Option.some.injEq] at hc
      exact ⟨_, by simp only [← hc, asBool, Sem.run_bind, Sem.run_pure, Result.andThen_ok]; rfl, ha⟩
    · rename_i e
      rw [e] at hc
      simp only [SV.den, Option.some.injEq] at hc
      exact ⟨_, by simp only [← hc, asBool, Sem.run_bind, Sem.run_pure, Result.andThen_ok]; rfl, hb⟩
    · split <;> trivial
    · trivial
  case load t a =>
    have ha := hx a (by simp [Op.operands])
    split
    case h_2 => trivial
    case h_1 n off e =>
      rw [e] at ha
      obtain ⟨b, hb, hv⟩ := den_p ha
      refine OR.sound_ofVal fun y hy => ?_
      obtain ⟨b', v, hb', hrun, hd⟩ := run_loadVar hH hy
      rw [hb] at hb'; cases hb'
      refine ⟨v, run_value ?_, hd⟩
      simp only [hv, Instr.loadAt, Instr.sureAddr, Sem.run_bind, Sem.run_pure, Result.andThen_ok]
      exact hrun
  case store t a x =>
    have ha := hx a (by simp [Op.operands])
    have hv := hx x (by simp [Op.operands])
    split
    case h_2 => trivial
    case h_1 n off e =>
      rw [e] at ha
      obtain ⟨b, hb, hav⟩ := den_p ha
      split
      case h_2 => trivial
      case h_1 H' hs =>
        obtain ⟨b', w', hb', hrun, hH', hm⟩ := run_storeVar hH hs hv
        rw [hb] at hb'; cases hb'
        refine ⟨w', ?_, hH', hm⟩
        simp [hav, Instr.storeAt, Instr.sureAddr, hrun]
  case nilCheck x =>
    have ha := hx x (by simp [Op.operands])
    cases hs : sval tm x <;> try trivial
    · rename_i z
      cases z <;> try trivial
      rename_i a
      cases a with
      | none => trivial
      | some a =>
        rw [hs] at ha
        simp only [SV.den, Option.some.injEq] at ha
        exact ⟨_, by simp only [← ha]; rfl, rfl⟩
    · rw [hs] at ha
      obtain ⟨b, hb, hav⟩ := den_p ha
      exact ⟨_, by simp only [hav]; rfl, by rw [← hav]; exact ha⟩
    · rw [hs] at ha
      obtain ⟨l, hl, hav⟩ := den_fn ha
      exact ⟨_, by simp only [hav]; rfl, by rw [← hav]; exact ha⟩
    · rw [hs] at ha
      obtain ⟨l, hl, hav⟩ := den_fb ha
      exact ⟨_, by simp only [hav]; rfl, by rw [← hav]; exact ha⟩
  case fieldAddr t x f =>
    have ha := hx x (by simp [Op.operands])
    split
    case h_3 => trivial
    case h_1 n off e =>
      rw [e] at ha
      obtain ⟨b, hb, hav⟩ := den_p ha
      split
      case h_2 => trivial
      case h_1 d hd =>
        obtain ⟨fs, fl, sz, hu, hf, hz, hne, rfl⟩ := foff_place hd
        refine ⟨.pointer (some ⟨b, off + fl.offset, none⟩), ?_, by simp [SV.den, hb]⟩
        simp [hav, Instr.fieldAt, Instr.sureAddr, run_und hu, hf, fieldPlace, run_sizeOf' hz, hne, add_off]
    case h_2 a e =>
      rw [e] at ha
      simp only [SV.den, Option.some.injEq] at ha
      split
      case h_2 => trivial
      case h_1 d hd =>
        obtain ⟨fs, fl, sz, hu, hf, hz, hne, rfl⟩ := foff_place hd
        refine ⟨.pointer (some (a.add fl.offset)), ?_, rfl⟩
        simp [← ha, Instr.fieldAt, Instr.sureAddr, run_und hu, hf, fieldPlace, run_sizeOf' hz, hne]
  case field t x f =>
    have ha := hx x (by simp [Op.operands])
    split
    case h_2 => trivial
    case h_1 fs cs hu e =>
      rw [e] at ha
      obtain ⟨l, hl, hav⟩ := den_ag ha
      refine OR.sound_ofVal fun y hy => ?_
      cases hf : fs[f]? with
      | none => simp [hf] at hy
      | some fl =>
        simp only [hf, Option.bind_some] at hy
        obtain ⟨v, hv, hd⟩ := spart_run hy hl w
        refine ⟨v, run_value ?_, hd⟩
        simp [hav, Instr.field, run_und hu, hf, asAgg, hv]
  case extract t j =>
    have ha := hx t (by simp [Op.operands])
    split
    case h_2 => trivial
    case h_1 vs e =>
      rw [e] at ha
      obtain ⟨l, hl, hav⟩ := den_tp ha
      refine OR.sound_ofVal fun y hy => ?_
      obtain ⟨v, hv, hd⟩ := denL_get hl hy
      exact ⟨v, by simp [hav, Instr.extract, hv], hd⟩
  case build t ps =>
    refine OR.sound_ofVal fun y hy => ?_
    obtain ⟨v, hv, hd⟩ := sbuild_run (r := r) hy (fun p hp => hx p.2 (by simp only [Op.operands, List.mem_toArray, List.mem_map]; exact ⟨p, hp, rfl⟩)) w
    refine ⟨v, run_value ?_, hd⟩
    rw [arrMap] at hv
    exact hv
  case alloc e =>
    split
    case h_2 => trivial
    case h_1 cs hcs =>
      cases hz : zeroS P e with
      | none => simp [hz] at hcs
      | some z =>
        simp only [hz, Option.bind_some] at hcs
        obtain ⟨zv, _, hzd, hzz⟩ := run_zero (ρ := ρ) hz default
        refine ⟨_, cellsS_den hcs hzd, fun w' => ?_⟩
        obtain ⟨zv', hzr', _, hzz'⟩ := run_zero (ρ := ρ) hz w'
        have : zv' = zv := by
          have a := ofV_den ρ zv; have b := ofV_den ρ zv'
          rw [← hzz'] at b; rw [hzd] at b; exact (Option.some.inj b).symm
        subst this
        simp [Instr.alloc, hzr', newVar, newRow, NewK.val]
  case box e x =>
    have ha := hx x (by simp [Op.operands])
    split
    case h_2 => trivial
    case h_1 cs hcs =>
      refine ⟨_, cellsS_den hcs ha, fun w' => ?_⟩
      simp [Instr.box, newVar, newRow, NewK.val]
  case buildSlice t n ps =>
    split
    case h_2 => trivial
    case h_1 cs e hs =>
      obtain ⟨vs, hvs, hrun⟩ := sbuildSlice_run (r := r) hs (fun p hp => hx p.2 (by simp only [Op.operands, List.mem_toArray, List.mem_map]; exact ⟨p, hp, rfl⟩))
      refine ⟨vs, hvs, fun w' => run_value ?_⟩
      have := hrun w'
      rw [arrMap] at this
      exact this
  case makeSlice t x y =>
    have ha := hx x (by simp [Op.operands])
    have hb := hx y (by simp [Op.operands])
    split
    case h_2 => trivial
    case h_1 n cs e hs =>
      obtain ⟨vs, hvs, hrun⟩ := smakeSlice_run hs ha hb
      exact ⟨vs, hvs, fun w' => run_value (hrun w')⟩
  case typeAssert x xT t ok =>
    cases ok with
    | false => trivial
    | true =>
      refine OR.sound_ofVal fun z hz => ?_
      obtain ⟨q, hq, hd⟩ := sassert_run hz (hx x (by simp [Op.operands])) xT w
      exact ⟨q, run_value hq, hd⟩
  case slice t x lo hi mx =>
    cases mx with
    | some q => trivial
    | none =>
      refine OR.sound_ofVal fun z hz => ?_
      obtain ⟨q, hq, hd⟩ := sslice_run (vl := lo.map r) (vh := hi.map r) hz (hx x (by simp [Op.operands]))
        (fun s hs => by
          cases lo with
          | none => cases hs
          | some l => simp only [Option.map_some, Option.some.injEq] at hs; subst hs; exact ⟨_, rfl, hx l (by simp [Op.operands])⟩)
        (fun hs => by cases lo <;> simp_all)
        (fun s hs => by
          cases hi with
          | none => cases hs
          | some l => simp only [Option.map_some, Option.some.injEq] at hs; subst hs; exact ⟨_, rfl, hx l (by simp [Op.operands])⟩)
        (fun hs => by cases hi <;> simp_all) w
      exact ⟨q, run_value hq, hd⟩
  case makeMap t res =>
    cases res with
    | some x => trivial
    | none =>
      have hm : (smakeMap P t).obj = .map #[] 0 := by
        unfold smakeMap
        split
        · split <;> simp [SOb.obj]
        · rfl
      show (do pure (.value (← Instr.makeMap t none)) : Sem Next).run P w = .ok (.value (.map (some w.heap.size))) (w.alloc (smakeMap P t).obj)
      rw [hm]
      simp [Instr.makeMap]
  case lookup t m k ok =>
    refine OR.sound_ofVal fun z hz => ?_
    obtain ⟨q, hq, hd⟩ := slookup_run hz hH (hx m (by simp [Op.operands])) (hx k (by simp [Op.operands]))
    exact ⟨q, run_value hq, hd⟩
  case mapUpdate t m k x =>
    split
    case h_2 => trivial
    case h_1 n q hq =>
      obtain ⟨b, hb, hrun⟩ := smapPut_run hq hH (hx m (by simp [Op.operands])) (hx k (by simp [Op.operands])) (hx x (by simp [Op.operands]))
      exact ⟨_, .inl (by simp [hrun]), Moves.setB hb _, fun H o' hH hn => hH.setObj hn hb⟩
  case insert t m k x =>
    split
    case h_2 => trivial
    case h_1 n q hq =>
      obtain ⟨b, hb, hrun⟩ := smapPut_run hq hH (hx m (by simp [Op.operands])) (hx k (by simp [Op.operands])) (hx x (by simp [Op.operands]))
      exact ⟨_, .inl (by simp [hrun]), Moves.setB hb _, fun H o' hH hn => hH.setObj hn hb⟩
  case makeFunc fn first capt =>
    cases fn <;> try trivial
    rename_i f
    simp only
    split
    case h_3 => trivial
    case h_2 hf hne =>
      have hf' : capt = #[] := by cases capt; simpa using hf
      subst hf'
      refine ⟨.func (.func f) (first.toList.map r).toArray #[], ?_, ?_⟩
      · simp [Instr.makeFunc, arrMap]
      · simp only [SV.den, map_den (ρ := ρ) (r := r) (tm := tm) (l := first.toList) (fun x h => hx x (by simpa [Op.operands] using h))]; rfl
    case h_1 hf =>
      have hf' : first = #[] := by cases first; simpa using hf
      subst hf'
      refine ⟨.func (.func f) #[] (capt.toList.map r).toArray, ?_, ?_⟩
      · simp [Instr.makeFunc, arrMap]
      · simp only [SV.den, map_den (ρ := ρ) (r := r) (tm := tm) (l := capt.toList) (fun x h => hx x (by simpa [Op.operands] using h))]; rfl
  case makeInterface t x =>
    have ha := hx x (by simp [Op.operands])
    split
    · trivial
    · rename_i d hne hu
      refine ⟨.iface t (r x), run_value ?_, by simp [SV.den, ha]⟩
      simp only [Instr.makeInterface, Sem.run_bind, run_und hu, Result.andThen_ok]
      cases d <;> first | rfl | exact absurd rfl (hne _)
    · trivial
  case unOp op t x =>
    have ha := hx x (by simp [Op.operands])
    cases op <;> try trivial
    refine OR.sound_ofVal fun y hy => ?_
    unfold snot at hy
    split at hy <;> simp only [Option.some.injEq, reduceCtorEq] at hy <;> rename_i e <;> rw [e] at ha <;> simp only [SV.den, Option.some.injEq] at ha
    all_goals (subst hy; exact ⟨_, by simp only [← ha, Op.unary, Sem.run_bind, Sem.run_pure, Result.andThen_ok], rfl⟩)
  case binOp op t x y ty2 =>
    have ha := hx x (by simp [Op.operands])
    have hb := hx y (by simp [Op.operands])
    refine OR.sound_ofVal fun z hz => ?_
    obtain ⟨q, hq, hd⟩ := sbin_run hz ha hb w
    exact ⟨q, run_value hq, hd⟩
  case indexAddr t x j =>
    have ha := hx x (by simp [Op.operands])
    have hb := hx j (by simp [Op.operands])
    unfold sindexA
    split
    · rename_i z hz
      obtain ⟨q, hq, hd⟩ := sindexAddr_run hz ha hb w
      exact ⟨q, run_value hq, hd⟩
    · split
      case h_2 => trivial
      case h_1 e a len cap k i hu he hj =>
        split
        case h_2 => trivial
        case h_1 sz hz =>
          intro hc
          simp only [Bool.and_eq_true, decide_eq_true_eq] at hc
          rw [he] at ha
          simp only [SV.den, Option.some.injEq] at ha
          have hj' := sint_den hj hb
          refine ⟨_, ?_, rfl⟩
          simp only [← ha, hj', Instr.indexAt, asIntOf, Sem.run_bind, Sem.run_pure, Result.andThen_ok, run_und hu, if_pos hc, run_sizeOf' hz]
  case index t x j =>
    have ha := hx x (by simp [Op.operands])
    have hb := hx j (by simp [Op.operands])
    unfold sindex
    split
    case h_2 => trivial
    case h_1 s k i hu hs hj =>
      intro hc
      simp only [Bool.and_eq_true, decide_eq_true_eq] at hc
      have hj' := sint_den hj hb
      have hs' := sstr_den hs ha
      have hlt : i.toNat < s.size := by omega
      have hget : s[i.toNat]? = some s[i.toNat] := getElem?_pos s i.toNat hlt
      refine ⟨_, ?_, rfl⟩
      have hb : byteAt s i = (s[i.toNat].toNat : Int) := by
        unfold byteAt
        have hl2 : i.toNat < s.data.toList.length := by simpa using hlt
        have e1 : s.data.toList.getD i.toNat 0 = s.data.toList[i.toNat] := by simp [List.getD, List.getElem?_eq_getElem hl2]
        rw [e1]
        rfl
      simp only [hs', hj', Instr.index, asIntOf, Sem.run_bind, Sem.run_pure, Result.andThen_ok, run_und hu, if_pos hc.1, hget, hb]
  case call c =>
    obtain ⟨callee, args, ts⟩ := c
    simp only
    have hargs : ∀ x ∈ args.toList, (sval tm x).den ρ = some (r x) := fun x h => hx x (by simp [Op.operands, Call.operands]; exact .inr (by simpa using h))
    split
    · rename_i e f
      unfold senter
      split
      case isFalse => trivial
      case isTrue he =>
        refine ⟨_, map_den hargs, fun w' => ?_⟩
        have hf := hx (.func f) (by simp [Op.operands, Call.operands])
        simp only [sval, SV.den, SV.denL, Option.map_some, Option.some.injEq] at hf
        rw [resolve_value hf.symm w', enterable_run he, arrMap]
        simp
    · rename_i e g hne
      split
      case h_3 => trivial
      case h_2 f cs e2 =>
        unfold senter
        split
        case isFalse => trivial
        case isTrue he =>
          have hg := hx g (by simp [Op.operands, Call.operands])
          rw [e2] at hg
          obtain ⟨l, hl, hgv⟩ := den_fb hg
          refine ⟨_, denL_append hl (map_den hargs), fun w' => ?_⟩
          rw [resolve_fb hgv w', enterable_run he]
          simp
      case h_1 f cs e2 =>
        unfold senter
        split
        case isFalse => trivial
        case isTrue he =>
          have hg := hx g (by simp [Op.operands, Call.operands])
          rw [e2] at hg
          obtain ⟨l, hl, hgv⟩ := den_fn hg
          refine ⟨_, denL_append (map_den hargs) hl, fun w' => ?_⟩
          rw [resolve_value hgv w', enterable_run he]
          simp
    · rename_i e rv name
      split
      case h_2 => trivial
      case h_1 t y hrv =>
        split
        case h_2 => trivial
        case h_1 f hf =>
          unfold senter
          split
          case isFalse => trivial
          case isTrue he =>
            have hr := hx rv (by simp [Op.operands, Call.operands])
            rw [hrv] at hr
            simp only [SV.den, Option.map_eq_some_iff] at hr
            obtain ⟨z, hz, hrz⟩ := hr
            refine ⟨z :: args.toList.map r, denL_mk hz (map_den hargs), fun w' => ?_⟩
            have hc := enterable_run he (#[z] ++ args.map r) w'
            have hm := smethod_run hf z w'
            have e1 : (#[Value.iface t z] ++ args.map r)[0]? = some (.iface t z) := by rw [Array.getElem?_append_left (by simp)]; rfl
            have e2 : (#[Value.iface t z] ++ args.map r).extract 1 (#[Value.iface t z] ++ args.map r).size = args.map r := by
              apply Array.ext'
              simp [List.take_of_length_le]
            have e3 : (#[z] ++ args.map r) = (z :: args.toList.map r).toArray := by
              apply Array.ext'
              simp
            rw [e3] at hc
            simp only [resolve, invoke, Sem.run_bind, Sem.run_pure, Result.andThen_ok, ← hrz, e1, e2, callMethod, run_program, hm, e3, hc]
    · rename_i e
      split
      case h_2 => trivial
      case h_1 t tx a b hts hxs =>
        split
        case h_2 => trivial
        case h_1 n q hq =>
          obtain ⟨b', hb, hrun⟩ := smapDel_run (t' := tx) hq hH (hargs a (by simp [hxs])) (hargs b (by simp [hxs])) ty
          refine ⟨_, .inr ?_, Moves.setB hb _, fun H o' hH hn => hH.setObj hn hb⟩
          have h1 : ts = #[t, tx] := by rw [← Array.toArray_toList (xs := ts), hts]
          have h2 : args = #[a, b] := by rw [← Array.toArray_toList (xs := args), hxs]
          subst h1 h2
          simp [resolve, invoke, builtin, hrun]
    · rename_i e
      split
      case h_2 => trivial
      case h_1 t tx a b hts hxs =>
        refine sappend_sound (hargs a (by simp [hxs])) (hargs b (by simp [hxs])) ty w fun q hq => ?_
        have h1 : ts = #[t, tx] := by rw [← Array.toArray_toList (xs := ts), hts]
        have h2 : args = #[a, b] := by rw [← Array.toArray_toList (xs := args), hxs]
        subst h1 h2
        simp [resolve, invoke, builtin, hq]
    · rename_i e
      split
      case h_2 => trivial
      case h_1 t ts' x hts hxs =>
        refine OR.sound_ofVal fun z hz => ?_
        have hax := hargs x (by simp [hxs])
        obtain ⟨q, hq, hd⟩ := slen_run hz hax ty ts' w
        refine ⟨q, ?_, hd⟩
        have h1 : ts = (t :: ts').toArray := by rw [← hts]
        have h2 : args = #[x] := by rw [← Array.toArray_toList (xs := args), hxs]
        subst h1 h2
        simp [resolve, invoke, builtin, hq]
    · rename_i e
      split
      case h_2 => trivial
      case h_1 x y hxs =>
        refine OR.sound_ofVal fun z hz => ?_
        have hax := hargs x (by simp [hxs])
        have hay := hargs y (by simp [hxs])
        unfold smin at hz
        split at hz
        case h_2 => cases hz
        case h_1 k a k' b ha hb =>
          simp only [Option.some.injEq] at hz
          subst hz
          refine ⟨_, ?_, rfl⟩
          have h2 : args = #[x, y] := by rw [← Array.toArray_toList (xs := args), hxs]
          subst h2
          simp [resolve, invoke, builtin, Builtin.min_, Builtin.min2, sint_den ha hax, sint_den hb hay]
    · trivial

end
end Go.Rl
