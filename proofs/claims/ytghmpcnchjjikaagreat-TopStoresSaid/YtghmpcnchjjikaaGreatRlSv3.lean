/-
  What the symbolic operations say is what the operations do (2): stores, new blocks, all operations.
-/
import Derived.Test.YtghmpcnchjjikaaGreatRlSv2
set_option linter.all false
set_option linter.unusedVariables false
set_option linter.unusedSimpArgs false
set_option linter.unnecessarySimpa false
namespace Go.Rl
open Go

theorem oneS_den {ρ : Rho} {x : SV} {v : Value} (h1 : oneS x = true) (hd : x.den ρ = some v) : v.oneCell' = true := by
  cases x <;> simp only [oneS, Bool.false_eq_true] at h1 <;> simp only [SV.den, Option.map_eq_some_iff, Option.some.injEq] at hd
  case v x => subst hd; cases x <;> simp_all [oneV, Value.oneCell']
  case p n off => obtain ⟨b, _, rfl⟩ := hd; rfl
  case sl n off l c => obtain ⟨b, _, rfl⟩ := hd; rfl
  case so n off l c lo =>
    split at hd
    · simp only [Option.map_eq_some_iff] at hd; obtain ⟨b, _, rfl⟩ := hd; rfl
    · cases hd
  case mp n => obtain ⟨b, _, rfl⟩ := hd; rfl
  case fn f cs => obtain ⟨b, _, rfl⟩ := hd; rfl
  case fb f cs => obtain ⟨b, _, rfl⟩ := hd; rfl
  case ifc t x => obtain ⟨b, _, rfl⟩ := hd; rfl
  all_goals (subst hd; rfl)

theorem cellsS_den {ρ : Rho} {x : SV} {cs : List SV} {v : Value} (h : cellsS x = some cs) (hd : x.den ρ = some v) :
    SV.denL ρ cs = some v.cells.toList := by
  cases x <;> simp only [cellsS, Option.some.injEq, reduceCtorEq] at h
  case v x =>
    split at h
    · rename_i h1
      simp only [Option.some.injEq] at h
      subst h
      simp only [SV.den, Option.some.injEq] at hd; subst hd
      cases x <;> simp_all [oneV, Value.cells, SV.denL, SV.den]
    · simp at h
  case ag cs' =>
    subst h
    simp only [SV.den, Option.map_eq_some_iff] at hd
    obtain ⟨l, hl, rfl⟩ := hd
    simpa [Value.cells] using hl
  all_goals
    subst h
    have h1 := oneS_den (ρ := ρ) (v := v) rfl hd
    have : v.cells = #[v] := by cases v <;> simp_all [Value.cells, Value.oneCell']
    rw [this]
    exact denL_mk hd (by simp [SV.denL])

/-- How a world may turn: what has no name stays. -/
structure Moves (ρ ρ' : Rho) (w w' : World) : Prop where
  os : w'.os = w.os
  tape : w'.tape = w.tape
  output : w'.output = w.output
  size : w.heap.size ≤ w'.heap.size
  old : ∀ b, b < w.heap.size → (∀ n, ρ n ≠ some b) → w'.heap[b]? = w.heap[b]?
  le : ρ.le ρ'
  new : ∀ n b, ρ' n = some b → (∃ m, ρ m = some b) ∨ w.heap.size ≤ b

theorem Moves.refl (ρ : Rho) (w : World) : Moves ρ ρ w w :=
  ⟨rfl, rfl, rfl, Nat.le_refl _, fun _ _ _ => rfl, Rho.le_refl ρ, fun _ _ h => .inl ⟨_, h⟩⟩

theorem Moves.trans {a b c : Rho} {u v w : World} (h : Moves a b u v) (k : Moves b c v w) : Moves a c u w where
  os := k.os.trans h.os
  tape := k.tape.trans h.tape
  output := k.output.trans h.output
  size := Nat.le_trans h.size k.size
  old := fun x hx hn => by
    rw [k.old x (Nat.lt_of_lt_of_le hx h.size) fun n hb => ?_, h.old x hx hn]
    rcases h.new n x hb with ⟨m, h1⟩ | h1
    · exact hn m h1
    · omega
  le := Rho.le_trans h.le k.le
  new := fun n x hx => by
    rcases k.new n x hx with ⟨m, h1⟩ | h1
    · exact h.new m x h1
    · exact .inr (Nat.le_trans h.size h1)

theorem Moves.drew {ρ : Rho} {w : World} : Moves ρ ρ w { w with drawn := w.drawn + 1 } :=
  ⟨rfl, rfl, rfl, Nat.le_refl _, fun _ _ _ => rfl, Rho.le_refl ρ, fun _ _ h => .inl ⟨_, h⟩⟩

theorem Holds.drew {ρ : Rho} {H : List SO} {w : World} (h : Holds ρ H w) : Holds ρ H { w with drawn := w.drawn + 1 } :=
  ⟨h.row, h.obj, h.inj, h.lt⟩

section
variable {P : Program} {ρ : Rho} {H : List SO} {w : World}

theorem Holds.lt_len (h : Holds ρ H w) {n b : Nat} (hb : ρ n = some b) : n < H.length := (h.lt n b hb).1

/-- A name's row is another one. -/
theorem Holds.set (h : Holds ρ H w) {n b : Nat} {ks' : List SV} {rest rest' : List Value} {T : TypeId} {ks : List SV} {vs' : List Value}
    (hn : H[n]? = some (.row true ks rest T)) (hb : ρ n = some b) (hd : SV.denL ρ ks' = some vs') (w' : World)
    (hs : w'.heap.size = w.heap.size) (hw : w'.heap[b]? = some (.cells (vs' ++ rest').toArray T (0, 0))) (ho : ∀ k, k ≠ b → w'.heap[k]? = w.heap[k]?) :
    Holds ρ (H.set n (.row true ks' rest' T)) w' := by
  have hal : ∀ m, alive (H.set n (.row true ks' rest' T)) m → alive H m := by
    rintro m ⟨o, hm, hne⟩
    rw [List.getElem?_set] at hm
    split at hm
    · rename_i e; subst e; exact ⟨_, hn, by simp⟩
    · exact ⟨o, hm, hne⟩
  have haln : alive H n := ⟨_, hn, by simp⟩
  refine ⟨?_, ?_, fun a c x ha hc h1 h2 => h.inj a c x (hal a ha) (hal c hc) h1 h2, fun m c hc => ?_⟩
  · intro m live ks2 rest2 T2 hm
    rw [List.getElem?_set] at hm
    split at hm
    · rename_i e; subst e
      have hlt := h.lt_len hb
      simp only [hlt, if_true, Option.some.injEq, SO.row.injEq] at hm
      obtain ⟨rfl, rfl, rfl, rfl⟩ := hm
      refine ⟨fun _ => ⟨b, hb⟩, fun c hc => ?_⟩
      rw [hb] at hc; cases hc
      exact ⟨vs', hd, hw⟩
    · rename_i hne
      obtain ⟨h1, h2⟩ := h.row m _ _ _ _ hm
      refine ⟨h1, fun c hc => ?_⟩
      obtain ⟨us, hu, hcell⟩ := h2 c hc
      refine ⟨us, hu, ?_⟩
      rw [ho c fun e => ?_]; exact hcell
      subst e
      exact hne (h.inj n m c haln ⟨_, hm, by simp⟩ hb hc)
  · intro m o hm
    rw [List.getElem?_set] at hm
    split at hm
    · rename_i e; subst e
      have hlt := h.lt_len hb
      simp [hlt] at hm
    · rename_i hne
      obtain ⟨c, hc, hcell⟩ := h.obj m o hm
      refine ⟨c, hc, ?_⟩
      rw [ho c fun e => ?_]; exact hcell
      subst e
      exact hne (h.inj n m c haln ⟨_, hm, by simp⟩ hb hc)
  · have := h.lt m c hc
    simp; omega

theorem run_storeVar {t n off : Nat} {x : SV} {v : Value} {H' : List SO} (hH : Holds ρ H w) (h : sstore P H t n off x = some H') (hv : x.den ρ = some v) :
    ∃ b w', ρ n = some b ∧ (storeVar t ⟨b, off, none⟩ v).run P w = .ok () w' ∧ Holds ρ H' w' ∧ Moves ρ ρ w w' := by
  unfold sstore at h
  cases hz : tsz P t with
  | none => simp [hz] at h
  | some sz =>
    cases hc : cellsS x with
    | none => simp [hz, hc] at h
    | some cs =>
      simp only [hz, hc, Option.bind_some] at h
      split at h
      case h_2 => simp at h
      case h_1 ks rest T hrow =>
        split at h
        case isFalse => simp at h
        case isTrue hcond =>
          simp only [Bool.and_eq_true, List.all_eq_true] at hcond
          obtain ⟨⟨h1, h2⟩, h3⟩ := hcond
          have h1' : cs.length = sz := Nat.eq_of_beq_eq_true h1
          have h2' := Nat.le_of_ble_eq_true h2
          simp only [Option.some.injEq] at h
          obtain ⟨rest', T', b, vs, hrow', hb, hvs, hcell⟩ := hH.live (ks := ks) (n := n) (by rw [hrow]; rfl)
          rw [hrow] at hrow'
          simp only [Option.some.injEq, SO.row.injEq, true_and] at hrow'
          obtain ⟨rfl, rfl⟩ := hrow'
          have hcs := cellsS_den hc hv
          have hlen := denL_length hvs
          have hlc := denL_length hcs
          have hone : ∀ u ∈ v.cells.toList, u.oneCell' = true := by
            intro u hu
            obtain ⟨j, hj⟩ := List.getElem?_of_mem hu
            have hjl : j < cs.length := by rw [← hlc]; exact (List.getElem?_eq_some_iff.1 hj).1
            obtain ⟨u', hu', hd'⟩ := denL_get hcs (List.getElem?_eq_getElem hjl)
            rw [hj] at hu'; cases hu'
            exact oneS_den (h3 _ (List.getElem_mem hjl)) hd'
          have hst := run_storeCells_at P b off T v.cells.toList 0 (vs ++ rest).toArray w hcell (by simp at hlc ⊢; omega) hone
          have hsize : v.cells.size = sz := by have : v.cells.toList.length = sz := by omega
                                               simpa using this
          have hdrop : (vs ++ rest).take off ++ v.cells.toList ++ (vs ++ rest).drop (off + v.cells.toList.length)
              = (vs.take off ++ (v.cells.toList ++ vs.drop (off + sz))) ++ rest := by
            have : v.cells.toList.length = sz := by omega
            rw [this, List.take_append_of_le_length (by omega), List.drop_append_of_le_length (by omega)]
            simp
          simp only [Nat.add_zero] at hst
          rw [hdrop] at hst
          refine ⟨b, w.setRow b ((vs.take off ++ (v.cells.toList ++ vs.drop (off + sz))) ++ rest).toArray, hb, ?_, ?_, ?_⟩
          · simp only [storeVar, Sem.run_bind, run_sizeOf' hz, Result.andThen_ok, hsize, ne_eq, not_true_eq_false, if_false]
            exact hst
          · subst h
            refine hH.set (vs' := vs.take off ++ (v.cells.toList ++ vs.drop (off + sz))) hrow hb ?_ _ (by simp [World.setRow]) (setRow_heap w b _ _ T _ hcell) (fun k hk => setRow_other w b k _ hk)
            rw [h1'.symm]
            exact denL_append (denL_take off hvs) (denL_append hcs (by rw [h1']; exact denL_drop (off + sz) hvs))
          · exact ⟨rfl, rfl, rfl, by simp [World.setRow], fun k _ hn => setRow_other w b k _ (fun e => hn n (e ▸ hb)), Rho.le_refl ρ, fun _ _ h => .inl ⟨_, h⟩⟩

theorem alloc_lt (w : World) (o : Obj) {b : Nat} (h : b < w.heap.size) : (w.alloc o).heap[b]? = w.heap[b]? := by
  show (w.heap.push o)[b]? = _
  rw [Array.getElem?_push, if_neg (by omega)]

theorem alloc_at (w : World) (o : Obj) : (w.alloc o).heap[w.heap.size]? = some o := by
  show (w.heap.push o)[w.heap.size]? = _
  rw [Array.getElem?_push, if_pos rfl]

/-- A new block under a new name. -/
def Rho.put (ρ : Rho) (n b : Nat) : Rho := fun m => if m = n then some b else ρ m

theorem Rho.le_put {ρ : Rho} {n b : Nat} (h : ρ n = none) : ρ.le (ρ.put n b) := fun m c hc => by
  unfold Rho.put; split
  · rename_i e; subst e; rw [h] at hc; cases hc
  · exact hc

theorem Holds.fresh (h : Holds ρ H w) : ρ H.length = none := by
  cases hn : ρ H.length with
  | none => rfl
  | some b => have := (h.lt _ _ hn).1; omega

theorem Holds.new (h : Holds ρ H w) {ks : List SV} {vs rest : List Value} {T : TypeId} (hd : SV.denL ρ ks = some vs) :
    Holds (ρ.put H.length w.heap.size) (H ++ [.row true ks rest T]) (w.alloc (.cells (vs ++ rest).toArray T (0, 0))) := by
  have hf := h.fresh
  have hle := Rho.le_put (b := w.heap.size) hf
  have hput : ∀ m, m < H.length → (ρ.put H.length w.heap.size) m = ρ m := fun m hm => by simp [Rho.put]; omega
  have hal : ∀ m, m < H.length → alive (H ++ [.row true ks rest T]) m → alive H m := by
    rintro m hm ⟨o, ho, hne⟩
    rw [List.getElem?_append_left hm] at ho
    exact ⟨o, ho, hne⟩
  have hheap : ∀ b, b < w.heap.size → (w.alloc (.cells (vs ++ rest).toArray T (0, 0))).heap[b]? = w.heap[b]? := fun b hb => alloc_lt w _ hb
  refine ⟨?_, ?_, ?_, ?_⟩
  · intro m live ks2 rest2 T2 hm
    by_cases hlt : m < H.length
    · rw [List.getElem?_append_left hlt] at hm
      obtain ⟨h1, h2⟩ := h.row m _ _ _ _ hm
      rw [hput m hlt]
      refine ⟨h1, fun b hb => ?_⟩
      obtain ⟨us, hu, hc⟩ := h2 b hb
      refine ⟨us, denL_mono hle hu, ?_⟩
      rw [hheap b (h.lt m b hb).2]; exact hc
    · have hml : m = H.length := by
        have := (List.getElem?_eq_some_iff.1 hm).1
        simp at this; omega
      subst hml
      simp at hm
      obtain ⟨rfl, rfl, rfl, rfl⟩ := hm
      refine ⟨fun _ => ⟨w.heap.size, by simp [Rho.put]⟩, fun b hb => ?_⟩
      simp [Rho.put] at hb; subst hb
      exact ⟨vs, denL_mono hle hd, alloc_at w _⟩
  · intro m o hm
    by_cases hlt : m < H.length
    · rw [List.getElem?_append_left hlt] at hm
      obtain ⟨b, hb, hc⟩ := h.obj m o hm
      refine ⟨b, by rw [hput m hlt]; exact hb, ?_⟩
      rw [hheap b (h.lt m b hb).2]; exact hc
    · have hml : m = H.length := by
        have := (List.getElem?_eq_some_iff.1 hm).1
        simp at this; omega
      subst hml
      simp at hm
  · intro a c x ha hc h1 h2
    have lta : ∀ m, alive (H ++ [.row true ks rest T]) m → m < H.length ∨ m = H.length := by
      rintro m ⟨o, ho, _⟩
      have := (List.getElem?_eq_some_iff.1 ho).1
      simp at this; omega
    rcases lta a ha with la | rfl <;> rcases lta c hc with lc | rfl
    · rw [hput _ la] at h1; rw [hput _ lc] at h2
      exact h.inj a c x (hal a la ha) (hal c lc hc) h1 h2
    · rw [hput _ la] at h1
      simp [Rho.put] at h2; subst h2
      have := (h.lt a _ h1).2; omega
    · rw [hput _ lc] at h2
      simp [Rho.put] at h1; subst h1
      have := (h.lt c _ h2).2; omega
    · rfl
  · intro m b hb
    unfold Rho.put at hb
    split at hb
    · cases hb; subst_vars; rw [World.size_alloc]; simp
    · have := h.lt m b hb
      rw [World.size_alloc]; simp; omega

theorem Holds.newObj (h : Holds ρ H w) (q : SOb) :
    Holds (ρ.put H.length w.heap.size) (H ++ [.obj q]) (w.alloc q.obj) := by
  have hf := h.fresh
  have hle := Rho.le_put (b := w.heap.size) hf
  have hput : ∀ m, m < H.length → (ρ.put H.length w.heap.size) m = ρ m := fun m hm => by simp [Rho.put]; omega
  have hal : ∀ m, m < H.length → alive (H ++ [.obj q]) m → alive H m := by
    rintro m hm ⟨o, ho, hne⟩
    rw [List.getElem?_append_left hm] at ho
    exact ⟨o, ho, hne⟩
  have hheap : ∀ b, b < w.heap.size → (w.alloc q.obj).heap[b]? = w.heap[b]? := fun b hb => alloc_lt w _ hb
  refine ⟨?_, ?_, ?_, ?_⟩
  · intro m live ks2 rest2 T2 hm
    by_cases hlt : m < H.length
    · rw [List.getElem?_append_left hlt] at hm
      obtain ⟨h1, h2⟩ := h.row m _ _ _ _ hm
      rw [hput m hlt]
      refine ⟨h1, fun b hb => ?_⟩
      obtain ⟨us, hu, hc⟩ := h2 b hb
      refine ⟨us, denL_mono hle hu, ?_⟩
      rw [hheap b (h.lt m b hb).2]; exact hc
    · have hml : m = H.length := by
        have := (List.getElem?_eq_some_iff.1 hm).1
        simp at this; omega
      subst hml
      simp at hm
  · intro m o hm
    by_cases hlt : m < H.length
    · rw [List.getElem?_append_left hlt] at hm
      obtain ⟨b, hb, hc⟩ := h.obj m o hm
      refine ⟨b, by rw [hput m hlt]; exact hb, ?_⟩
      rw [hheap b (h.lt m b hb).2]; exact hc
    · have hml : m = H.length := by
        have := (List.getElem?_eq_some_iff.1 hm).1
        simp at this; omega
      subst hml
      simp at hm
      subst hm
      exact ⟨w.heap.size, by simp [Rho.put], alloc_at w _⟩
  · intro a c x ha hc h1 h2
    have lta : ∀ m, alive (H ++ [.obj q]) m → m < H.length ∨ m = H.length := by
      rintro m ⟨o, ho, _⟩
      have := (List.getElem?_eq_some_iff.1 ho).1
      simp at this; omega
    rcases lta a ha with la | rfl <;> rcases lta c hc with lc | rfl
    · rw [hput _ la] at h1; rw [hput _ lc] at h2
      exact h.inj a c x (hal a la ha) (hal c lc hc) h1 h2
    · rw [hput _ la] at h1
      simp [Rho.put] at h2; subst h2
      have := (h.lt a _ h1).2; omega
    · rw [hput _ lc] at h2
      simp [Rho.put] at h1; subst h1
      have := (h.lt c _ h2).2; omega
    · rfl
  · intro m b hb
    unfold Rho.put at hb
    split at hb
    · cases hb; subst_vars; rw [World.size_alloc]; simp
    · have := h.lt m b hb
      rw [World.size_alloc]; simp; omega

theorem Moves.alloc (h : Holds ρ H w) (o : Obj) : Moves ρ (ρ.put H.length w.heap.size) w (w.alloc o) :=
  ⟨rfl, rfl, rfl, by simp, fun b hb _ => alloc_lt w _ hb, Rho.le_put h.fresh, fun n b hb => by
    unfold Rho.put at hb; split at hb
    · cases hb; exact .inr (Nat.le_refl _)
    · exact .inl ⟨_, hb⟩⟩

end
end Go.Rl
