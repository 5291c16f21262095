/-
  Orders of a region: what the machine's order is good for, and what our own is.
-/
import Derived.Test.YtghmpcnchjjikaaGreatRlSm
set_option linter.all false
set_option linter.unusedVariables false
set_option linter.unusedSimpArgs false
set_option linter.unnecessarySimpa false
namespace Go.Rl
open Go

/-- i is ahead of j in every order. -/
def Bf (ops : List Oper) (i j : Nat) : Prop := ((befores ops).getD j 0).testBit i = true

theorem getD_left {l m : List Nat} {j : Nat} (h : j < l.length) : (l ++ m).getD j 0 = l.getD j 0 := by
  simp [List.getD, List.getElem?_append_left h]

theorem getD_last {l : List Nat} {x : Nat} : (l ++ [x]).getD l.length 0 = x := by simp [List.getD]

theorem testBit_fold (acc : List Nat) (i : Nat) : ∀ (l : List Nat) (s : Nat),
    (l.foldl (fun s d => s ||| (2 ^ d) ||| acc.getD d 0) s).testBit i = (s.testBit i || l.any fun d => (d == i) || (acc.getD d 0).testBit i)
  | [], s => by simp
  | d :: l, s => by
    rw [List.foldl_cons, testBit_fold acc i l]
    simp only [Nat.testBit_or, Nat.testBit_two_pow, List.any_cons]
    by_cases h : d = i
    · simp [h]
    · have : (d == i) = false := by simpa using h
      simp [h, this, Bool.or_assoc]

theorem beforesFrom_getD : ∀ (ops : List Oper) (acc : List Nat) (j : Nat), j < acc.length → (beforesFrom ops acc).getD j 0 = acc.getD j 0
  | [], acc, j, h => rfl
  | o :: r, acc, j, h => by
    rw [beforesFrom, beforesFrom_getD r _ j (by simp; omega), getD_left h]

theorem beforesFrom_spec : ∀ (ops : List Oper) (acc : List Nat) (k : Nat) (o : Oper), ops[k]? = some o → (∀ d ∈ edgesL o, d < acc.length + k) →
    ∀ i, ((beforesFrom ops acc).getD (acc.length + k) 0).testBit i = (edgesL o).any fun d => (d == i) || ((beforesFrom ops acc).getD d 0).testBit i
  | [], acc, k, o, h, _, i => by simp at h
  | q :: r, acc, 0, o, h, he, i => by
    simp at h; subst h
    rw [beforesFrom]
    generalize hx : (edgesL q).foldl (fun s d => s ||| (2 ^ d) ||| acc.getD d 0) 0 = x
    have h1 := beforesFrom_getD r (acc ++ [x])
    rw [Nat.add_zero, h1 acc.length (by simp), getD_last, ← hx, testBit_fold]
    simp only [Nat.zero_testBit, Bool.false_or]
    rw [Bool.eq_iff_iff]
    simp only [List.any_eq_true]
    constructor
    · rintro ⟨d, hd, h⟩
      have hlt := he d hd
      exact ⟨d, hd, by rw [hx, h1 d (by simp; omega), getD_left (by omega)]; exact h⟩
    · rintro ⟨d, hd, h⟩
      have hlt := he d hd
      exact ⟨d, hd, by rw [hx, h1 d (by simp; omega), getD_left (by omega)] at h; exact h⟩
  | q :: r, acc, k + 1, o, h, he, i => by
    rw [beforesFrom]
    have := beforesFrom_spec r (acc ++ [(edgesL q).foldl (fun s d => s ||| (2 ^ d) ||| acc.getD d 0) 0]) k o (by simpa using h) (fun d hd => by have := he d hd; simp; omega) i
    simp only [List.length_append, List.length_singleton] at this
    rw [show acc.length + (k + 1) = acc.length + 1 + k by omega]
    exact this

/-- What 'regionOK' says. -/
structure RegOK (ops : List Oper) : Prop where
  edges : ∀ i o d, ops[i]? = some o → d ∈ edgesL o → d < i
  mem : ∀ i, i ∈ norder ops ↔ i < ops.length
  nodup : (norder ops).Nodup
  hard : ∀ pre i post, norder ops = pre ++ i :: post → ∀ o, ops[i]? = some o → opKind o.op = 2 → ∀ j ∈ post, Bf ops i j
  topo : ∀ pre i post, norder ops = pre ++ i :: post → ∀ j, j = i ∨ j ∈ post → ¬ Bf ops j i
  self : ∀ (i : Nat) (o : Oper) (d : Tmp), ops[i]? = some o → o.dst = some d → d ∉ readsOf ops o
  dst : ∀ i j oi oj d, i ≠ j → ops[i]? = some oi → ops[j]? = some oj → oi.dst = some d → oj.dst ≠ some d ∧ (d ∈ readsOf ops oj → Bf ops i j ∨ (asgB oi = true ∧ Bf ops j i))

theorem hardOK_spec {ops : List Oper} {bf : List Nat} : ∀ {l : List Nat}, hardOK ops bf l = true → ∀ pre i post, l = pre ++ i :: post → ∀ o, ops[i]? = some o → opKind o.op = 2 →
    ∀ j ∈ post, (bf.getD j 0).testBit i = true
  | [], _, pre, i, post, e, _, _, _, _, _ => by simp at e
  | a :: r, h, pre, i, post, e, o, ho, hk, j, hj => by
    simp only [hardOK, Bool.and_eq_true] at h
    cases pre with
    | nil =>
      simp at e; obtain ⟨rfl, rfl⟩ := e
      have h1 := h.1
      rw [ho] at h1
      simp only [hk, List.all_eq_true] at h1
      exact h1 j hj
    | cons p pre =>
      simp at e
      exact hardOK_spec h.2 pre i post e.2 o ho hk j hj

theorem topoOK_spec {ops : List Oper} {bf : List Nat} : ∀ {l : List Nat}, topoOK ops bf l = true → ∀ pre i post, l = pre ++ i :: post → ∀ j, j = i ∨ j ∈ post →
    (bf.getD i 0).testBit j = false
  | [], _, pre, i, post, e, _, _ => by simp at e
  | a :: r, h, pre, i, post, e, j, hj => by
    simp only [topoOK, Bool.and_eq_true, Bool.not_eq_true', List.all_eq_true] at h
    cases pre with
    | nil =>
      simp at e; obtain ⟨rfl, rfl⟩ := e
      rcases hj with rfl | hj
      · exact h.1.1
      · exact h.1.2 j hj
    | cons p pre =>
      simp at e
      exact topoOK_spec h.2 pre i post e.2 j hj

theorem nodupB_spec : ∀ {l : List Nat}, nodupB l = true → l.Nodup
  | [], _ => List.nodup_nil
  | i :: r, h => by
    simp only [nodupB, Bool.and_eq_true, Bool.not_eq_true'] at h
    refine List.nodup_cons.2 ⟨fun hm => ?_, nodupB_spec h.2⟩
    have := h.1
    simp [hm] at this

theorem isPerm_spec {n : Nat} {l : List Nat} (h : isPerm n l = true) : (∀ i, i ∈ l ↔ i < n) ∧ l.Nodup := by
  simp only [isPerm, Bool.and_eq_true, List.all_eq_true, List.mem_range, List.contains_iff_mem] at h
  obtain ⟨⟨h1, h2⟩, h3⟩ := h
  exact ⟨fun i => ⟨fun hi => by simpa [Nat.blt_eq] using h1 i hi, h3 i⟩, nodupB_spec h2⟩

theorem regOK_of {ops : List Oper} (h : regionOK ops = true) : RegOK ops := by
  simp only [regionOK, Bool.and_eq_true] at h
  obtain ⟨⟨⟨⟨h1, h2⟩, h3⟩, h4⟩, h5⟩ := h
  obtain ⟨p1, p2⟩ := isPerm_spec h2
  refine ⟨fun i o d hi hd => ?_, p1, p2, fun pre i post e o ho hk j hj => hardOK_spec h3 pre i post e o ho hk j hj, fun pre i post e j hj hb => ?_, fun i o d hi hd => ?_, fun i j oi oj d hne hi hj hd => ?_⟩
  · simp only [edgesOK, List.all_eq_true] at h1
    have := h1 (o, i) (List.mem_zipIdx_iff_getElem?.2 hi) d hd
    simpa [Nat.blt_eq] using this
  · have := topoOK_spec h4 pre i post e j hj
    unfold Bf at hb; rw [this] at hb; cases hb
  · simp only [dstOK, List.all_eq_true] at h5
    have := h5 (o, i) (List.mem_zipIdx_iff_getElem?.2 hi)
    simp only [hd, List.all_eq_true] at this
    have := this (o, i) (List.mem_zipIdx_iff_getElem?.2 hi)
    simp only [Nat.beq_refl, Bool.true_and, Bool.not_true, Bool.false_and, Bool.or_false, Bool.not_eq_true'] at this
    intro hm
    rw [← List.contains_iff_mem, this] at hm
    cases hm
  · simp only [dstOK, List.all_eq_true] at h5
    have := h5 (oi, i) (List.mem_zipIdx_iff_getElem?.2 hi)
    simp only [hd, List.all_eq_true] at this
    have := this (oj, j) (List.mem_zipIdx_iff_getElem?.2 hj)
    have hij : Nat.beq i j = false := by
      cases hb : Nat.beq i j with
      | false => rfl
      | true => exact absurd (Nat.eq_of_beq_eq_true hb) hne
    simp only [hij, Bool.false_and, Bool.false_or, Bool.not_false, Bool.true_and, Bool.or_eq_true, Bool.and_eq_true, Bool.not_eq_true'] at this
    obtain ⟨ha, hb⟩ := this
    refine ⟨fun e => ?_, fun hr => ?_⟩
    · rw [e] at ha; simp at ha
    · rcases hb with hb | hb
      · rw [← Bool.not_eq_true, List.contains_iff_mem] at hb; exact absurd hr hb
      · rcases hb with hb | hb
        · exact .inl hb
        · exact .inr hb

theorem Bf_step {ops : List Oper} (h : RegOK ops) {i j : Nat} {o : Oper} (hj : ops[j]? = some o) : Bf ops i j ↔ ∃ d ∈ edgesL o, d = i ∨ Bf ops i d := by
  unfold Bf befores
  have := beforesFrom_spec ops [] j o hj (fun d hd => by have := h.edges j o d hj hd; simpa using this) i
  simp only [List.length_nil, Nat.zero_add] at this
  rw [this]
  simp

theorem beforesFrom_length : ∀ (l : List Oper) (acc : List Nat), (beforesFrom l acc).length = acc.length + l.length
  | [], acc => rfl
  | a :: l, acc => by rw [beforesFrom, beforesFrom_length l]; simp; omega

theorem Bf_none {ops : List Oper} {i j : Nat} (h : ops[j]? = none) : ¬ Bf ops i j := by
  intro hb
  have h1 : ops.length ≤ j := by simpa using h
  unfold Bf befores at hb
  have h2 : (beforesFrom ops []).getD j 0 = 0 := by
    simp [List.getD, List.getElem?_eq_none (show (beforesFrom ops []).length ≤ j by rw [beforesFrom_length]; simpa using h1)]
  rw [h2] at hb
  simp at hb

/-! ### the machine's order -/

def edgesAt (ops : List Oper) (i : Nat) : List Nat := ((ops[i]?).map edgesL).getD []

/-- Each stands behind what it must stand behind. -/
def TopoL (ops : List Oper) : List Nat → Prop
  | [] => True
  | i :: r => (∀ d ∈ edgesAt ops i, d ∉ i :: r) ∧ TopoL ops r

/-- What is not in a list has nothing ahead of it in it. -/
def Closed (ops : List Oper) (L : List Nat) : Prop := ∀ e, e ∉ L → ∀ d ∈ edgesAt ops e, d ∉ L

theorem Closed.tail {ops : List Oper} {i : Nat} {r : List Nat} (h : Closed ops (i :: r)) (ht : TopoL ops (i :: r)) : Closed ops r := by
  intro e he d hd hm
  by_cases hei : e = i
  · subst hei
    exact ht.1 d hd (List.mem_cons_of_mem _ hm)
  · exact h e (by simp [hei, he]) d hd (List.mem_cons_of_mem _ hm)

theorem Closed.bf {ops : List Oper} (hr : RegOK ops) {L : List Nat} (h : Closed ops L) : ∀ (n e : Nat), e ≤ n → e ∉ L → ∀ i, Bf ops i e → i ∉ L := by
  intro n
  induction n with
  | zero =>
    intro e he hm i hb
    have he0 : e = 0 := by omega
    subst he0
    cases ho : ops[0]? with
    | none => exact absurd hb (Bf_none ho)
    | some o =>
      obtain ⟨d, hd, _⟩ := (Bf_step hr ho).1 hb
      have := hr.edges 0 o d ho hd
      omega
  | succ n ih =>
    intro e he hm i hb
    cases ho : ops[e]? with
    | none => exact absurd hb (Bf_none ho)
    | some o =>
      obtain ⟨d, hd, hdi⟩ := (Bf_step hr ho).1 hb
      have hlt := hr.edges e o d ho hd
      have hdm : d ∉ L := h e hm d (by simpa [edgesAt, ho] using hd)
      rcases hdi with rfl | hdi
      · exact hdm
      · exact ih d (by omega) hdm i hdi

theorem TopoL.head_bf {ops : List Oper} (hr : RegOK ops) {i : Nat} {r : List Nat} (ht : TopoL ops (i :: r)) (hc : Closed ops (i :: r)) {j : Nat} (hb : Bf ops j i) : j ∉ i :: r := by
  cases ho : ops[i]? with
  | none => exact absurd hb (Bf_none ho)
  | some o =>
    obtain ⟨d, hd, hdi⟩ := (Bf_step hr ho).1 hb
    have hdm : d ∉ i :: r := ht.1 d (by simpa [edgesAt, ho] using hd)
    rcases hdi with rfl | hdi
    · exact hdm
    · exact hc.bf hr d d (Nat.le_refl _) hdm j hdi

theorem mem_ready {ops : Array Oper} {listed : Array Bool} {i : Nat} :
    i ∈ Region.ready .any ops listed ↔ i < ops.size ∧ listed.getD i true = false ∧ ∀ d ∈ edgesAt ops.toList i, listed.getD d false = true := by
  unfold Region.ready
  simp only [List.mem_filter, List.mem_range, Bool.and_eq_true, Bool.not_eq_true']
  constructor
  · rintro ⟨h1, h2, h3⟩
    refine ⟨h1, h2, fun d hd => ?_⟩
    have ho : ops[i]? = some ops[i] := Array.getElem?_eq_getElem h1
    rw [ho] at h3
    simp only [Option.map_some, Option.getD_some, Array.all_eq_true'] at h3
    have ho' : ops.toList[i]? = some ops[i] := by simpa using ho
    simp only [edgesAt, ho', Option.map_some, Option.getD_some, edgesL, List.mem_map, List.mem_filter] at hd
    obtain ⟨e, ⟨he1, he2⟩, rfl⟩ := hd
    have := h3 e (by simpa using he1)
    simpa [he2] using this
  · rintro ⟨h1, h2, h3⟩
    refine ⟨h1, h2, ?_⟩
    have ho : ops[i]? = some ops[i] := Array.getElem?_eq_getElem h1
    have ho' : ops.toList[i]? = some ops[i] := by simpa using ho
    rw [ho]
    simp only [Option.map_some, Option.getD_some, Array.all_eq_true']
    intro e he
    cases hb : Region.binds .any e with
    | false => simp
    | true =>
      have := h3 e.on (by
        simp only [edgesAt, ho', Option.map_some, Option.getD_some, edgesL, List.mem_map, List.mem_filter]
        exact ⟨e, ⟨by simpa using he, hb⟩, rfl⟩)
      simp [this]

/-- What the machine's list of the rest is good for. -/
theorem linearise_spec {ops : Array Oper} (hr : RegOK ops.toList) : ∀ (fuel t : Nat) (listed : Array Bool), listed.size = ops.size →
    (∀ i, i < ops.size → listed.getD i true = true → ∀ d ∈ edgesAt ops.toList i, listed.getD d false = true) →
    ((List.range ops.size).filter fun i => !listed.getD i true).length ≤ fuel →
    ∀ L, Region.linearise.go .any ops fuel t listed [] = L → L.Nodup ∧ (∀ i, i ∈ L ↔ i < ops.size ∧ listed.getD i true = false) ∧ TopoL ops.toList L := by
  intro fuel
  induction fuel with
  | zero =>
    intro t listed hs _ hl L hL
    simp only [Region.linearise.go, List.reverse_nil] at hL
    subst hL
    refine ⟨List.nodup_nil, fun i => ⟨fun h => (by cases h), fun h => ?_⟩, trivial⟩
    exfalso
    have : i ∈ (List.range ops.size).filter fun i => !listed.getD i true := List.mem_filter.2 ⟨List.mem_range.2 h.1, by rw [h.2]; rfl⟩
    rw [List.length_eq_zero_iff.1 (Nat.le_zero.1 hl)] at this
    cases this
  | succ fuel ih =>
    intro t listed hs hcl hl L hL
    simp only [Region.linearise.go] at hL
    change (match (Region.ready .any ops listed)[t % (Region.ready .any ops listed).length]? with
      | some i => Region.linearise.go .any ops fuel (t / (Region.ready .any ops listed).length) (listed.setIfInBounds i true) [i]
      | none => [].reverse) = L at hL
    cases hi : (Region.ready .any ops listed)[t % (Region.ready .any ops listed).length]? with
    | none =>
      rw [hi] at hL
      simp only [List.reverse_nil] at hL
      subst hL
      have hnil : Region.ready .any ops listed = [] := by
        cases hrr : Region.ready .any ops listed with
        | nil => rfl
        | cons x xs =>
          rw [hrr] at hi
          have hlt : t % (x :: xs).length < (x :: xs).length := Nat.mod_lt _ (by simp)
          rw [List.getElem?_eq_none_iff] at hi
          omega
      refine ⟨List.nodup_nil, fun i => ⟨fun h => (by cases h), fun h => ?_⟩, trivial⟩
      exfalso
      -- the least one that is not listed is ready
      have least : ∀ n i, i ≤ n → i < ops.size → listed.getD i true = false → False := by
        intro n
        induction n with
        | zero =>
          intro i hin hi2 hi3
          have : i ∈ Region.ready .any ops listed := mem_ready.2 ⟨hi2, hi3, fun d hd => by
            cases ho : ops.toList[i]? with
            | none => simp [edgesAt, ho] at hd
            | some o => have := hr.edges i o d ho (by simpa [edgesAt, ho] using hd); omega⟩
          rw [hnil] at this; cases this
        | succ n ihn =>
          intro i hin hi2 hi3
          have : i ∈ Region.ready .any ops listed := mem_ready.2 ⟨hi2, hi3, fun d hd => by
            cases ho : ops.toList[i]? with
            | none => simp [edgesAt, ho] at hd
            | some o =>
              have hlt := hr.edges i o d ho (by simpa [edgesAt, ho] using hd)
              cases hb : listed.getD d true with
              | false => exact (ihn d (by omega) (by omega) hb).elim
              | true =>
                have hd2 : d < listed.size := by omega
                simpa [Array.getD, hd2] using hb⟩
          rw [hnil] at this; cases this
      exact least i i (Nat.le_refl _) h.1 h.2
    | some i =>
      rw [hi] at hL
      simp only at hL
      rw [linearise_go_acc, List.reverse_singleton, List.singleton_append] at hL
      have hir := mem_ready.1 (List.mem_of_getElem? hi)
      obtain ⟨h1, h2, h3⟩ := hir
      have hset : ∀ j, j ≠ i → ∀ b, (listed.setIfInBounds i true).getD j b = listed.getD j b := by
        intro j hj b
        simp [Array.getD_eq_getD_getElem?, Array.getElem?_setIfInBounds_ne (Ne.symm hj)]
      have hseti : ∀ b, (listed.setIfInBounds i true).getD i b = true := by
        intro b
        simp [Array.getD_eq_getD_getElem?, hs, h1]
      obtain ⟨r1, r2, r3⟩ := ih (t / (Region.ready .any ops listed).length) (listed.setIfInBounds i true) (by simpa using hs)
        (fun j hj hb d hd => by
          by_cases hd2 : d = i
          · subst hd2; exact hseti _
          · rw [hset d hd2]
            by_cases hji : j = i
            · subst hji; exact h3 d hd
            · rw [hset j hji] at hb; exact hcl j hj hb d hd)
        (by
          have hlt : ((List.range ops.size).filter fun j => !(listed.setIfInBounds i true).getD j true).length < ((List.range ops.size).filter fun j => !listed.getD j true).length := by
            have hsub : ((List.range ops.size).filter fun j => !(listed.setIfInBounds i true).getD j true) = ((List.range ops.size).filter fun j => !listed.getD j true).filter (fun j => j ≠ i) := by
              rw [List.filter_filter]
              apply List.filter_congr
              intro j _
              by_cases hji : j = i
              · subst hji; simp [hseti]
              · simp [hset j hji, hji]
            rw [hsub]
            exact List.length_filter_lt_length_iff_exists.2 ⟨i, List.mem_filter.2 ⟨List.mem_range.2 h1, by rw [h2]; rfl⟩, by simp⟩
          omega) _ rfl
      subst hL
      refine ⟨List.nodup_cons.2 ⟨fun hm => ?_, r1⟩, fun j => ?_, fun d hd hm => ?_, r3⟩
      · have := ((r2 i).1 hm).2
        rw [hseti] at this; cases this
      · simp only [List.mem_cons, r2]
        by_cases hji : j = i
        · subst hji; simp [h1, h2]
        · simp [hji, hset j hji]
      · have hld := h3 d hd
        have hds : d < ops.size := by
          cases ho : ops.toList[i]? with
          | none => simp [edgesAt, ho] at hd
          | some o => have := hr.edges i o d ho (by simpa [edgesAt, ho] using hd); omega
        rcases List.mem_cons.1 hm with rfl | hm
        · have : listed.getD d true = true := by
            have hd2 : d < listed.size := by omega
            simpa [Array.getD, hd2] using hld
          rw [h2] at this; cases this
        · obtain ⟨_, hq⟩ := (r2 d).1 hm
          by_cases hdi : d = i
          · subst hdi; rw [hseti] at hq; cases hq
          · rw [hset d hdi] at hq
            have hd2 : d < listed.size := by omega
            have : listed.getD d true = true := by simpa [Array.getD, hd2] using hld
            rw [hq] at this; cases this

theorem schedule_spec {ops : Array Oper} (hr : RegOK ops.toList) (t : Nat) :
    (Region.schedule true ops t).Nodup ∧ (∀ i, i ∈ Region.schedule true ops t ↔ i < ops.size) ∧ TopoL ops.toList (Region.schedule true ops t) ∧ Closed ops.toList (Region.schedule true ops t) := by
  have e : Region.schedule true ops t = Region.linearise.go .any ops ops.size t (Array.replicate ops.size false) [] := by
    simp [Region.schedule, Region.linearise]
  obtain ⟨h1, h2, h3⟩ := linearise_spec hr ops.size t (Array.replicate ops.size false) (by simp)
    (fun i hi hb => by simp [Array.getD, hi] at hb)
    (Nat.le_trans (List.length_filter_le _ _) (by simp)) _ e.symm
  have hm : ∀ i, i ∈ Region.schedule true ops t ↔ i < ops.size := fun i => by
    rw [h2]
    exact ⟨fun h => h.1, fun h => ⟨h, by simp [Array.getD, h]⟩⟩
  refine ⟨h1, hm, h3, fun x he d hd hdm => ?_⟩
  cases ho : ops.toList[x]? with
  | none => simp [edgesAt, ho] at hd
  | some o =>
    have : x < ops.toList.length := (List.getElem?_eq_some_iff.1 ho).1
    exact he ((hm x).2 (by simpa using this))

end Go.Rl
