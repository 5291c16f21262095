/-
  What may be forgotten: slots, cells and blocks that are not looked at any more; names may be others.
-/
import Derived.Test.YtghmpcnchjjikaaGreatRlSr2
set_option linter.all false
set_option linter.unusedVariables false
set_option linter.unusedSimpArgs false
set_option linter.unnecessarySimpa false
namespace Go.Rl
open Go

mutual
def SV.ren (σ : Nat → Option Nat) : SV → Option SV
  | .v x => some (.v x)
  | .b x => some (.b x)
  | .i k n => some (.i k n)
  | .s x => some (.s x)
  | .p n off => match σ n with | some m => some (.p m off) | none => none
  | .np => some .np
  | .ni => some .ni
  | .nf => some .nf
  | .nsl => some .nsl
  | .sl n off len cap => match σ n with | some m => some (.sl m off len cap) | none => none
  | .so n off len cap lo => match σ n with | some m => some (.so m off len cap lo) | none => none
  | .mp n => match σ n with | some m => some (.mp m) | none => none
  | .fn f cs => match SV.renL σ cs with | some l => some (.fn f l) | none => none
  | .fb f cs => match SV.renL σ cs with | some l => some (.fb f l) | none => none
  | .ifc t x => match SV.ren σ x with | some y => some (.ifc t y) | none => none
  | .ag cs => match SV.renL σ cs with | some l => some (.ag l) | none => none
  | .tp cs => match SV.renL σ cs with | some l => some (.tp l) | none => none
def SV.renL (σ : Nat → Option Nat) : List SV → Option (List SV)
  | [] => some []
  | x :: r => match SV.ren σ x with | some y => (match SV.renL σ r with | some l => some (y :: l) | none => none) | none => none
end

def SV.opq : SV → SV
  | .b x => .v (.bool x)
  | .i k n => .v (.int k n)
  | .s x => .v (.string x)
  | .np => .v (.pointer none)
  | .ni => .v .nilIface
  | .nf => .v .nilFunc
  | .nsl => .v (.slice none 0 0)
  | x => x

theorem opq_den (ρ : Rho) (x : SV) : x.opq.den ρ = x.den ρ := by cases x <;> rfl

def RenOK (σ : Nat → Option Nat) (ρ ρ' : Rho) : Prop := ∀ n m, σ n = some m → ρ' m = ρ n

mutual
theorem ren_den {σ : Nat → Option Nat} {ρ ρ' : Rho} (h : RenOK σ ρ ρ') : ∀ {x y : SV}, SV.ren σ x = some y → SV.den ρ' y = SV.den ρ x
  | .v x, y, hx | .b x, y, hx | .i _ _, y, hx | .s x, y, hx | .np, y, hx | .ni, y, hx | .nf, y, hx | .nsl, y, hx => by
    simp only [SV.ren, Option.some.injEq] at hx; subst hx; rfl
  | .p n off, y, hx | .sl n off _ _, y, hx | .so n off _ _ _, y, hx | .mp n, y, hx => by
    simp only [SV.ren] at hx
    cases hn : σ n with
    | none => simp [hn] at hx
    | some b =>
      simp only [hn, Option.some.injEq] at hx
      subst hx
      simp [SV.den, h n b hn]
  | .fn f cs, y, hx | .fb f cs, y, hx | .ag cs, y, hx | .tp cs, y, hx => by
    simp only [SV.ren] at hx
    cases hc : SV.renL σ cs with
    | none => simp [hc] at hx
    | some l =>
      simp only [hc, Option.some.injEq] at hx
      subst hx
      simp [SV.den, renL_den h hc]
  | .ifc t z, y, hx => by
    simp only [SV.ren] at hx
    cases hc : SV.ren σ z with
    | none => simp [hc] at hx
    | some l =>
      simp only [hc, Option.some.injEq] at hx
      subst hx
      simp [SV.den, ren_den h hc]
theorem renL_den {σ : Nat → Option Nat} {ρ ρ' : Rho} (h : RenOK σ ρ ρ') : ∀ {l m : List SV}, SV.renL σ l = some m → SV.denL ρ' m = SV.denL ρ l
  | [], m, hx => by simp only [SV.renL, Option.some.injEq] at hx; subst hx; rfl
  | x :: r, m, hx => by
    simp only [SV.renL] at hx
    cases h1 : SV.ren σ x with
    | none => simp [h1] at hx
    | some y =>
      cases h2 : SV.renL σ r with
      | none => simp [h1, h2] at hx
      | some l =>
        simp only [h1, h2, Option.some.injEq] at hx
        subst hx
        simp [SV.denL, ren_den h h1, renL_den h h2]
end

/-- What stands in an interface value. -/
def innerV : Value → Value
  | .iface _ y => y
  | x => x

/-- 0: it stays; 1: what it is stays, as something not looked at; 2: it is forgotten. -/
def SV.cls (σ : Nat → Option Nat) (j : Value) (c : Nat) (x : SV) : Option SV :=
  match c with
  | 0 => SV.ren σ x
  | 1 => SV.ren σ x.opq
  | 3 => (match x with | .ni => some .ni | .ifc t _ => some (.ifc t (.v (innerV j))) | _ => none)
  | _ => some (.v j)

theorem cls_den {σ : Nat → Option Nat} {ρ ρ' : Rho} (h : RenOK σ ρ ρ') {j v : Value} {c : Nat} {x y : SV} (hc : SV.cls σ j c x = some y) (hd : x.den ρ = some v) (hj : j = v) : y.den ρ' = some v := by
  unfold SV.cls at hc
  split at hc
  · rw [ren_den h hc, hd]
  · rw [ren_den h hc, opq_den, hd]
  · split at hc
    · simp only [Option.some.injEq] at hc; subst hc; exact hd
    · simp only [Option.some.injEq] at hc
      subst hc
      simp only [SV.den, Option.map_eq_some_iff] at hd
      obtain ⟨z, _, rfl⟩ := hd
      subst hj
      rfl
    · cases hc
  · simp only [Option.some.injEq] at hc; subst hc; rw [hj]; rfl

def rowR (σ : Nat → Option Nat) (jc : Nat → Value) (d : Nat) : List Nat → Nat → List SV → Option (List SV)
  | _, _, [] => some []
  | [], i, x :: r => match SV.cls σ (jc i) d x with | some y => (match rowR σ jc d [] (i + 1) r with | some l => some (y :: l) | none => none) | none => none
  | c :: cs, i, x :: r => match SV.cls σ (jc i) c x with | some y => (match rowR σ jc d cs (i + 1) r with | some l => some (y :: l) | none => none) | none => none

theorem rowR_den {σ : Nat → Option Nat} {ρ ρ' : Rho} (h : RenOK σ ρ ρ') {jc : Nat → Value} {d : Nat} : ∀ {cs : List Nat} {i : Nat} {l m : List SV} {vs : List Value},
    rowR σ jc d cs i l = some m → SV.denL ρ l = some vs → (∀ k v, vs[k]? = some v → jc (i + k) = v) → SV.denL ρ' m = some vs
  | _, _, [], m, vs, hr, hd, _ => by
    simp only [rowR, Option.some.injEq] at hr
    subst hr
    simpa [SV.denL] using hd
  | [], i, x :: r, m, vs, hr, hd, hj => by
    simp only [rowR] at hr
    cases h1 : SV.cls σ (jc i) d x with
    | none => simp [h1] at hr
    | some y =>
      cases h2 : rowR σ jc d [] (i + 1) r with
      | none => simp [h1, h2] at hr
      | some l =>
        simp only [h1, h2, Option.some.injEq] at hr
        subst hr
        obtain ⟨v, us, rfl, hv, hu⟩ := denL_cons hd
        exact denL_mk (cls_den h h1 hv (hj 0 v (by simp))) (rowR_den h h2 hu fun k u hk => by have := hj (k + 1) u (by simpa using hk); rw [← this]; congr 1; omega)
  | c :: cs, i, x :: r, m, vs, hr, hd, hj => by
    simp only [rowR] at hr
    cases h1 : SV.cls σ (jc i) c x with
    | none => simp [h1] at hr
    | some y =>
      cases h2 : rowR σ jc d cs (i + 1) r with
      | none => simp [h1, h2] at hr
      | some l =>
        simp only [h1, h2, Option.some.injEq] at hr
        subst hr
        obtain ⟨v, us, rfl, hv, hu⟩ := denL_cons hd
        exact denL_mk (cls_den h h1 hv (hj 0 v (by simp))) (rowR_den h h2 hu fun k u hk => by have := hj (k + 1) u (by simpa using hk); rw [← this]; congr 1; omega)

theorem rowR_length {σ : Nat → Option Nat} {jc : Nat → Value} {d : Nat} : ∀ {cs : List Nat} {i : Nat} {l m : List SV}, rowR σ jc d cs i l = some m → m.length = l.length
  | _, _, [], m, hr => by simp only [rowR, Option.some.injEq] at hr; subst hr; rfl
  | [], i, x :: r, m, hr => by
    simp only [rowR] at hr
    split at hr
    · split at hr
      · rename_i h2
        simp only [Option.some.injEq] at hr; subst hr; simp [rowR_length h2]
      · cases hr
    · cases hr
  | c :: cs, i, x :: r, m, hr => by
    simp only [rowR] at hr
    split at hr
    · split at hr
      · rename_i h2
        simp only [Option.some.injEq] at hr; subst hr; simp [rowR_length h2]
      · cases hr
    · cases hr

def SO.ren (σ : Nat → Option Nat) (jc : Nat → Value) (cs : List Nat) : SO → Option SO
  | .dead => some .dead
  | .row true ks rest T => match rowR σ jc 0 cs 0 ks with | some l => some (.row true l rest T) | none => none
  | .row false .. => none
  | .obj o => some (.obj o)

def heapR (σ : Nat → Option Nat) (jc : Nat → Nat → Value) (H : List SO) : List (Nat × List Nat) → Option (List SO)
  | [] => some []
  | (n, cs) :: r => match H[n]? with
    | some o => (match SO.ren σ (jc n) cs o with | some o' => (match heapR σ jc H r with | some l => some (o' :: l) | none => none) | none => none)
    | none => none

theorem heapR_get {σ : Nat → Option Nat} {jc : Nat → Nat → Value} {H : List SO} : ∀ {keep : List (Nat × List Nat)} {H' : List SO}, heapR σ jc H keep = some H' →
    H'.length = keep.length ∧ ∀ (i : Nat) o', H'[i]? = some o' → ∃ n cs o, keep[i]? = some (n, cs) ∧ H[n]? = some o ∧ SO.ren σ (jc n) cs o = some o'
  | [], H', h => by simp only [heapR, Option.some.injEq] at h; subst h; exact ⟨rfl, fun i o' hi => by simp at hi⟩
  | (n, cs) :: r, H', h => by
    simp only [heapR] at h
    split at h
    case h_2 => cases h
    case h_1 o ho =>
      split at h
      case h_2 => cases h
      case h_1 o' ho' =>
        split at h
        case h_2 => cases h
        case h_1 l hl =>
          simp only [Option.some.injEq] at h
          subst h
          obtain ⟨h1, h2⟩ := heapR_get hl
          refine ⟨by simp [h1], fun i q hi => ?_⟩
          cases i with
          | zero => simp at hi; subst hi; exact ⟨n, cs, o, rfl, ho, ho'⟩
          | succ i => exact h2 i q (by simpa using hi)

def idxN (n : Nat) : List (Nat × List Nat) → Nat → Option Nat
  | [], _ => none
  | (m, _) :: r, i => match Nat.beq m n with | true => some i | false => idxN n r (i + 1)

theorem idxN_spec {n : Nat} : ∀ {l : List (Nat × List Nat)} {i k : Nat}, idxN n l i = some k → ∃ d, k = i + d ∧ ∃ cs, l[d]? = some (n, cs)
  | [], i, k, h => by cases h
  | (m, cs) :: r, i, k, h => by
    simp only [idxN] at h
    split at h
    · rename_i hb
      simp only [Option.some.injEq] at h
      subst h
      have := Nat.eq_of_beq_eq_true hb
      subst this
      exact ⟨0, rfl, cs, rfl⟩
    · obtain ⟨d, rfl, cs', hd⟩ := idxN_spec h
      exact ⟨d + 1, by omega, cs', by simpa using hd⟩

/-- A state with one frame, of which 'keep' are the blocks that stay (and what stays of their cells), 'sc' what stays of the slots. -/
def canonS (keep : List (Nat × List Nat)) (sc : List Nat) (j : Nat → Value) (jc : Nat → Nat → Value) (S : SS) : Option SS :=
  match S.frames with
  | [fr] =>
    (match fr.cur with
    | some _ => none
    | none =>
      match nodupB (keep.map fun p => p.1) with
      | false => none
      | true =>
        match rowR (fun n => idxN n keep 0) j 2 sc 0 fr.tmps, heapR (fun n => idxN n keep 0) jc S.heap keep with
        | some l, some H => some ⟨[{ fr with tmps := l, gd := [], cur := none }], H⟩
        | _, _ => none)
  | _ => none

theorem nodupB_nodup : ∀ {l : List Nat}, nodupB l = true → l.Nodup
  | [], _ => .nil
  | i :: r, h => by
    simp only [nodupB, Bool.and_eq_true, Bool.not_eq_true'] at h
    refine List.nodup_cons.2 ⟨fun hm => ?_, nodupB_nodup h.2⟩
    have h1 := h.1
    rw [List.contains_eq_mem] at h1
    exact of_decide_eq_false h1 hm

theorem nodup_idx {α : Type} : ∀ {l : List α} (_ : l.Nodup) {a b : Nat} {x : α}, l[a]? = some x → l[b]? = some x → a = b
  | [], _, a, b, x, ha, _ => by simp at ha
  | y :: r, h, a, b, x, ha, hb => by
    have hd := List.nodup_cons.1 h
    cases a with
    | zero =>
      cases b with
      | zero => rfl
      | succ b =>
        simp only [List.getElem?_cons_zero, Option.some.injEq] at ha
        subst ha
        exact absurd (List.mem_of_getElem? (by simpa using hb)) hd.1
    | succ a =>
      cases b with
      | zero =>
        simp only [List.getElem?_cons_zero, Option.some.injEq] at hb
        subst hb
        exact absurd (List.mem_of_getElem? (by simpa using ha)) hd.1
      | succ b => exact congrArg Nat.succ (nodup_idx hd.2 (a := a) (b := b) (x := x) (by simpa using ha) (by simpa using hb))

theorem denL_of_all {ρ : Rho} {tm : Array Value} : ∀ {l : List SV} {i : Nat}, i + l.length = tm.size → (∀ k, (l.getD k (.tp [])).den ρ = some (tm.getD (i + k) undef)) →
    ∃ vs, SV.denL ρ l = some vs ∧ ∀ k v, vs[k]? = some v → tm.getD (i + k) undef = v
  | [], i, _, _ => ⟨[], rfl, fun k v hk => by simp at hk⟩
  | x :: r, i, hs, h => by
    obtain ⟨vs, h1, h2⟩ := denL_of_all (ρ := ρ) (tm := tm) (l := r) (i := i + 1) (by simp at hs; omega) fun k => by
      have := h (k + 1)
      simp only [List.getD_cons_succ] at this
      rw [this]; congr 2; omega
    refine ⟨tm.getD i undef :: vs, denL_mk (by simpa using h 0) h1, fun k v hk => ?_⟩
    cases k with
    | zero => simpa using hk
    | succ k => rw [← h2 k v (by simpa using hk)]; congr 1; omega

theorem getD_of_denL {ρ : Rho} {l : List SV} {vs : List Value} (h : SV.denL ρ l = some vs) (t : Nat) : (l.getD t (.tp [])).den ρ = some (vs.getD t undef) := by
  by_cases ht : t < l.length
  · obtain ⟨v, h1, h2⟩ := denL_get h (List.getElem?_eq_getElem ht)
    simp [List.getD, List.getElem?_eq_getElem ht, h1, h2]
  · have hl := denL_length h
    have h1 : l[t]? = none := List.getElem?_eq_none (Nat.le_of_not_lt ht)
    have h2 : vs[t]? = none := List.getElem?_eq_none (by omega)
    simp [List.getD, h1, h2, SV.den, SV.denL, undef]

theorem WPs.canon {C : Ctx} {I : Imm} {S : SS} (keep : List (Nat × List Nat)) (sc : List Nat) {S' : (Nat → Value) → (Nat → Nat → Value) → SS}
    (h : ∀ j jc, canonS keep sc j jc S = some (S' j jc)) (h0 : ∀ n b, C.ρ0 n = some b → ∃ cs, keep[n]? = some (n, cs)) (g : ∀ j jc, WPs C I (S' j jc)) : WPs C I S := by
  intro ρ w fr inner hs
  have key : ∃ j jc ρ', St C I (S' j jc) ρ' w fr inner := by
    obtain ⟨frames, H⟩ := S
    have hc := h
    unfold canonS at hc
    match frames, hs, hc with
    | [], _, hc => simpa using hc (fun _ => default) (fun _ _ => default)
    | _ :: _ :: _, _, hc => simpa using hc (fun _ => default) (fun _ _ => default)
    | [sf], hs, hc =>
      simp only at hc
      cases hcur : sf.cur with
      | some ar => rw [hcur] at hc; simpa using hc (fun _ => default) (fun _ _ => default)
      | none =>
        rw [hcur] at hc
        simp only at hc
        cases hnd : nodupB (keep.map fun p => p.1) with
        | false => rw [hnd] at hc; simpa using hc (fun _ => default) (fun _ _ => default)
        | true =>
          rw [hnd] at hc
          simp only at hc
          have hnodup := nodupB_nodup hnd
          obtain ⟨tm, rfl, hT, hg⟩ := hs.plain hcur
          obtain ⟨tvs, htv, htj⟩ := denL_of_all (ρ := ρ) (tm := tm) (l := sf.tmps) (i := 0) (by rw [hT.size]; omega) fun k => by rw [Nat.zero_add]; exact hT.den k (fun h => h)
          let jc : Nat → Nat → Value := fun n i => match ρ n with
            | some b => (match w.heap[b]? with | some (.cells c _ _) => c.getD i default | _ => default)
            | none => default
          let j : Nat → Value := fun t => tm.getD t undef
          let ρ' : Rho := fun i => (keep[i]?).bind fun p => ρ p.1
          have hren : RenOK (fun n => idxN n keep 0) ρ ρ' := by
            intro n m hn
            obtain ⟨d, hd, cs, hk⟩ := idxN_spec hn
            have : d = m := by omega
            subst this
            simp [ρ', hk]
          have huniq : ∀ (a b : Nat) n cs cs', keep[a]? = some (n, cs) → keep[b]? = some (n, cs') → a = b := by
            intro a b n cs cs' ha hb
            have ha' : (keep.map fun p => p.1)[a]? = some n := by simp [ha]
            have hb' : (keep.map fun p => p.1)[b]? = some n := by simp [hb]
            exact nodup_idx hnodup ha' hb'
          have hcc := hc j jc
          cases hrow : rowR (fun n => idxN n keep 0) j 2 sc 0 sf.tmps with
          | none => rw [hrow] at hcc; simp at hcc
          | some l =>
            cases hhp : heapR (fun n => idxN n keep 0) jc H keep with
            | none => rw [hrow, hhp] at hcc; simp at hcc
            | some H' =>
              rw [hrow, hhp] at hcc
              simp only [Option.some.injEq] at hcc
              have hdl : SV.denL ρ' l = some tvs := rowR_den hren hrow htv fun k v hk => by simpa [j] using htj k v hk
              obtain ⟨hlen, hget⟩ := heapR_get hhp
              refine ⟨j, jc, ρ', ?_⟩
              rw [← hcc]
              have hTm : TmRel ρ' (fun _ => False) l tm := by
                have e1 := denL_length htv
                have e2 := rowR_length hrow
                refine ⟨by rw [hT.size, e2], fun (t : Nat) _ => ?_⟩
                rw [getD_of_denL hdl t]
                by_cases ht : t < tvs.length
                · have := htj t tvs[t] (List.getElem?_eq_getElem ht)
                  rw [Nat.zero_add] at this
                  simp [List.getD, ht, this]
                · have hn : tvs[t]? = none := List.getElem?_eq_none (Nat.le_of_not_lt ht)
                  have hts : ¬ t < tm.size := by rw [hT.size]; omega
                  simp [List.getD, hn, Array.getD, hts]
              refine ⟨?_, ?_, ?_, ?_, { sf with tmps := l, gd := [], cur := none }, [], rfl, FrRel.mk_plain rfl hTm (by intro t d hh; cases hh), ?_, ?_⟩
              · -- memory
                have hal : ∀ (i : Nat) o', H'[i]? = some o' → o' ≠ .dead → ∃ n cs, keep[i]? = some (n, cs) ∧ alive H n := by
                  intro i o' hi hne
                  obtain ⟨n, cs, o, h1, h2, h3⟩ := hget i o' hi
                  refine ⟨n, cs, h1, o, h2, fun e => ?_⟩
                  subst e
                  simp only [SO.ren, Option.some.injEq] at h3
                  exact hne h3.symm
                refine ⟨fun i live ks rest T hi => ?_, fun i o hi => ?_, fun a b c ha hb hρa hρb => ?_, fun i b hi => ?_⟩
                · obtain ⟨n, cs, o, h1, h2, h3⟩ := hget i _ hi
                  cases o with
                  | dead => simp [SO.ren] at h3
                  | obj q => simp [SO.ren] at h3
                  | row lv ks0 rest0 T0 =>
                    cases lv with
                    | false => simp [SO.ren] at h3
                    | true =>
                      simp only [SO.ren] at h3
                      split at h3
                      case h_2 => cases h3
                      case h_1 l' hl' =>
                        simp only [Option.some.injEq, SO.row.injEq] at h3
                        obtain ⟨rfl, rfl, rfl, rfl⟩ := h3
                        obtain ⟨q1, q2⟩ := hs.holds.row n _ _ _ _ h2
                        obtain ⟨b, hb⟩ := q1 rfl
                        have hρ' : ρ' i = some b := by simp [ρ', h1, hb]
                        refine ⟨fun _ => ⟨b, hρ'⟩, fun b' hb' => ?_⟩
                        rw [hρ'] at hb'
                        cases hb'
                        obtain ⟨vs, hv, hcell⟩ := q2 b hb
                        refine ⟨vs, rowR_den hren hl' hv fun k v hk => ?_, hcell⟩
                        simp only [jc, hb, hcell, Nat.zero_add]
                        have hk' := (List.getElem?_eq_some_iff.1 hk).1
                        have : (vs ++ rest0)[k]? = some v := by rw [List.getElem?_append_left hk']; exact hk
                        simp [Array.getD_eq_getD_getElem?, this]
                · obtain ⟨n, cs, o', h1, h2, h3⟩ := hget i _ hi
                  cases o' with
                  | dead => simp [SO.ren] at h3
                  | row lv ks0 rest0 T0 =>
                    cases lv with
                    | false => simp [SO.ren] at h3
                    | true =>
                      simp only [SO.ren] at h3
                      split at h3 <;> simp at h3
                  | obj q =>
                    simp only [SO.ren, Option.some.injEq, SO.obj.injEq] at h3
                    subst h3
                    obtain ⟨b, hb, hcell⟩ := hs.holds.obj n q h2
                    exact ⟨b, by simp [ρ', h1, hb], hcell⟩
                · obtain ⟨oa, hoa, hna⟩ := ha
                  obtain ⟨ob, hob, hnb⟩ := hb
                  obtain ⟨n, cs, h1, h2⟩ := hal a oa hoa hna
                  obtain ⟨m, cs', h3, h4⟩ := hal b ob hob hnb
                  have e1 : ρ n = some c := by simpa [ρ', h1] using hρa
                  have e2 : ρ m = some c := by simpa [ρ', h3] using hρb
                  have := hs.holds.inj n m c h2 h4 e1 e2
                  subst this
                  exact huniq a b n cs cs' h1 h3
                · simp only [ρ', Option.bind_eq_some_iff] at hi
                  obtain ⟨p, hp, hρ⟩ := hi
                  exact ⟨by rw [hlen]; exact (List.getElem?_eq_some_iff.1 hp).1, (hs.holds.lt p.1 b hρ).2⟩
              · -- moves
                have hm := hs.moves
                refine ⟨hm.os, hm.tape, hm.output, hm.size, hm.old, fun n b hb => ?_, fun n b hb => ?_⟩
                · obtain ⟨cs, hk⟩ := h0 n b hb
                  simp only [ρ', hk, Option.bind_some]
                  exact hm.le n b hb
                · simp only [ρ', Option.bind_eq_some_iff] at hb
                  obtain ⟨p, hp, hρ⟩ := hb
                  rcases hm.new p.1 b hρ with h1 | h1
                  · exact .inl h1
                  · exact .inr h1
              · -- what never turns
                intro b o hb
                obtain ⟨h1, h2⟩ := hs.imm b o hb
                refine ⟨h1, fun n hn => ?_⟩
                simp only [ρ', Option.bind_eq_some_iff] at hn
                obtain ⟨p, hp, hρ⟩ := hn
                exact h2 p.1 hρ
              · simp [resN_plain]
              · have := hs.top.2.1
                exact match this with | .nil => .nil
              · have := hs.top.2.2
                simpa [lastF] using this
  obtain ⟨j, jc, ρ', hst⟩ := key
  exact g j jc ρ' w fr inner hst

end Go.Rl
