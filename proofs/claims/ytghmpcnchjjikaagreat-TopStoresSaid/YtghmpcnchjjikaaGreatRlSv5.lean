/-
  What the symbolic operations say is what the operations do (4): 'sop_sound'.
-/
import Derived.Test.YtghmpcnchjjikaaGreatRlSv4
set_option linter.all false
set_option linter.unusedVariables false
set_option linter.unusedSimpArgs false
set_option linter.unnecessarySimpa false
namespace Go.Rl
open Go

section
variable {P : Program} {ρ : Rho} {H : List SO} {w : World} {r : Operand → Value} {tm : List SV}

theorem sarith_run {op : BinOp} {k : IntKind} {a b n : Int} (h : sarith op k a b = some n) (w : World) : (binOp op 0 (.int k a) (.int k b)).run P w = .ok (.int k n) w := by
  cases op <;> simp only [sarith, Option.some.injEq, reduceCtorEq] at h <;> subst h <;> simp [binOp, Op.intArith]

theorem scmp_run {op : BinOp} {k : IntKind} {a b : Int} {c : Bool} (h : scmp op a b = some c) (w : World) : (binOp op 0 (.int k a) (.int k b)).run P w = .ok (.bool c) w := by
  cases op <;> simp only [scmp, Option.some.injEq, reduceCtorEq] at h <;> subst h <;> simp [binOp, Op.intCmp]

theorem binOp_int_type (op : BinOp) (t u : TypeId) (k k' : IntKind) (a b : Int) : binOp op t (.int k a) (.int k' b) = binOp op u (.int k a) (.int k' b) := by
  cases op <;> rfl

theorem sints_run {lit : Bool} {op : BinOp} {k k' : IntKind} {a b : Int} {y : SV} (h : sints lit op k k' a b = some y) (t : TypeId) (w : World) :
    ∃ v, (binOp op t (.int k a) (.int k' b)).run P w = .ok v w ∧ y.den ρ = some v := by
  unfold sints at h
  split at h
  case isFalse => simp at h
  case isTrue hk =>
    subst hk
    rw [binOp_int_type op t 0]
    split at h
    · rename_i n hn
      simp only [Option.some.injEq] at h
      refine ⟨_, sarith_run hn w, ?_⟩
      subst h; cases lit <;> rfl
    · split at h
      · rename_i c hc
        simp only [Option.some.injEq] at h
        refine ⟨_, scmp_run hc w, ?_⟩
        subst h; cases lit <;> rfl
      · simp at h

theorem eqGuard_other {t : Nat} {x y : Operand} {a b : Value} (h1 : a ≠ .nilIface) (h2 : ∀ cs, a ≠ .agg cs) (op : BinOp) (w : World) :
    (eqGuard op t x y a b).run P w = .ok () w := by
  cases op <;> simp only [eqGuard, Bool.not_false, Bool.not_true, Bool.false_eq_true, if_true, if_false, Sem.run_pure]
  all_goals
    split
    · exact absurd rfl h1
    · exact absurd rfl (h2 _)
    · rfl

theorem toList_beq (a b : ByteArray) : (a.toList == b.toList) = decide (a.data.toList = b.data.toList) := by
  rw [Bool.eq_iff_iff, ByteArray.toList_eq, ByteArray.toList_eq]
  simp

theorem binOp_nil {u : Value} (v : Value) (t : TypeId) (hu : u = .pointer none ∨ u = .nilIface ∨ u = .nilFunc ∨ u = .slice none 0 0) :
    (binOp .eql t v u = do pure (.bool (← Op.equal t v u))) ∧ (binOp .neq t v u = do pure (.bool (!(← Op.equal t v u)))) ∧
    (binOp .eql t u v = do pure (.bool (← Op.equal t u v))) ∧ (binOp .neq t u v = do pure (.bool (!(← Op.equal t u v)))) := by
  rcases hu with rfl | rfl | rfl | rfl <;> cases v <;> exact ⟨rfl, rfl, rfl, rfl⟩

theorem isNilS_val {n : SV} {u : Value} (hn : isNilS n = true) (hnd : n.den ρ = some u) : u = .pointer none ∨ u = .nilIface ∨ u = .nilFunc ∨ u = .slice none 0 0 := by
  cases n <;> simp only [isNilS, Bool.false_eq_true] at hn <;> simp only [SV.den, Option.some.injEq] at hnd <;> subst hnd <;> simp

theorem seql_nil {t : Nat} {cx cy : Bool} {a b : SV} {c : Bool} (h : seql P t cx cy a b = some c) : isNilS a = true ∨ isNilS b = true := by
  unfold seql at h
  split at h
  case h_2 => simp at h
  case h_1 d hu =>
    split at h
    case isFalse => simp at h
    case isTrue hc =>
      split at h
      · exact .inr (by assumption)
      · split at h
        · exact .inl (by assumption)
        · simp at h

theorem seql_binOp {t : Nat} {x y : Operand} {a b : SV} {v u : Value} {c : Bool} (h : seql P t (isConst x) (isConst y) a b = some c)
    (ha : a.den ρ = some v) (hb : b.den ρ = some u) (w : World) :
    (do eqGuard .eql t x y v u; binOp .eql t v u : Sem Value).run P w = .ok (.bool c) w ∧ (do eqGuard .neq t x y v u; binOp .neq t v u : Sem Value).run P w = .ok (.bool (!c)) w := by
  obtain ⟨hg, he⟩ := seql_run h ha hb w
  have hbin : (binOp .eql t v u = do pure (.bool (← Op.equal t v u))) ∧ (binOp .neq t v u = do pure (.bool (!(← Op.equal t v u)))) := by
    rcases seql_nil h with hn | hn
    · have := binOp_nil u t (isNilS_val hn ha); exact ⟨this.2.2.1, this.2.2.2⟩
    · have := binOp_nil v t (isNilS_val hn hb); exact ⟨this.1, this.2.1⟩
  rw [hbin.1, hbin.2]
  simp [hg, he]

theorem sbools_run {lit : Bool} {op : BinOp} {t : Nat} {a b : Bool} {y : SV} (h : sbools P lit op t a b = some y) (w : World) :
    ∃ v, (binOp op t (.bool a) (.bool b)).run P w = .ok v w ∧ y.den ρ = some v := by
  unfold sbools at h
  split at h
  case h_2 => simp at h
  case h_1 hu =>
    have hk : ∀ k, (Op.equalIn (k + 1) t (.bool a) (.bool b)).run P w = .ok (a == b) w := fun k => by
      simp only [Op.equalIn, Sem.run_bind, run_und hu, Result.andThen_ok, Sem.run_pure]
    have he : (Op.equal t (.bool a) (.bool b)).run P w = .ok (a == b) w := hk 9999
    split at h
    · simp only [Option.some.injEq] at h
      refine ⟨.bool (a == b), ?_, by subst h; cases lit <;> rfl⟩
      show (do pure (.bool (← Op.equal t (.bool a) (.bool b))) : Sem Value).run P w = _
      simp [he]
    · simp only [Option.some.injEq] at h
      refine ⟨.bool (!(a == b)), ?_, by subst h; cases lit <;> rfl⟩
      show (do pure (.bool (!(← Op.equal t (.bool a) (.bool b)))) : Sem Value).run P w = _
      simp [he]
    · simp at h

theorem bytes_beq (a b : ByteArray) : (a == b) = decide (a.data.toList = b.data.toList) := by
  have h : a = b ↔ a.data.toList = b.data.toList := by
    constructor
    · rintro rfl; rfl
    · intro h
      cases a; cases b
      simp only at h
      congr 1
      exact Array.ext' h
  have h2 : (a == b) = (a.data == b.data) := rfl
  rw [h2, Bool.eq_iff_iff]
  simp

theorem seqOne_run {k : TypeDesc} {t : Nat} {x y : SV} {v u : Value} {l c : Bool} (h : seqOne k x y = some (l, c)) (ht : P.underlying t = some k) (hx : x.den ρ = some v) (hy : y.den ρ = some u) (d : Nat) (w : World) :
    (Op.equalIn (d + 1) t v u).run P w = .ok c w := by
  have ints : ∀ (q q' k' : IntKind) (m n : Int), k = .int k' → v = .int q m → u = .int q' n → q = q' → c = (m == n) → (Op.equalIn (d + 1) t v u).run P w = .ok c w := by
    rintro q _ k' m n rfl rfl rfl rfl rfl
    simp [Op.equalIn, run_und ht]
  have bools : ∀ (m n : Bool), k = .bool → v = .bool m → u = .bool n → c = (m == n) → (Op.equalIn (d + 1) t v u).run P w = .ok c w := by
    rintro m n rfl rfl rfl rfl
    simp [Op.equalIn, run_und ht]
  have strs : ∀ (m n : ByteArray), k = .string → v = .string m → u = .string n → c = decide (m.data.toList = n.data.toList) → (Op.equalIn (d + 1) t v u).run P w = .ok c w := by
    rintro m n rfl rfl rfl rfl
    simp [Op.equalIn, run_und ht, bytes_beq]
  unfold seqOne at h
  split at h
  iterate 4
    · split at h
      · rename_i hk
        simp only [Option.some.injEq, Prod.mk.injEq] at h
        simp only [SV.den, Option.some.injEq] at hx hy
        exact ints _ _ _ _ _ rfl hx.symm hy.symm hk h.2.symm
      · cases h
  iterate 4
    · simp only [Option.some.injEq, Prod.mk.injEq] at h
      simp only [SV.den, Option.some.injEq] at hx hy
      exact bools _ _ rfl hx.symm hy.symm h.2.symm
  iterate 4
    · simp only [Option.some.injEq, Prod.mk.injEq] at h
      simp only [SV.den, Option.some.injEq] at hx hy
      exact strs _ _ rfl hx.symm hy.symm h.2.symm
  · simp only [Option.some.injEq, Prod.mk.injEq] at h
    simp only [SV.den, Option.some.injEq] at hx hy
    subst hx hy
    simp [Op.equalIn, run_und ht, ← h.2]
  · simp only [Option.some.injEq, Prod.mk.injEq] at h
    simp only [SV.den, Option.some.injEq, Option.map_eq_some_iff] at hx hy
    obtain ⟨b, _, rfl⟩ := hy
    subst hx
    simp [Op.equalIn, run_und ht, ← h.2]
  · simp only [Option.some.injEq, Prod.mk.injEq] at h
    simp only [SV.den, Option.some.injEq, Option.map_eq_some_iff] at hx hy
    obtain ⟨b, _, rfl⟩ := hx
    subst hy
    simp [Op.equalIn, run_und ht, ← h.2]
  · cases h

theorem seqFields_run {one : TypeId → SV → SV → Option (Bool × Bool)} {d : Nat} {xs ys : List SV} {vs us : List Value} (hx : SV.denL ρ xs = some vs) (hy : SV.denL ρ ys = some us)
    (hone : ∀ t x y v u l c, one t x y = some (l, c) → x.den ρ = some v → y.den ρ = some u → ∀ w : World, (Op.equalIn d t v u).run P w = .ok c w) :
    ∀ (fs : List Field) {l c : Bool}, seqFields P one xs ys fs = some (l, c) → ∀ w : World, (Op.eqFields d vs.toArray us.toArray fs).run P w = .ok c w
  | [], l, c, h, w => by
    simp only [seqFields, Option.some.injEq, Prod.mk.injEq] at h
    simp [Op.eqFields, ← h.2]
  | f :: fs, l, c, h, w => by
    simp only [seqFields] at h
    split at h
    case isFalse => cases h
    case isTrue hn =>
      cases ha : spart P f.type xs f.offset with
      | none => simp [ha] at h
      | some a =>
        cases hb : spart P f.type ys f.offset with
        | none => simp [ha, hb] at h
        | some b =>
          simp only [ha, hb, Option.bind_some] at h
          split at h
          case h_2 => cases h
          case h_1 l1 r1 h1 =>
            split at h
            case h_2 => cases h
            case h_1 l2 r2 h2 =>
              simp only [Option.some.injEq, Prod.mk.injEq] at h
              obtain ⟨v, hv, hvd⟩ := spart_run ha hx w
              obtain ⟨u, hu, hud⟩ := spart_run hb hy w
              have hq := hone _ _ _ _ _ _ _ h1 hvd hud w
              have ih := seqFields_run hx hy hone fs h2 w
              simp only [Op.eqFields, hn, ne_eq, not_false_eq_true, if_true, Sem.run_bind, hv, hu, hq, Result.andThen_ok]
              rw [← h.2]
              cases r1
              · simp
              · simpa using ih

theorem seqIn_run : ∀ (n : Nat) {t : Nat} {x y : SV} {v u : Value} {l c : Bool}, seqIn P n t x y = some (l, c) → x.den ρ = some v → y.den ρ = some u → ∀ (d : Nat) (w : World),
    (Op.equalIn (d + n) t v u).run P w = .ok c w
  | 0, _, _, _, _, _, _, _, h, _, _, _, _ => by cases h
  | n + 1, t, x, y, v, u, l, c, h, hx, hy, d, w => by
    simp only [seqIn] at h
    split at h
    · rename_i fs hu
      split at h
      case h_2 => cases h
      case h_1 xs ys =>
        split at h
        case h_1 => cases h
        case h_2 hst =>
          obtain ⟨vs, hvs, rfl⟩ := den_ag hx
          obtain ⟨us, hus, rfl⟩ := den_ag hy
          have hf : P.fieldsOf t = fs := by simp [Program.fieldsOf, hu]
          have := run_equalIn_struct (P := P) w (d + n) t vs.toArray us.toArray (by rw [hf]; exact hu) hst
          rw [show d + (n + 1) = d + n + 1 from rfl, this, hf]
          exact seqFields_run hvs hus (fun t x y v u l c h hx hy w => seqIn_run n h hx hy d w) _ h w
    · rename_i k hne hu
      exact seqOne_run h hu hx hy (d + n) w
    · cases h

theorem sbinAg_run {op : BinOp} {t : Nat} {x y : Operand} {xs ys : List SV} {v u : Value} {z : SV} (h : sbinAg P op t xs ys = some z) (ha : (SV.ag xs).den ρ = some v) (hb : (SV.ag ys).den ρ = some u) (w : World) :
    ∃ q, (do eqGuard op t x y v u; binOp op t v u : Sem Value).run P w = .ok q w ∧ z.den ρ = some q := by
  obtain ⟨vs, hvs, rfl⟩ := den_ag ha
  obtain ⟨us, hus, rfl⟩ := den_ag hb
  have key : ∀ l r, seqAg P t xs ys = some (l, r) → (Op.equal t (.agg vs.toArray) (.agg us.toArray)).run P w = .ok r w ∧
      ∀ op, (eqGuard op t x y (.agg vs.toArray) (.agg us.toArray)).run P w = .ok () w := by
    intro l r hr
    unfold seqAg at hr
    split at hr
    case h_1 => cases hr
    case h_2 hg =>
      refine ⟨seqIn_run 6 hr ha hb 9994 w, fun op => ?_⟩
      cases op <;> simp [eqGuard, hg]
  unfold sbinAg at h
  split at h
  · rename_i r hr
    obtain ⟨h1, h2⟩ := key _ _ hr
    simp only [Option.some.injEq] at h; subst h
    exact ⟨.bool r, by simp [h2, binOp, h1], rfl⟩
  · rename_i r hr
    obtain ⟨h1, h2⟩ := key _ _ hr
    simp only [Option.some.injEq] at h; subst h
    exact ⟨.bool r, by simp [h2, binOp, h1], rfl⟩
  · rename_i r hr
    obtain ⟨h1, h2⟩ := key _ _ hr
    simp only [Option.some.injEq] at h; subst h
    exact ⟨.bool (!r), by simp [h2, binOp, h1], rfl⟩
  · rename_i r hr
    obtain ⟨h1, h2⟩ := key _ _ hr
    simp only [Option.some.injEq] at h; subst h
    exact ⟨.bool (!r), by simp [h2, binOp, h1], rfl⟩
  · cases h

theorem equalIn_ifc (d t a : Nat) (x y : Value) {ms : Array (String × TypeId)} {i : TypeInfo} (hu : P.underlying t = some (.interface ms)) (hi : P.info? a = some i) (hc : i.comparable = true) (w : World) :
    (Op.equalIn (d + 1) t (.iface a x) (.iface a y)).run P w = (Op.equalIn d a x y).run P w := by
  simp [Op.equalIn, run_und hu, typeInfo, hi, hc]

theorem sifcEq_run {t : Nat} {x y : SV} {v u : Value} {l c : Bool} (h : sifcEq P t x y = some (l, c)) (hx : x.den ρ = some v) (hy : y.den ρ = some u) (w : World) :
    (Op.equal t v u).run P w = .ok c w ∧ (∀ op X Y, (eqGuard op t X Y v u).run P w = .ok () w) ∧ (∀ op : BinOp, op = .eql ∨ op = .neq → binOp op t v u = (do let r ← Op.equal t v u; pure (.bool (if op = .eql then r else !r)))) := by
  have fin : ∀ (q : Value) (p : Value), v = q → u = p → (∀ d : Nat, (Op.equalIn (d + 2) t q p).run P w = .ok c w) → ((∃ a b, q = .iface a b) ∨ ∃ a b, p = .iface a b) → ((q = .nilIface ∨ ∃ a b, q = .iface a b) ∧ (p = .nilIface ∨ ∃ a b, p = .iface a b)) →
      (Op.equal t v u).run P w = .ok c w ∧ (∀ op X Y, (eqGuard op t X Y v u).run P w = .ok () w) ∧ (∀ op : BinOp, op = .eql ∨ op = .neq → binOp op t v u = (do let r ← Op.equal t v u; pure (.bool (if op = .eql then r else !r)))) := by
    rintro q p rfl rfl h1 h2 ⟨h3, h4⟩
    refine ⟨h1 9998, fun op X Y => ?_, fun op ho => ?_⟩
    · rcases h3 with rfl | ⟨a, b, rfl⟩ <;> rcases h4 with rfl | ⟨a', b', rfl⟩
      · rcases h2 with ⟨a, b, e⟩ | ⟨a, b, e⟩ <;> cases e
      all_goals cases op <;> simp [eqGuard]
    · rcases h3 with rfl | ⟨a, b, rfl⟩ <;> rcases h4 with rfl | ⟨a', b', rfl⟩ <;> rcases ho with rfl | rfl <;> rfl
  unfold sifcEq at h
  split at h
  · rename_i ms a b hu
    simp only [Option.some.injEq, Prod.mk.injEq] at h
    simp only [SV.den, Option.some.injEq, Option.map_eq_some_iff] at hx hy
    obtain ⟨z, _, rfl⟩ := hy
    subst hx
    exact fin _ _ rfl rfl (fun d => by simp [Op.equalIn, run_und hu, ← h.2]) (.inr ⟨_, _, rfl⟩) ⟨.inl rfl, .inr ⟨_, _, rfl⟩⟩
  · rename_i ms a b hu
    simp only [Option.some.injEq, Prod.mk.injEq] at h
    simp only [SV.den, Option.some.injEq, Option.map_eq_some_iff] at hx hy
    obtain ⟨z, _, rfl⟩ := hx
    subst hy
    exact fin _ _ rfl rfl (fun d => by simp [Op.equalIn, run_und hu, ← h.2]) (.inl ⟨_, _, rfl⟩) ⟨.inr ⟨_, _, rfl⟩, .inl rfl⟩
  · rename_i ms a x' b y' hu
    simp only [SV.den, Option.map_eq_some_iff] at hx hy
    obtain ⟨z, hz, rfl⟩ := hx
    obtain ⟨z', hz', rfl⟩ := hy
    split at h
    · rename_i hab
      have hne : a ≠ b := fun e => by subst e; simp at hab
      simp only [Option.some.injEq, Prod.mk.injEq] at h
      exact fin _ _ rfl rfl (fun d => by simp [Op.equalIn, run_und hu, hne, ← h.2]) (.inl ⟨_, _, rfl⟩) ⟨.inr ⟨_, _, rfl⟩, .inr ⟨_, _, rfl⟩⟩
    · rename_i hab
      have hab' := Nat.eq_of_beq_eq_true hab
      subst hab'
      cases hi : P.info? a with
      | none => rw [hi] at h; cases h
      | some i =>
        rw [hi] at h
        simp only [Option.bind_some] at h
        split at h
        case h_2 => cases h
        case h_1 hcmp =>
          cases hk : P.underlying a with
          | none => rw [hk] at h; cases h
          | some k =>
            rw [hk] at h
            simp only [Option.bind_some] at h
            refine fin _ _ rfl rfl (fun d => ?_) (.inl ⟨_, _, rfl⟩) ⟨.inr ⟨_, _, rfl⟩, .inr ⟨_, _, rfl⟩⟩
            rw [show d + 2 = d + 1 + 1 from rfl, equalIn_ifc (d + 1) t a z z' hu hi hcmp w]
            exact seqOne_run h hk hz hz' d w
  · cases h

theorem seqAny_binOp {t : Nat} {x y : Operand} {a b : SV} {v u : Value} {c : Bool × Bool} (h : seqAny P t (isConst x) (isConst y) a b = some c)
    (ha : a.den ρ = some v) (hb : b.den ρ = some u) (w : World) :
    (do eqGuard .eql t x y v u; binOp .eql t v u : Sem Value).run P w = .ok (.bool c.2) w ∧ (do eqGuard .neq t x y v u; binOp .neq t v u : Sem Value).run P w = .ok (.bool (!c.2)) w := by
  unfold seqAny at h
  split at h
  · rename_i r hr
    simp only [Option.some.injEq] at h
    subst h
    obtain ⟨h1, h2, h3⟩ := sifcEq_run (l := r.1) (c := r.2) hr ha hb w
    rw [h3 .eql (.inl rfl), h3 .neq (.inr rfl)]
    simp [h1, h2]
  · simp only [Option.map_eq_some_iff] at h
    obtain ⟨d, hd, rfl⟩ := h
    exact seql_binOp hd ha hb w

theorem litB_den (ρ : Rho) (l c : Bool) : (litB l c).den ρ = some (.bool c) := by cases l <;> rfl

theorem sbin_run {op : BinOp} {t : Nat} {x y : Operand} {a b : SV} {v u : Value} {z : SV} (h : sbin P op t (isConst x) (isConst y) a b = some z)
    (ha : a.den ρ = some v) (hb : b.den ρ = some u) (w : World) :
    ∃ q, (do eqGuard op t x y v u; binOp op t v u : Sem Value).run P w = .ok q w ∧ z.den ρ = some q := by
  have ints : ∀ (lit : Bool) (k k' : IntKind) (m n : Int), v = .int k m → u = .int k' n → sints lit op k k' m n = some z →
      ∃ q, (do eqGuard op t x y v u; binOp op t v u : Sem Value).run P w = .ok q w ∧ z.den ρ = some q := by
    rintro lit k k' m n rfl rfl hs
    obtain ⟨q, hq, hd⟩ := sints_run (ρ := ρ) hs t w
    exact ⟨q, by simp only [Sem.run_bind, eqGuard_other (t := t) (x := x) (y := y) (a := .int k m) (b := .int k' n) (by simp) (by simp) op w, Result.andThen_ok]; exact hq, hd⟩
  have strs : ∀ (m n : ByteArray), v = .string m → u = .string n →
      (op = .eql → z.den ρ = some (.bool (decide (m.data.toList = n.data.toList)))) → (op = .neq → z.den ρ = some (.bool (!(decide (m.data.toList = n.data.toList))))) → (op = .eql ∨ op = .neq) →
      ∃ q, (do eqGuard op t x y v u; binOp op t v u : Sem Value).run P w = .ok q w ∧ z.den ρ = some q := by
    rintro m n rfl rfl h1 h2 (rfl | rfl)
    · exact ⟨_, by simp only [Sem.run_bind, eqGuard_other (t := t) (x := x) (y := y) (a := .string m) (b := .string n) (by simp) (by simp) _ w, Result.andThen_ok, binOp_string_eql, Sem.run_pure, toList_beq], h1 rfl⟩
    · exact ⟨_, by simp only [Sem.run_bind, eqGuard_other (t := t) (x := x) (y := y) (a := .string m) (b := .string n) (by simp) (by simp) _ w, Result.andThen_ok, binOp_string_neq, Sem.run_pure, toList_beq], h2 rfl⟩
  have bools : ∀ (lit : Bool) (m n : Bool), v = .bool m → u = .bool n → sbools P lit op t m n = some z →
      ∃ q, (do eqGuard op t x y v u; binOp op t v u : Sem Value).run P w = .ok q w ∧ z.den ρ = some q := by
    rintro lit m n rfl rfl hs
    obtain ⟨q, hq, hd⟩ := sbools_run (ρ := ρ) hs w
    exact ⟨q, by simp only [Sem.run_bind, eqGuard_other (t := t) (x := x) (y := y) (a := .bool m) (b := .bool n) (by simp) (by simp) op w, Result.andThen_ok]; exact hq, hd⟩
  unfold sbin at h
  split at h
  · simp only [SV.den, Option.some.injEq] at ha hb; exact ints _ _ _ _ _ ha.symm hb.symm h
  · simp only [SV.den, Option.some.injEq] at ha hb; exact ints _ _ _ _ _ ha.symm hb.symm h
  · simp only [SV.den, Option.some.injEq] at ha hb; exact ints _ _ _ _ _ ha.symm hb.symm h
  · simp only [SV.den, Option.some.injEq] at ha hb; exact ints _ _ _ _ _ ha.symm hb.symm h
  iterate 4
    · simp only [SV.den, Option.some.injEq] at ha hb
      refine strs _ _ ha.symm hb.symm ?_ ?_ ?_ <;> (split at h <;> simp only [Option.some.injEq, reduceCtorEq] at h <;> subst h <;> simp [SV.den])
  iterate 4
    · simp only [SV.den, Option.some.injEq] at ha hb; exact bools _ _ _ ha.symm hb.symm h
  · exact sbinAg_run h ha hb w
  · split at h
    · simp only [Option.map_eq_some_iff] at h
      obtain ⟨c, hc, rfl⟩ := h
      exact ⟨_, (seqAny_binOp hc ha hb w).1, litB_den ρ _ _⟩
    · simp only [Option.map_eq_some_iff] at h
      obtain ⟨c, hc, rfl⟩ := h
      exact ⟨_, (seqAny_binOp hc ha hb w).2, litB_den ρ _ _⟩
    · simp at h

theorem enterable_run {f : FuncId} (h : enterable P f = true) (args : Array Value) (w : World) : (callFunc f args).run P w = .ok (.enter f args) w := by
  unfold enterable at h
  unfold callFunc
  simp only [Sem.run_bind, run_program, Result.andThen_ok]
  split at h
  · rename_i fn hf
    simp only [Bool.and_eq_true, Bool.not_eq_true'] at h
    obtain ⟨h1, h2⟩ := h
    rw [hf]
    simp only [h1, Bool.false_eq_true, if_false]
    have : fn.body.isNone = false := by cases hb : fn.body <;> simp_all
    simp [this]
  · simp at h

theorem slen_run {t : Nat} {x y : SV} {v : Value} (h : slen P t x = some y) (hx : x.den ρ = some v) (ty : TypeId) (ts : List TypeId) (w : World) :
    ∃ q, (Builtin.len_ (t :: ts).toArray ty #[v]).run P w = .ok q w ∧ y.den ρ = some q := by
  unfold slen at h
  simp only [Builtin.len_]
  split at h <;> simp only [Option.some.injEq, reduceCtorEq] at h <;> subst h <;> rename_i hu
  all_goals
    simp only [SV.den, Option.some.injEq, Option.map_eq_some_iff] at hx
  all_goals first
    | (split at hx
       · simp only [Option.map_eq_some_iff, Option.some.injEq] at hx; obtain ⟨b, hb, rfl⟩ := hx; refine ⟨_, ?_, rfl⟩; simp [run_und hu, goInt]
       · cases hx)
    | (subst hx; refine ⟨_, ?_, rfl⟩; simp [run_und hu, goInt])
    | (obtain ⟨b, hb, rfl⟩ := hx; refine ⟨_, ?_, rfl⟩; simp [run_und hu, goInt])

end
end Go.Rl
