/-
  Equality.
-/
import Derived.Test.YthfdbfbfldmmaaaGreatDoorMEvOps2
set_option linter.unusedVariables false
set_option linter.unusedSimpArgs false
set_option linter.unusedVariables false
set_option linter.unusedSimpArgs false
namespace Go.Ev
open Go.RowKit (Below)
section
variable {B : World} {F : Nat → Option Obj} {σ : Sig} {D : Nat → Prop} {s : St} {w : World}
set_option maxHeartbeats 2000000 in
theorem equalA_of : ∀ (d e : Nat) {t : TypeId} {x y : AV} {r : Bool}, equalA d t x y = some r → On D x → On D y → d ≤ e → ∀ w, (Op.equalIn e t (conc σ x) (conc σ y)).run PP w = .ok r w := by
  intro d
  induction d with
  | zero => intro e t x y r h; simp [equalA] at h
  | succ d ih =>
    intro e t x y r h hx hy hde w
    obtain ⟨e, rfl⟩ : ∃ e', e = e' + 1 := ⟨e - 1, by omega⟩
    unfold equalA at h
    split at h
    case h_1 hu => cases h; simp [Op.equalIn, run_underlying hu, conc]
    case h_2 hu =>
      split at h
      · rename_i hk; cases h; subst hk; simp [Op.equalIn, run_underlying hu, conc, eqA_eq]; rfl
      · cases h
    case h_3 hu => cases h; simp [Op.equalIn, run_underlying hu, conc, eqBytes_eq, str_beq]
    case h_4 hu => cases h; simp [Op.equalIn, run_underlying hu, conc]
    case h_5 hu => cases h; simp [Op.equalIn, run_underlying hu, conc]
    case h_6 hu => cases h; simp [Op.equalIn, run_underlying hu, conc]
    case h_7 hu =>
      obtain ⟨n, hn, h⟩ := oB_of h
      obtain ⟨h1, h⟩ := gd_of h
      cases h
      simp only [Bool.and_eq_true, nbeq, nblt, decide_eq_true_eq] at h1
      obtain ⟨rfl, h0⟩ := h1
      have h0' : n ≠ 0 := by omega
      simp [Op.equalIn, run_underlying hu, conc, sizeA_of hn, h0', sameAddr, nbeq]
      rw [Bool.eq_iff_iff]; simp
    case h_19 hu =>
      obtain ⟨h1, h⟩ := gd_of h
      have hst : PP.stoodInHeld t = false := by simpa using h1
      simp only [On] at hx hy
      simp [Op.equalIn, run_underlying hu, conc, hst]
      have hf := eqFields_of (σ := σ) (D := D) (d := e) (fun t x y r h hx hy w => ih e h hx hy (by omega) w) hx hy w h
      rw [← Array.forIn_toList, hf]
      cases r <;> simp
    all_goals first
      | (cases h; done)
      | (cases h; cases ‹Cap› <;> simp [Op.equalIn, run_underlying ‹_›, conc]; done)
      | (cases h; simp [Op.equalIn, run_underlying ‹_›, conc])
theorem conc_nili {x : AV} (h : conc σ x = .nilIface) : x = .nili := by
  cases x <;> simp [conc] at h ⊢
  rename_i c; cases c <;> simp [conc] at h
theorem eqGuard_of {op : BinOp} {t : TypeId} {xo yo : Operand} {x y : AV} (hg : PP.eqGuardType PP.depth t = false) (hn : ¬ (x = .nili ∧ y = .nili)) (w : World) :
    (eqGuard op t xo yo (conc σ x) (conc σ y)).run PP w = .ok () w := by
  have key : ∀ a b : Value, (a = .nilIface → b = .nilIface → False) → (match a, b with
      | .nilIface, .nilIface => do
        if (xo matches .const _) || (yo matches .const _) then return
        if ← Op.eqGuardIn Op.maxDepth t a b then unsupported (.noEntry "binop/eql: two nil values of an interface type with methods, neither of them the literal nil")
      | .agg _, .agg _ => do
        if !(← program).eqGuardType (← program).depth t then return
        if ← Op.eqGuardIn Op.maxDepth t a b then unsupported (.noEntry "binop/eql: two nil values of an interface type with methods, in a part of a struct or an array")
      | _, _ => pure () : Sem Unit).run PP w = .ok () w := by
    intro a b hab
    split
    · exact (hab rfl rfl).elim
    · simp [hg]
    · rfl
  cases op <;> first | rfl | exact key _ _ (fun h1 h2 => hn ⟨conc_nili h1, conc_nili h2⟩)
theorem equalA_nili {d : Nat} {t : TypeId} {x y : AV} {r : Bool} (h : equalA d t x y = some r) : ¬ (x = .nili ∧ y = .nili) := by
  rintro ⟨rfl, rfl⟩
  cases d with
  | zero => simp [equalA] at h
  | succ d =>
    unfold equalA at h
    split at h <;> simp_all
theorem conc_int {x : AV} {k : IntKind} {n : Int} (h : conc σ x = .int k n) : x = .int k n := by
  cases x <;> simp [conc] at h ⊢
  · exact h
  · rename_i c; cases c <;> simp [conc] at h
theorem conc_string {x : AV} {b : ByteArray} (h : conc σ x = .string b) : ∃ l, x = .str l := by
  cases x <;> simp [conc] at h ⊢
  rename_i c; cases c <;> simp [conc] at h
theorem conc_float {x : AV} {k : FloatKind} {b : Nat} (h : conc σ x = .float k b) : False := by
  cases x with
  | sl b o l c => cases c <;> simp [conc] at h
  | _ => simp [conc] at h
theorem conc_complex {x : AV} {k : FloatKind} {b c : Nat} (h : conc σ x = .complex k b c) : False := by
  cases x with
  | sl b o l c => cases c <;> simp [conc] at h
  | _ => simp [conc] at h
theorem binOp_eql {t : TypeId} {a b : Value} (h1 : ∀ k n k' m, a = .int k n → b = .int k' m → False) (h2 : ∀ k n, a = .float k n → False) (h3 : ∀ k n m, a = .complex k n m → False)
    (h4 : ∀ s s', a = .string s → b = .string s' → False) : binOp .eql t a b = (do pure (.bool (← Op.equal t a b))) := by
  unfold binOp
  split <;> first | rfl | (exfalso; first | exact h1 _ _ _ _ rfl rfl | exact h2 _ _ rfl | exact h3 _ _ _ rfl | exact h4 _ _ rfl rfl | simp_all)
theorem binOp_neq {t : TypeId} {a b : Value} (h1 : ∀ k n k' m, a = .int k n → b = .int k' m → False) (h2 : ∀ k n, a = .float k n → False) (h3 : ∀ k n m, a = .complex k n m → False)
    (h4 : ∀ s s', a = .string s → b = .string s' → False) : binOp .neq t a b = (do pure (.bool (!(← Op.equal t a b)))) := by
  unfold binOp
  split <;> first | rfl | (exfalso; first | exact h1 _ _ _ _ rfl rfl | exact h2 _ _ rfl | exact h3 _ _ _ rfl | exact h4 _ _ rfl rfl | simp_all)
theorem binA_of {op : BinOp} {t : TypeId} {xo yo : Operand} {x y v : AV} (h : binA op t x y = some v) (hx : On D x) (hy : On D y) (w : World) :
    (do eqGuard op t xo yo (conc σ x) (conc σ y); binOp op t (conc σ x) (conc σ y)).run PP w = .ok (conc σ v) w ∧ On D v := by
  unfold binA at h
  split at h
  · rename_i k a k' b
    have hg : (eqGuard op t xo yo (.int k a) (.int k' b)).run PP w = .ok () w := by
      unfold eqGuard; split <;> rfl
    simp only [Sem.run_bind, conc, hg, Result.andThen_ok]
    cases hs : isShift op with
    | true => rw [hs, ifB_true] at h; exact shift_of h w
    | false =>
      rw [hs, ifB_false] at h
      split at h
      · rename_i hk; subst hk; exact intOp_of hs h w
      · cases h
  · rename_i a b
    have hg : (eqGuard op t xo yo (.string ⟨a.toArray⟩) (.string ⟨b.toArray⟩)).run PP w = .ok () w := by
      unfold eqGuard; split <;> rfl
    simp only [Sem.run_bind, conc, hg, Result.andThen_ok]
    exact string_of h w
  · rename_i h1 h2
    have q1 : ∀ k n k' m, conc σ x = .int k n → conc σ y = .int k' m → False := fun k n k' m e1 e2 => h1 _ _ _ _ (conc_int e1) (conc_int e2)
    have q4 : ∀ s s', conc σ x = .string s → conc σ y = .string s' → False := fun s s' e1 e2 => by
      obtain ⟨l, rfl⟩ := conc_string e1
      obtain ⟨l', rfl⟩ := conc_string e2
      exact h2 _ _ rfl rfl
    have q2 : ∀ k n, conc σ x = .float k n → False := fun k n e => conc_float e
    have q3 : ∀ k n m, conc σ x = .complex k n m → False := fun k n m e => conc_complex e
    cases op <;> simp only [eqOpA] at h <;> first | (cases h; done) | skip
    all_goals
      obtain ⟨hg, h⟩ := gd_of h
      obtain ⟨r, he, h⟩ := oB_of h
      cases h
      have hg' : PP.eqGuardType PP.depth t = false := by simpa using hg
      have e1 := eqGuard_of (σ := σ) (op := .eql) (xo := xo) (yo := yo) hg' (equalA_nili he) w
      have e2 := eqGuard_of (σ := σ) (op := .neq) (xo := xo) (yo := yo) hg' (equalA_nili he) w
      have e3 := equalA_of (σ := σ) (D := D) eqDepth Op.maxDepth he hx hy (by decide) w
      simp only [Sem.run_bind, e1, e2, Result.andThen_ok, On, and_true, binOp_eql q1 q2 q3 q4, binOp_neq q1 q2 q3 q4, Op.equal, e3, Sem.run_pure, conc]
end
end Go.Ev
