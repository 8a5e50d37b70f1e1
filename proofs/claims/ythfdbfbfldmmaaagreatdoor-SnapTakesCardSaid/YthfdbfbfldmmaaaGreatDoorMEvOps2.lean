/-
  Operations on numbers, texts and other values, that touch no memory.
-/
import Derived.Test.YthfdbfbfldmmaaaGreatDoorMEvOps1
set_option linter.unusedVariables false
set_option linter.unusedSimpArgs false
set_option linter.unusedVariables false
set_option linter.unusedSimpArgs false
namespace Go.Ev
open Go.RowKit (Below)
section
variable {B : World} {F : Nat → Option Obj} {σ : Sig} {D : Nat → Prop} {s : St} {w : World}
theorem bits_of {op : BinOp} {k : IntKind} {a b : Int} {v : AV} (h : bitsA op k a b = some v) (w : World) : (Op.intBits op k a b).run PP w = .ok (conc σ v) w ∧ On D v := by
  cases op <;> simp only [bitsA] at h <;> first | (cases h; done) | (cases h; simp [Op.intBits, conc, On])
theorem intOp_of {op : BinOp} {t : TypeId} {k : IntKind} {a b : Int} {v : AV} (hs : isShift op = false) (h : intOp op k a b = some v) (w : World) :
    (binOp op t (.int k a) (.int k b)).run PP w = .ok (conc σ v) w ∧ On D v := by
  cases op <;> simp only [intOp] at h <;> simp only [isShift] at hs
  case add => cases h; simp [binOp, Op.intArith, conc, On, wrapA_eq]
  case sub => cases h; simp [binOp, Op.intArith, conc, On, wrapA_eq]
  case mul => cases h; simp [binOp, Op.intArith, conc, On, wrapA_eq]
  case quo =>
    obtain ⟨h1, h2⟩ := gd_of h
    cases h2
    have hb : b ≠ 0 := by simpa [eqA_eq] using h1
    simp [binOp, Op.intDiv, conc, On, wrapA_eq, hb]
  case rem =>
    obtain ⟨h1, h2⟩ := gd_of h
    cases h2
    have hb : b ≠ 0 := by simpa [eqA_eq] using h1
    simp [binOp, Op.intDiv, conc, On, hb]
  case eql => cases h; simp [binOp, Op.intCmp, conc, On, eqA_eq]; rfl
  case neq => cases h; simp [binOp, Op.intCmp, conc, On, eqA_eq, bne]; rfl
  case lss => cases h; simp [binOp, Op.intCmp, conc, On, ltA_eq]
  case leq => cases h; simp [binOp, Op.intCmp, conc, On, ltA_eq]; rw [Bool.eq_iff_iff]; simp
  case gtr => cases h; simp [binOp, Op.intCmp, conc, On, ltA_eq]
  case geq => cases h; simp [binOp, Op.intCmp, conc, On, ltA_eq]; rw [Bool.eq_iff_iff]; simp
  case and => have := bits_of (σ := σ) (D := D) h w; simpa [binOp] using this
  case or => have := bits_of (σ := σ) (D := D) h w; simpa [binOp] using this
  case xor => have := bits_of (σ := σ) (D := D) h w; simpa [binOp] using this
  case andNot => have := bits_of (σ := σ) (D := D) h w; simpa [binOp] using this
  all_goals cases hs
theorem shift_of {op : BinOp} {t : TypeId} {k k' : IntKind} {a b : Int} {v : AV} (h : shiftA op k a b = some v) (w : World) :
    (binOp op t (.int k a) (.int k' b)).run PP w = .ok (conc σ v) w ∧ On D v := by
  cases b with
  | negSucc m => simp [shiftA] at h
  | ofNat m =>
    have hm : ¬ (Int.ofNat m < 0) := by simp
    cases op <;> simp only [shiftA] at h <;> first | (cases h; done) | skip
    · cases h; simp [binOp, Op.shift, conc, On, wrapA_eq]; omega
    · cases h; simp [binOp, Op.shift, conc, On]; omega
theorem string_of {op : BinOp} {t : TypeId} {a b : List UInt8} {v : AV} (h : stringOpA op a b = some v) (w : World) :
    (binOp op t (.string ⟨a.toArray⟩) (.string ⟨b.toArray⟩)).run PP w = .ok (conc σ v) w ∧ On D v := by
  have e : (binOp op t (.string ⟨a.toArray⟩) (.string ⟨b.toArray⟩)) = Op.stringOp op ⟨a.toArray⟩ ⟨b.toArray⟩ := by cases op <;> rfl
  rw [e]
  cases op <;> simp only [stringOpA] at h <;> first | (cases h; done) | skip
  case add =>
    obtain ⟨h1, h2⟩ := gd_of h
    cases h2
    simp only [lenL_eq, Nat.ble_eq] at h1
    have hs : ¬ ((((⟨a.toArray⟩ : ByteArray).size + (⟨b.toArray⟩ : ByteArray).size : Nat) : Int) > IntKind.i64.max) := by
      simp [ByteArray.size, IntKind.max, IntKind.signed, IntKind.bits]; omega
    simp only [Op.stringOp, hs, if_false, Sem.run_pure, conc, On, and_true, appL_eq]
    congr 2
  all_goals (cases h; simp [Op.stringOp, conc, On, eqBytes_eq, lessBytes_eq])
/-! ### '==' -/
theorem eqFields_of {eq : TypeId → AV → AV → Option Bool} {d : Nat} (heq : ∀ t x y r, eq t x y = some r → On D x → On D y → ∀ w, (Op.equalIn d t (conc σ x) (conc σ y)).run PP w = .ok r w)
    {xs ys : List AV} (hx : OnL D xs) (hy : OnL D ys) (w : World) : ∀ {fs : List Field} {r : Bool}, eqFields eq xs ys fs = some r →
    ((forIn (m := Sem) fs ((none, ()) : Option Bool × Unit) fun f _ =>
        if f.name = "_" then pure (ForInStep.yield (none, ())) else do
          let a ← part f.type (concL σ xs).toArray f.offset
          let b ← part f.type (concL σ ys).toArray f.offset
          let c ← Op.equalIn d f.type a b
          if c = false then pure (ForInStep.done (some false, ())) else pure (ForInStep.yield (none, ()))).run PP w = .ok (if r then none else some false, ()) w)
  | [], r, h => by cases h; simp
  | f :: fs, r, h => by
    unfold eqFields at h
    split at h
    · cases h
    · rename_i hn
      obtain ⟨x, h1, h⟩ := oB_of h
      obtain ⟨y, h2, h⟩ := oB_of h
      obtain ⟨q, h3, h⟩ := oB_of h
      obtain ⟨p1, o1⟩ := partA_of (σ := σ) (D := D) h1 hx w
      obtain ⟨p2, o2⟩ := partA_of (σ := σ) (D := D) h2 hy w
      have p3 := heq _ _ _ _ h3 o1 o2 w
      cases q with
      | true =>
        rw [ifB_true] at h
        have ih := eqFields_of heq hx hy w h
        simp only [List.forIn_cons, hn, if_false, Sem.run_bind, p1, p2, p3, Result.andThen_ok, Bool.true_eq_false, Sem.run_pure] at ih ⊢
        exact ih
      | false =>
        rw [ifB_false] at h
        cases h
        simp [List.forIn_cons, hn, p1, p2, p3]
theorem str_beq (a b : List UInt8) : ((⟨a.toArray⟩ : ByteArray) == ⟨b.toArray⟩) = (a == b) := by
  have h : ((⟨a.toArray⟩ : ByteArray) == ⟨b.toArray⟩) = (a.toArray == b.toArray) := rfl
  rw [h, Bool.eq_iff_iff]
  simp
end
end Go.Ev
