/-
  Slices; cells read, written and made.
-/
import Derived.Test.YthfdbfbfldmmaaaGreatDoorMEvOps4
set_option linter.unusedVariables false
set_option linter.unusedSimpArgs false
set_option linter.unusedVariables false
set_option linter.unusedSimpArgs false
namespace Go.Ev
open Go.RowKit (Below)
section
variable {B : World} {F : Nat → Option Obj} {σ : Sig} {D : Nat → Prop} {s : St} {w : World}
theorem boundA_of {y n : Nat} {v : AV} {c : BoundsCode} (h : boundA y v = some n) (w : World) : (Instr.sliceBound (conc σ v) y c).run PP w = .ok n w ∧ n ≤ y := by
  (have ⟨k, h1, hNew⟩ := oB_of h; replace h := hNew; clear hNew)
  (have ⟨h2, hNew⟩ := gd_of h; replace h := hNew; clear hNew)
  cases h
  obtain ⟨ki, rfl⟩ := isNat_of h1
  have hk : n ≤ y := by simpa [nble] using h2
  refine ⟨?_, hk⟩
  simp [Instr.sliceBound, conc, asIntOf, hk]
theorem boundsA_of {is : Bool} {len cap c : Nat} {low high max : Option AV} {p : Nat × Nat × Nat} (h : boundsA len cap low high max = some p) (hc : cap ≤ c) (w : World) :
    (Instr.sliceBounds is len c (low.map (conc σ)) (high.map (conc σ)) (max.map (conc σ))).run PP w = .ok (p.1, p.2.1, if max.isSome then p.2.2 else c) w ∧ (max.isSome = false → p.2.2 = cap) ∧ p.1 ≤ p.2.1 ∧ (max.isSome = true → p.2.1 ≤ p.2.2) ∧ p.2.2 ≤ cap ∧ (high.isSome = false → p.2.1 = len) ∧ (high.isSome = true → p.2.1 ≤ p.2.2) := by
  (have ⟨h0, hNew⟩ := gd_of h; replace h := hNew; clear hNew)
  (have ⟨m, h1, hNew⟩ := oB_of h; replace h := hNew; clear hNew)
  (have ⟨hh, h2, hNew⟩ := oB_of h; replace h := hNew; clear hNew)
  (have ⟨l, h3, hNew⟩ := oB_of h; replace h := hNew; clear hNew)
  cases h
  have hl : ∀ cd, ((match low.map (conc σ) with | some v => Instr.sliceBound v hh cd | none => pure 0 : Sem Nat).run PP w = .ok l w) ∧ l ≤ hh := by
    intro cd
    cases low with
    | none => cases h3; exact ⟨rfl, Nat.zero_le _⟩
    | some v => exact boundA_of (σ := σ) h3 w
  cases max with
  | none =>
    cases h1
    cases high with
    | none =>
      cases h2
      refine ⟨?_, fun _ => rfl, (hl .sliceB).2, fun e => by simp at e, Nat.le_refl _, fun _ => rfl, fun e => by simp at e⟩
      have := (hl .sliceB).1
      cases low <;> simp_all [Instr.sliceBounds]
    | some v =>
      have hb : boundA c v = some hh := by
        obtain ⟨k, q1, q2⟩ := oB_of h2
        obtain ⟨q3, q4⟩ := gd_of q2
        cases q4
        have : hh ≤ cap := by simpa [nble] using q3
        unfold boundA
        rw [q1]
        show gd (Nat.ble hh c) (some hh) = some hh
        have : Nat.ble hh c = true := by rw [nble]; simp; omega
        rw [this]; rfl
      obtain ⟨_, hle⟩ := boundA_of (σ := σ) (c := .sliceB) h2 w
      refine ⟨?_, fun _ => rfl, (hl .sliceB).2, fun e => by simp at e, Nat.le_refl _, fun e => by simp at e, fun _ => hle⟩
      have := (hl .sliceB).1
      have hb' := fun cd => (boundA_of (σ := σ) (c := cd) hb w).1
      cases low <;> simp_all [Instr.sliceBounds]
  | some mv =>
    obtain ⟨_, hm⟩ := boundA_of (σ := σ) (c := .sliceB) h1 w
    have hb : boundA c mv = some m := by
      obtain ⟨k, q1, q2⟩ := oB_of h1
      obtain ⟨q3, q4⟩ := gd_of q2
      cases q4
      unfold boundA
      rw [q1]
      show gd (Nat.ble m c) (some m) = some m
      have : Nat.ble m c = true := by rw [nble]; simp; omega
      rw [this]; rfl
    have hb' := fun cd => (boundA_of (σ := σ) (c := cd) hb w).1
    cases high with
    | none => simp at h0
    | some v =>
      obtain ⟨_, hle⟩ := boundA_of (σ := σ) (c := .sliceB) h2 w
      refine ⟨?_, fun e => by simp at e, (hl .sliceB).2, fun _ => hle, hm, fun e => by simp at e, fun _ => hle⟩
      have := (hl .slice3C).1
      have hh' := fun cd => (boundA_of (σ := σ) (c := cd) h2 w).1
      cases low <;> simp_all [Instr.sliceBounds]
theorem atLeast_le (g : Good B F σ D s w) (b off z : Nat) : atLeast s b off z ≤ capOf σ b off z := by
  unfold atLeast
  split
  · rename_i r hr
    obtain ⟨_, c, fr, _, hrel⟩ := g.row hr
    obtain ⟨_, _, hle, _⟩ := hrel
    rw [lenL_eq]
    exact Nat.div_le_div_right (by omega)
  · exact Nat.zero_le _
theorem sliceKnown_of {b off l h m n : Nat} (hb : D b) :
    conc σ (sliceKnown b off l h m n) = .slice (some (if m = l then ⟨(σ b).b, off, none⟩ else ⟨(σ b).b, off + l * n, none⟩)) (h - l) (m - l) ∧ On D (sliceKnown b off l h m n) := by
  refine ⟨?_, hb⟩
  unfold sliceKnown
  rw [nbeq]
  by_cases e : m = l <;> simp [conc, e]
theorem sliceA_of {t : TypeId} {x v : AV} {low high max : Option AV} (g : Good B F σ D s w) (h : sliceA s t x low high max = some v) (hx : On D x) :
    (Instr.sliceAt t (conc σ x) (low.map (conc σ)) (high.map (conc σ)) (max.map (conc σ))).run PP w = .ok (conc σ v) w ∧ On D v := by
  unfold sliceA at h
  split at h
  · rename_i l
    (have ⟨h1, hNew⟩ := gd_of h; replace h := hNew; clear hNew)
    (have ⟨p, h2, hNew⟩ := oB_of h; replace h := hNew; clear hNew)
    cases h
    simp only [Bool.and_eq_true] at h1
    obtain ⟨hu, hm⟩ := h1
    have hu := uStr_of hu
    have hm : max = none := by cases max <;> simp_all
    subst hm
    obtain ⟨hb, _⟩ := boundsA_of (σ := σ) (is := false) h2 (Nat.le_refl _) w
    refine ⟨?_, by simp [On]⟩
    rw [lenL_eq] at hb
    have hs : (⟨l.toArray⟩ : ByteArray).size = l.length := by simp [ByteArray.size]
    simp only [Option.map_none, Option.isSome_none, Bool.false_eq_true, if_false] at hb
    simp only [Instr.sliceAt, Sem.run_bind, run_underlying hu, Result.andThen_ok, Instr.slice, conc, Option.map_none, Option.isSome_none, Bool.false_eq_true, if_false, hs, hb, Sem.run_pure]
    congr 2
    rw [dropL_eq, takeL_eq]
    apply ByteArray.ext
    rw [ByteArray.data_extract]
    simp [List.extract_eq_take_drop, List.drop_take]
  · (have ⟨e, h1, hNew⟩ := oB_of h; replace h := hNew; clear hNew)
    (have ⟨n, h2, hNew⟩ := oB_of h; replace h := hNew; clear hNew)
    (have ⟨p, h3, hNew⟩ := oB_of h; replace h := hNew; clear hNew)
    cases h
    have hu := uSlice_of h1
    obtain ⟨hb, hb1, hb2, hb3, hb4, hb5, hb6⟩ := boundsA_of (σ := σ) (is := true) h3 (Nat.le_refl _) w
    refine ⟨?_, by simp [On]⟩
    simp only [Instr.sliceAt, Sem.run_bind, run_underlying hu, Result.andThen_ok, Instr.slice, conc, hb, sizeA_of h2, Sem.run_pure, Option.map_none]
    have e1 : p.2.1 = 0 := by
      cases hhi : high.isSome with
      | true => have := hb6 hhi; omega
      | false => exact hb5 hhi
    have e2 : (if max.isSome = true then p.2.2 else 0) = 0 := by split <;> omega
    rw [e1, e2]
    simp
  · rename_i b off len c
    (have ⟨e, h1, hNew⟩ := oB_of h; replace h := hNew; clear hNew)
    (have ⟨n, h2, hNew⟩ := oB_of h; replace h := hNew; clear hNew)
    (have ⟨p, h3, hNew⟩ := oB_of h; replace h := hNew; clear hNew)
    cases h
    have hu := uSlice_of h1
    obtain ⟨hb, hb1, _⟩ := boundsA_of (σ := σ) (is := true) h3 (Nat.le_refl _) w
    obtain ⟨k1, k2⟩ := sliceKnown_of (σ := σ) (D := D) (b := b) (off := off) (l := p.1) (h := p.2.1) (m := p.2.2) (n := n) hx
    refine ⟨?_, k2⟩
    have hm : (if max.isSome = true then p.2.2 else c) = p.2.2 := by
      cases hmx : max.isSome with
      | true => simp
      | false => simp [hb1 hmx]
    rw [hm] at hb
    simp only [Instr.sliceAt, Sem.run_bind, run_underlying hu, Result.andThen_ok, Instr.slice, conc, hb, sizeA_of h2, Sem.run_pure, k1, Option.map_some, add_at]
    congr 2
    split <;> rfl
  · rename_i b off len z
    (have ⟨e, h1, hNew⟩ := oB_of h; replace h := hNew; clear hNew)
    (have ⟨n, h2, hNew⟩ := oB_of h; replace h := hNew; clear hNew)
    (have ⟨hz, hNew⟩ := gd_of h; replace h := hNew; clear hNew)
    (have ⟨p, h3, hNew⟩ := oB_of h; replace h := hNew; clear hNew)
    have hz : n = z := by simpa [nbeq] using hz
    subst hz
    have hu := uSlice_of h1
    obtain ⟨hb, hb1, hb2, _⟩ := boundsA_of (σ := σ) (is := true) h3 (atLeast_le g b off n) w
    have hle := atLeast_le g b off n
    simp only [Instr.sliceAt, Sem.run_bind, run_underlying hu, Result.andThen_ok, Instr.slice, conc, hb, sizeA_of h2, Sem.run_pure, Option.map_some, add_at]
    cases hmx : max.isSome with
    | true =>
      rw [hmx, ifB_true] at h
      cases h
      obtain ⟨k1, k2⟩ := sliceKnown_of (σ := σ) (D := D) (b := b) (off := off) (l := p.1) (h := p.2.1) (m := p.2.2) (n := n) hx
      refine ⟨?_, k2⟩
      rw [k1]
      simp only [if_true]
      congr 2
      split <;> rfl
    | false =>
      rw [hmx, ifB_false] at h
      unfold sliceOpen at h
      simp only [Bool.false_eq_true, if_false]
      cases hq : (Nat.blt p.1 (atLeast s b off n) || Nat.beq p.1 0) with
      | true =>
        rw [hq, ifB_true] at h
        cases h
        refine ⟨?_, hx⟩
        simp only [conc]
        have hcap : capOf σ b (off + p.1 * n) n = capOf σ b off n - p.1 := by
          unfold capOf
          rw [Nat.sub_add_eq, Nat.mul_comm, Nat.sub_mul_div]
        rw [hcap]
        congr 2
        split
        · rename_i hcl
          simp only [Bool.or_eq_true, nblt, nbeq, decide_eq_true_eq] at hq
          have : p.1 = 0 := by omega
          simp [this]
        · rfl
      | false =>
        rw [hq, ifB_false] at h
        (have ⟨hh, hNew⟩ := gd_of h; replace h := hNew; clear hNew)
        cases h
        have hh : p.2.1 = p.1 := by simpa [nbeq] using hh
        refine ⟨?_, hx⟩
        simp only [conc, hh, Nat.sub_self]
        congr 2
        split <;> rfl
  · rename_i b off
    (have ⟨a, h1, hNew⟩ := oB_of h; replace h := hNew; clear hNew)
    (have ⟨n, h2, hNew⟩ := oB_of h; replace h := hNew; clear hNew)
    (have ⟨p, h3, hNew⟩ := oB_of h; replace h := hNew; clear hNew)
    cases h
    have hu := uArr_of h1
    obtain ⟨hb, hb1, _⟩ := boundsA_of (σ := σ) (is := false) h3 (Nat.le_refl _) w
    obtain ⟨k1, k2⟩ := sliceKnown_of (σ := σ) (D := D) (b := b) (off := off) (l := p.1) (h := p.2.1) (m := p.2.2) (n := n) hx
    refine ⟨?_, k2⟩
    have hm : (if max.isSome = true then p.2.2 else a.1) = p.2.2 := by
      cases hmx : max.isSome with
      | true => simp
      | false => simp [hb1 hmx]
    rw [hm] at hb
    simp only [Instr.sliceAt, Sem.run_bind, run_underlying hu, Result.andThen_ok, Instr.sureAddr, conc, hb, sizeA_of h2, Sem.run_pure, k1, add_at]
  · cases h
end
end Go.Ev
