/-
  append and copy.
-/
import Derived.Test.YthfdbfbfldmmaaaGreatDoorMEvOps7
set_option linter.unusedVariables false
set_option linter.unusedSimpArgs false
set_option linter.unusedVariables false
set_option linter.unusedSimpArgs false
namespace Go.Ev
open Go.RowKit (Below)
section
variable {B : World} {F : Nat → Option Obj} {σ : Sig} {D : Nat → Prop} {s : St} {w : World}
def Res (B : World) (F : Nat → Option Obj) (σ : Sig) (D : Nat → Prop) (w : World) (m : Sem Value) (v : AV) (s' : St) : Prop :=
  ∃ σ' D' w', m.run PP w = .ok (conc σ' v) w' ∧ Good B F σ' D' s' w' ∧ Ext σ D σ' D' ∧ On D' v
theorem srcLen_of {y : AV} {n : Nat} (h : srcLen y = some n) (w : World) : (Builtin.lenOf (conc σ y)).run PP w = .ok n w := by
  unfold srcLen at h
  split at h
  · cases h; simp [Builtin.lenOf, conc]
  · cases h; simp [Builtin.lenOf, conc]
  · rename_i c; cases h; cases c <;> simp [Builtin.lenOf, conc]
  · cases h; simp [Builtin.lenOf, conc, lenL_eq, ByteArray.size]
  · cases h
theorem byteCells_conc : ∀ l : List UInt8, concL σ (byteCells l) = l.map fun b => .int .u8 b.toNat
  | [] => rfl
  | b :: l => by
    show concL σ (.int .u8 b.toNat :: byteCells l) = _
    simp [concL, conc, byteCells_conc l]
theorem byteCells_on : ∀ l : List UInt8, OnL D (byteCells l)
  | [] => by show OnL D []; simp [OnL]
  | b :: l => by
    show OnL D (.int .u8 b.toNat :: byteCells l)
    simp [OnL, On, byteCells_on l]
theorem byteCells_length (l : List UInt8) : (byteCells l).length = l.length := by
  rw [← concL_length (σ := fun _ => ⟨0, 0⟩), byteCells_conc, List.length_map]
theorem srcCells_of (g : Good B F σ D s w) {z n : Nat} {y : AV} {l : List AV} (h : srcCells s z n y = some l) :
    (Builtin.firstCells z n (conc σ y)).run PP w = .ok (concL σ l).toArray w ∧ OnL D l ∧ (srcLen y = some n → l.length = n * z) := by
  unfold srcCells at h
  split at h
  · cases n with
    | zero => cases h; simp [Builtin.firstCells, conc, concL, OnL]
    | succ n => cases h
  · cases n with
    | zero => cases h; simp [Builtin.firstCells, conc, concL, OnL, loadCells, loadCellsFrom]
    | succ n => cases h
  · rename_i b off len c
    have hf : Builtin.firstCells z n (conc σ (.sl b off len c)) = loadCells ⟨(σ b).b, off, none⟩ (n * z) := by cases c <;> rfl
    rw [hf]
    cases hn : n * z with
    | zero => rw [hn] at h; cases h; simp [concL, OnL, loadCells, loadCellsFrom]
    | succ k =>
      rw [hn] at h
      replace h : (oB (s.row b) fun r => cut r.c off (n * z)) = some l := by rw [hn]; exact h
      (have ⟨r, hr, hNew⟩ := oB_of h; replace h := hNew; clear hNew)
      obtain ⟨h1, h2, h3⟩ := g.loads hr h
      rw [hn] at h1 h3
      exact ⟨h1, h2, fun _ => h3⟩
  · rename_i bs
    (have ⟨h1, hNew⟩ := gd_of h; replace h := hNew; clear hNew)
    cases h
    have hz : z = 1 := by simpa [nbeq] using h1
    subst hz
    refine ⟨?_, byteCells_on _, ?_⟩
    · simp only [Builtin.firstCells, conc, Sem.run_pure]
      congr 1
      rw [byteCells_conc, takeL_eq]
      apply Array.ext'
      rw [ByteArray.data_extract]
      simp [List.extract_eq_take_drop]
    · intro hl
      simp only [srcLen, lenL_eq, Option.some.injEq] at hl
      rw [byteCells_length, takeL_eq, ← hl]
      simp
  · cases h
theorem grownA_of (g : Good B F σ D s w) {e : TypeId} {z len fz : Nat} {sg : Bool} {c : List AV} {p : AV × St} (h : grownA s e z len c fz sg = some p) (hz : 0 < z) (hc : OnL D c) (arr : Array Value) (cap : Nat)
    (ha : ∃ r, arr.toList = concL σ c ++ r) (hcap : arr.size = cap * z) :
    ∃ σ' D', Ext σ D σ' D' ∧ On D' p.1 ∧ conc σ' p.1 = .slice (some ⟨w.heap.size, 0, none⟩) len cap ∧ Good B F σ' D' p.2 (w.alloc (.cells arr e)) := by
  (have ⟨q, hq, hNew⟩ := oB_of h; replace h := hNew; clear hNew)
  cases h
  obtain ⟨b, s'⟩ := q
  obtain ⟨r, hr⟩ := ha
  obtain ⟨σ', D', h1, h2, h3, h4⟩ := row_new g (arr := arr) (fr := (0, 0)) hq hc ⟨r, hr, fun h => by cases h⟩ (fun i _ _ h => by simp at h) (fun _ => .inl rfl)
  refine ⟨σ', D', h1, h3, ?_, h4⟩
  simp only [conc, capOf, h2, hcap, Nat.sub_zero]
  rw [Nat.mul_div_cancel _ hz]
theorem growBy_le (need : Nat) : ∀ (k c : Nat), c < need + (need + 768) / 4 → Builtin.growBy need k c ≤ need + (need + 768) / 4
  | 0, c, h => by simp only [Builtin.growBy]; omega
  | k + 1, c, h => by
    simp only [Builtin.growBy]
    split
    · omega
    · rcases Nat.lt_or_ge (c + (c + 768) / 4) (need + (need + 768) / 4) with h1 | h1
      · exact growBy_le need k _ h1
      · have : c + (c + 768) / 4 ≤ need + (need + 768) / 4 := by omega
        have he : c + (c + 768) / 4 = need + (need + 768) / 4 := by omega
        rw [he]
        cases k with
        | zero => simp [Builtin.growBy]
        | succ k => simp only [Builtin.growBy]; rw [if_pos (by omega)]; exact Nat.le_refl _
theorem nextslicecap_le {need old : Nat} (h : old < need) : Builtin.nextslicecap need old ≤ 2 * need + 768 := by
  unfold Builtin.nextslicecap
  split
  · omega
  · split
    · omega
    · have := growBy_le need 4 old (by omega)
      omega
theorem fitsA_of {e : TypeId} {z by_ len : Nat} (h : fitsA e z by_ len = true) : 0 < by_ ∧ (2 * len + 768) * by_ ≤ 281474976710656 ∧ ∃ v, zeroA e = some v ∧ v.cells.length = z := by
  unfold fitsA at h
  simp only [Bool.and_eq_true, nblt, nble, decide_eq_true_eq] at h
  obtain ⟨⟨h1, h2⟩, h3⟩ := h
  refine ⟨h1, h2, ?_⟩
  split at h3
  · rename_i v hv
    exact ⟨v, hv, by simpa [nbeq, lenL_eq] using h3⟩
  · cases h3
theorem append_room {t xt ty e : TypeId} {z n sLen sCap : Nat} {base : Option Addr} {y : AV} {new : List AV} {w' : World} (hu : PP.underlying t = some (.slice e)) (hz : sizeA e = some z) {d : TypeDesc} (hx : PP.underlying xt = some d) (hi : isInt xt = false)
    (hn : (Builtin.lenOf (conc σ y)).run PP w = .ok n w) (hnew : (Builtin.firstCells z n (conc σ y)).run PP w = .ok (concL σ new).toArray w) (hroom : sLen + n ≤ sCap)
    (hst : ∀ a, base = some a → (storeCells (a.add (sLen * z)) (concL σ new)).run PP w = .ok () w') (hnone : base = none → w' = w) :
    (Builtin.append_ #[t, xt] ty #[.slice base sLen sCap, conc σ y]).run PP w = .ok (.slice base (sLen + n) sCap) w' := by
  have hd : ∀ k, d ≠ .int k := by
    rintro k rfl
    simp [isInt, hx] at hi
  have hmat : (match d with | .int _ => true | _ => false) = false := by cases d <;> first | rfl | exact absurd rfl (hd _)
  simp only [Builtin.append_, List.getElem?_toArray, List.getElem?_cons_zero, List.getElem?_cons_succ, Sem.run_bind, run_underlying hu, run_underlying hx, Result.andThen_ok, sizeA_of hz, Sem.run_pure, Bool.false_eq_true, if_false, hn, hroom, if_true, Bool.not_false, hnew]
  cases base with
  | none => rw [hnone rfl]; rfl
  | some a => simp [hst a rfl]
theorem append_grow {t xt ty e : TypeId} {z by_ n sLen sCap : Nat} {base : Option Addr} {y : AV} {old new : List AV} (hu : PP.underlying t = some (.slice e)) (hz : sizeA e = some z) (hby : bytesA e = some by_) {d : TypeDesc} (hx : PP.underlying xt = some d) (hi : isInt xt = false)
    (hn : (Builtin.lenOf (conc σ y)).run PP w = .ok n w) (hroom : ¬ sLen + n ≤ sCap) (hfit : fitsA e z by_ (sLen + n) = true)
    (hold : (Builtin.firstCells z sLen (.slice base sLen sCap)).run PP w.drew = .ok (concL σ old).toArray w.drew) (hnew : (Builtin.firstCells z n (conc σ y)).run PP w.drew = .ok (concL σ new).toArray w.drew)
    (hol : old.length = sLen * z) (hnl : new.length = n * z) :
    ∃ arr cap, (Builtin.append_ #[t, xt] ty #[.slice base sLen sCap, conc σ y]).run PP w = .ok (.slice (some ⟨w.heap.size, 0, none⟩) (sLen + n) cap) (w.drew.alloc (.cells arr e)) ∧
      (∃ r, arr.toList = concL σ (old ++ new) ++ r) ∧ arr.size = cap * z := by
  have hd : ∀ k, d ≠ .int k := by
    rintro k rfl
    simp [isInt, hx] at hi
  have hmat : (match d with | .int _ => true | _ => false) = false := by cases d <;> first | rfl | exact absurd rfl (hd _)
  obtain ⟨hb0, hb1, zv, hzv, hzl⟩ := fitsA_of hfit
  obtain ⟨i, hi1, hi2⟩ := bytesA_of hby
  have hnx : ¬ (Builtin.nextslicecap (sLen + n) sCap * by_ > 2 ^ 48) := by
    have h1 := nextslicecap_le (need := sLen + n) (old := sCap) (by omega)
    have h2 : Builtin.nextslicecap (sLen + n) sCap * by_ ≤ (2 * (sLen + n) + 768) * by_ := Nat.mul_le_mul_right _ h1
    omega
  have hbz : ¬ (by_ = 0) := by omega
  have hzc : (conc σ zv).cells.size = z := by rw [cells_conc]; simp [concL_length, hzl]
  refine ⟨(concL σ old).toArray ++ (concL σ new).toArray ++ Builtin.zeroCells (conc σ zv).cells (Question.cut (.appendCap (sLen + n) sCap e) (w.tape w.drawn (.appendCap (sLen + n) sCap e)) - (sLen + n)), Question.cut (.appendCap (sLen + n) sCap e) (w.tape w.drawn (.appendCap (sLen + n) sCap e)), ?_, ⟨_, by simp [concL_append]; rfl⟩, ?_⟩
  · simp only [Builtin.append_, List.getElem?_toArray, List.getElem?_cons_zero, List.getElem?_cons_succ, Sem.run_bind, run_underlying hu, run_underlying hx, Result.andThen_ok, sizeA_of hz, Sem.run_pure, Bool.false_eq_true, if_false, hn, hroom, Bool.not_false, typeInfo, run_program, hi1, hi2, hbz, false_or, and_false, hnx, run_choose_drew, Question.forced, run_askRoom, hold, hnew, if_true, zeroA_run hzv σ, newRow, run_newObj_alloc]
    rfl
  · have hge : sLen + n ≤ Question.cut (.appendCap (sLen + n) sCap e) (w.tape w.drawn (.appendCap (sLen + n) sCap e)) := by simp [Question.cut]
    generalize Question.cut (.appendCap (sLen + n) sCap e) (w.tape w.drawn (.appendCap (sLen + n) sCap e)) = cap at hge
    simp only [Array.size_append, List.size_toArray, concL_length, hol, hnl, size_zeroCells, hzc]
    rw [← Nat.add_mul, ← Nat.add_mul]
    congr 1
    omega
end
end Go.Ev
