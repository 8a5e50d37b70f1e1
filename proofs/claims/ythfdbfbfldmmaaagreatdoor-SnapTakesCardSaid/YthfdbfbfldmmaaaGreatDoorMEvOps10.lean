/-
  The other builtins.
-/
import Derived.Test.YthfdbfbfldmmaaaGreatDoorMEvOps9
import Derived.Lib.UnsafeStr
set_option linter.unusedVariables false
set_option linter.unusedSimpArgs false
set_option linter.unusedVariables false
set_option linter.unusedSimpArgs false
namespace Go.Ev
open Go.RowKit (Below)
section
variable {B : World} {F : Nat → Option Obj} {σ : Sig} {D : Nat → Prop} {s : St} {w : World}
theorem size_mk (l : List UInt8) : (⟨l.toArray⟩ : ByteArray).size = l.length := by simp [ByteArray.size]
theorem get_chan {w : World} {r n x y : Nat} {buf : Array Value} {cl tm : Bool} (h : w.heap[r]? = some (.chan n buf cl x y tm)) : (getObj r).run PP w = .ok (.chan n buf cl x y tm) w := by
  simp [getObj, Sem.run, h]
theorem lenA_of {t ty : TypeId} {x v : AV} (g : Good B F σ D s w) (h : lenA s t x = some v) : (Builtin.len_ #[t] ty #[conc σ x]).run PP w = .ok (conc σ v) w ∧ On D v := by
  unfold lenA at h
  split at h
  · (have ⟨h1, hNew⟩ := gd_of h; replace h := hNew; clear hNew)
    cases h
    simp [Builtin.len_, run_underlying (uStr_of h1), conc, goInt, lenL_eq, size_mk, On]
  · (have ⟨e, h1, hNew⟩ := oB_of h; replace h := hNew; clear hNew)
    cases h
    simp [Builtin.len_, run_underlying (uSlice_of h1), conc, goInt, On]
  · rename_i c
    (have ⟨e, h1, hNew⟩ := oB_of h; replace h := hNew; clear hNew)
    cases h
    cases c <;> simp [Builtin.len_, run_underlying (uSlice_of h1), conc, goInt, On]
  · (have ⟨e, h1, hNew⟩ := oB_of h; replace h := hNew; clear hNew)
    cases h
    simp [Builtin.len_, run_underlying (uSlice_of h1), conc, goInt, On]
  · (have ⟨e, h1, hNew⟩ := oB_of h; replace h := hNew; clear hNew)
    cases h
    simp [Builtin.len_, run_underlying (uMap_of h1), conc, goInt, On]
  · (have ⟨e, h1, hNew⟩ := oB_of h; replace h := hNew; clear hNew)
    (have ⟨m, h2, hNew⟩ := oB_of h; replace h := hNew; clear hNew)
    cases h
    obtain ⟨_, _, ces, e1, e2, _⟩ := g.map h2
    have hs : ces.size = m.1.length := by rw [← Array.length_toList, e2, List.length_map]
    simp [Builtin.len_, run_underlying (uMap_of h1), conc, goInt, On, get_map e1, lenL_eq, hs]
  · (have ⟨e, h1, hNew⟩ := oB_of h; replace h := hNew; clear hNew)
    cases h
    obtain ⟨d, hu⟩ := uChan_of h1
    simp [Builtin.len_, run_underlying hu, conc, goInt, On]
  · (have ⟨e, h1, hNew⟩ := oB_of h; replace h := hNew; clear hNew)
    (have ⟨c, h2, hNew⟩ := oB_of h; replace h := hNew; clear hNew)
    cases h
    obtain ⟨d, hu⟩ := uChan_of h1
    obtain ⟨hd, ob, q1, q2⟩ := g.heap _ _ (chanAt_of h2) (by simp)
    cases ob <;> simp only [ORel] at q2
    rename_i n' buf' cl x' y' tm
    obtain ⟨_, r2, _, _, _, _, r7⟩ := q2
    have hs : buf'.size = c.2.1.length := by rw [← Array.length_toList, r2, List.length_map]
    have hg := get_chan q1
    simp [Builtin.len_, run_underlying hu, conc, goInt, On, hg, lenL_eq, hs, r7]
  · (have ⟨a, h1, hNew⟩ := oB_of h; replace h := hNew; clear hNew)
    cases h
    simp [Builtin.len_, run_underlying (uArr_of h1), conc, goInt, On]
  · cases h
theorem capA_of {t ty : TypeId} {x v : AV} (g : Good B F σ D s w) (h : capA s t x = some v) : (Builtin.cap_ #[t] ty #[conc σ x]).run PP w = .ok (conc σ v) w ∧ On D v := by
  unfold capA at h
  split at h
  · (have ⟨e, h1, hNew⟩ := oB_of h; replace h := hNew; clear hNew)
    cases h
    simp [Builtin.cap_, run_underlying (uSlice_of h1), conc, goInt, On]
  · (have ⟨e, h1, hNew⟩ := oB_of h; replace h := hNew; clear hNew)
    cases h
    simp [Builtin.cap_, run_underlying (uSlice_of h1), conc, goInt, On]
  · (have ⟨e, h1, hNew⟩ := oB_of h; replace h := hNew; clear hNew)
    cases h
    obtain ⟨d, hu⟩ := uChan_of h1
    simp [Builtin.cap_, run_underlying hu, conc, goInt, On]
  · (have ⟨e, h1, hNew⟩ := oB_of h; replace h := hNew; clear hNew)
    (have ⟨c, h2, hNew⟩ := oB_of h; replace h := hNew; clear hNew)
    cases h
    obtain ⟨d, hu⟩ := uChan_of h1
    obtain ⟨hd, ob, q1, q2⟩ := g.heap _ _ (chanAt_of h2) (by simp)
    cases ob <;> simp only [ORel] at q2
    rename_i n' buf' cl x' y' tm
    obtain ⟨r1, r2, _, _, _, _, r7⟩ := q2
    have hg := get_chan q1
    simp [Builtin.cap_, run_underlying hu, conc, goInt, On, hg, r1, r7]
  · cases h
theorem minL_of {k : IntKind} : ∀ {l : List AV} {x n : Int}, minL x l = some n → ∀ w, ((concL σ l).foldlM Builtin.min2 (.int k x)).run PP w = .ok (.int k n) w
  | [], x, n, h, w => by cases h; simp [concL]
  | .int k' y :: l, x, n, h, w => by
    replace h : minL (ifB (ltA y x) y x) l = some n := h
    simp only [concL, conc, List.foldlM_cons, Sem.run_bind, Builtin.min2, Sem.run_pure, Result.andThen_ok]
    rw [ltA_eq, ifB_eq] at h
    simp only [decide_eq_true_eq] at h
    exact minL_of h w
  | .bool _ :: _, _, _, h, _ | .str _ :: _, _, _, h, _ | .nilp :: _, _, _, h, _ | .ptr _ _ :: _, _, _, h, _ | .nils :: _, _, _, h, _ | .sl _ _ _ _ :: _, _, _, h, _ | .esl _ _ _ _ :: _, _, _, h, _
  | .nilm :: _, _, _, h, _ | .mp _ :: _, _, _, h, _ | .nilc :: _, _, _, h, _ | .ch _ :: _, _, _, h, _ | .nilf :: _, _, _, h, _ | .fn _ _ _ :: _, _, _, h, _ | .yield _ :: _, _, _, h, _ | .nili :: _, _, _, h, _
  | .ifc _ _ :: _, _, _, h, _ | .agg _ :: _, _, _, h, _ | .tup _ :: _, _, _, h, _ => by cases h
theorem maxL_of {k : IntKind} : ∀ {l : List AV} {x n : Int}, maxL x l = some n → ∀ w, ((concL σ l).foldlM Builtin.max2 (.int k x)).run PP w = .ok (.int k n) w
  | [], x, n, h, w => by cases h; simp [concL]
  | .int k' y :: l, x, n, h, w => by
    replace h : maxL (ifB (ltA x y) y x) l = some n := h
    simp only [concL, conc, List.foldlM_cons, Sem.run_bind, Builtin.max2, Sem.run_pure, Result.andThen_ok]
    rw [ltA_eq, ifB_eq] at h
    simp only [decide_eq_true_eq] at h
    exact maxL_of h w
  | .bool _ :: _, _, _, h, _ | .str _ :: _, _, _, h, _ | .nilp :: _, _, _, h, _ | .ptr _ _ :: _, _, _, h, _ | .nils :: _, _, _, h, _ | .sl _ _ _ _ :: _, _, _, h, _ | .esl _ _ _ _ :: _, _, _, h, _
  | .nilm :: _, _, _, h, _ | .mp _ :: _, _, _, h, _ | .nilc :: _, _, _, h, _ | .ch _ :: _, _, _, h, _ | .nilf :: _, _, _, h, _ | .fn _ _ _ :: _, _, _, h, _ | .yield _ :: _, _, _, h, _ | .nili :: _, _, _, h, _
  | .ifc _ _ :: _, _, _, h, _ | .agg _ :: _, _, _, h, _ | .tup _ :: _, _, _, h, _ => by cases h
theorem zerosA_cells {e : TypeId} {n : Nat} {l : List AV} (h : zerosA e (n + 1) = some l) (σ : Sig) (D : Nat → Prop) (w : World) :
    ∃ v, (zeroValue e).run PP w = .ok v w ∧ Builtin.zeroCells v.cells (n + 1) = (concL σ l).toArray ∧ OnL D l := by
  replace h : (oB (zeroA e) fun z => oB (sizeA e) fun k => gd (Nat.beq (lenL z.cells) k) (some (repeatL z.cells (n + 1)))) = some l := h
  (have ⟨zv, h1, hNew⟩ := oB_of h; replace h := hNew; clear hNew)
  (have ⟨k, h2, hNew⟩ := oB_of h; replace h := hNew; clear hNew)
  (have ⟨h3, hNew⟩ := gd_of h; replace h := hNew; clear hNew)
  cases h
  obtain ⟨_, _, _, hon⟩ := zeroA_of (σ := σ) (D := D) h1
  refine ⟨_, zeroA_run h1 σ w, ?_, repeatL_on (cells_on hon) _⟩
  rw [cells_conc]
  unfold Builtin.zeroCells
  rcases Nat.eq_zero_or_pos zv.cells.length with h0 | h0
  · have hz : zv.cells = [] := List.length_eq_zero_iff.1 h0
    rw [hz]
    have : ∀ m, repeatL ([] : List AV) m = [] := by
      intro m
      induction m with
      | zero => rfl
      | succ m ih =>
        show appL [] (repeatL [] m) = []
        rw [ih]; rfl
    rw [this]
    simp [concL]
  · have := zeros_conc (σ := σ) zv.cells h0 (n + 1)
    rw [← this]
    simp [concL_length]
theorem appZerosA_of {t xt ty : TypeId} {x y : AV} {p : AV × St} (g : Good B F σ D s w) (h : appZerosA s t xt x y = some p) :
    Res B F σ D w (Builtin.append_ #[t, xt] ty #[conc σ x, conc σ y]) p.1 p.2 := by
  (have ⟨e, h1, hNew⟩ := oB_of h; replace h := hNew; clear hNew)
  (have ⟨h2, hNew⟩ := gd_of h; replace h := hNew; clear hNew)
  split at h
  · rename_i n
    (have ⟨z, h3, hNew⟩ := oB_of h; replace h := hNew; clear hNew)
    (have ⟨by_, h4, hNew⟩ := oB_of h; replace h := hNew; clear hNew)
    (have ⟨h5, hNew⟩ := gd_of h; replace h := hNew; clear hNew)
    (have ⟨new, h6, hNew⟩ := oB_of h; replace h := hNew; clear hNew)
    simp only [Bool.and_eq_true, nblt, nble, decide_eq_true_eq] at h5
    obtain ⟨hz, hn0, hn1, hf⟩ := h5
    obtain ⟨m, rfl⟩ : ∃ m, n = m + 1 := ⟨n - 1, by omega⟩
    obtain ⟨hb0, hb1, zv, hzv, hzl⟩ := fitsA_of hf
    obtain ⟨i, hi1, hi2⟩ := bytesA_of h4
    obtain ⟨v, k1, k2, k3⟩ := zerosA_cells h6 σ D w.drew
    have hv : v = conc σ zv := by
      have := k1.symm.trans (zeroA_run hzv σ w.drew)
      simpa using this
    subst hv
    have hu := uSlice_of h1
    obtain ⟨kk, hx⟩ : ∃ kk, PP.underlying xt = some (.int kk) := by
      unfold isInt at h2
      split at h2
      · exact ⟨_, by assumption⟩
      · cases h2
    have hw : IntKind.i64.wrap (Int.ofNat (m + 1)) = ((m + 1 : Nat) : Int) := by
      simp only [IntKind.wrap, IntKind.signed, IntKind.bits, Int.ofNat_eq_natCast]
      simp
      omega
    have e0 : ¬ (((m + 1 : Nat) : Int) < 0) := by omega
    have e1 : ¬ (((m + 1 : Nat) : Int) * (by_ : Int) > 2 ^ 48) := by
      have h1 : (m + 1) * by_ ≤ (2 * (m + 1) + 768) * by_ := Nat.mul_le_mul_right _ (by omega)
      have : (((m + 1) * by_ : Nat) : Int) ≤ 281474976710656 := by omega
      push_cast at this ⊢
      omega
    have e2 : ¬ (((0 + (m + 1) : Nat) : Int) > IntKind.i64.max) := by
      have : IntKind.i64.max = 9223372036854775807 := by decide
      omega
    have e3 : ¬ (0 + (m + 1) ≤ 0) := by omega
    have e4 : ¬ (Builtin.nextslicecap (0 + (m + 1)) 0 * by_ > 2 ^ 48) := by
      have h1 := nextslicecap_le (need := 0 + (m + 1)) (old := 0) (by omega)
      have h2 : Builtin.nextslicecap (0 + (m + 1)) 0 * by_ ≤ (2 * (m + 1) + 768) * by_ := Nat.mul_le_mul_right _ (by omega)
      omega
    have e5 : ¬ ((m + 1) * z = 0) := by
      have := Nat.mul_pos (show 0 < m + 1 by omega) hz
      omega
    have hzc : (conc σ zv).cells.size = z := by rw [cells_conc]; simp [concL_length, hzl]
    have hge : 0 + (m + 1) ≤ Question.cut (.appendCap (0 + (m + 1)) 0 e) (w.tape w.drawn (.appendCap (0 + (m + 1)) 0 e)) := by simp [Question.cut]
    have hrun : (Builtin.append_ #[t, xt] ty #[conc σ AV.nils, conc σ (.int .i64 (Int.ofNat (m + 1)))]).run PP w = .ok (.slice (some ⟨w.heap.size, 0, none⟩) (0 + (m + 1)) (Question.cut (.appendCap (0 + (m + 1)) 0 e) (w.tape w.drawn (.appendCap (0 + (m + 1)) 0 e))))
        (w.drew.alloc (.cells (#[] ++ (concL σ new).toArray ++ Builtin.zeroCells (conc σ zv).cells (Question.cut (.appendCap (0 + (m + 1)) 0 e) (w.tape w.drawn (.appendCap (0 + (m + 1)) 0 e)) - (0 + (m + 1)))) e)) := by
      simp only [Builtin.append_, conc, List.getElem?_toArray, List.getElem?_cons_zero, List.getElem?_cons_succ, Sem.run_bind, run_underlying hu, run_underlying hx, Result.andThen_ok, sizeA_of h3, Sem.run_pure, if_true, asInt, asIntOf, hw, e0, if_false, typeInfo, run_program, hi1, hi2, e1, Int.toNat_natCast, e3, e2, false_and, e4,
        run_choose_drew, Question.forced, run_askRoom, Builtin.firstCells, e5, Bool.not_true, Bool.false_eq_true, k1, k2, zeroA_run hzv σ, newRow, run_newObj_alloc]
      rfl
    generalize Question.cut (.appendCap (0 + (m + 1)) 0 e) (w.tape w.drawn (.appendCap (0 + (m + 1)) 0 e)) = cap at hge hrun
    have hnl : new.length = (m + 1) * z := by
      have h1 : (concL σ new).toArray.size = (m + 1) * z := by rw [← k2, size_zeroCells, hzc]
      simpa [concL_length] using h1
    obtain ⟨σ', D', q1, q2, q3, q4⟩ := grownA_of (drew_good g) h hz k3 (#[] ++ (concL σ new).toArray ++ Builtin.zeroCells (conc σ zv).cells (cap - (0 + (m + 1)))) cap ⟨_, by simp; rfl⟩ (by
      simp only [Array.size_append, List.size_toArray, concL_length, hnl, size_zeroCells, hzc]
      rw [show ([] : List Value).length = 0 from rfl, Nat.zero_add, ← Nat.add_mul]
      congr 1
      omega)
    refine ⟨σ', D', _, ?_, q4, q1, q2⟩
    rw [hrun, q3]
    simp
  · cases h
theorem clearA_of {t ty : TypeId} {x : AV} {s' : St} (g : Good B F σ D s w) (h : clearA s t x = some s') :
    ∃ w', (Builtin.clear_ #[t] ty #[conc σ x]).run PP w = .ok (.tuple #[]) w' ∧ Good B F σ D s' w' := by
  unfold clearA at h
  split at h
  · (have ⟨d, h1, hNew⟩ := oB_of h; replace h := hNew; clear hNew)
    cases h
    exact ⟨w, by simp [Builtin.clear_, run_underlying h1, conc], g⟩
  · (have ⟨d, h1, hNew⟩ := oB_of h; replace h := hNew; clear hNew)
    cases h
    exact ⟨w, by simp [Builtin.clear_, run_underlying h1, conc], g⟩
  · (have ⟨d, h1, hNew⟩ := oB_of h; replace h := hNew; clear hNew)
    cases h
    exact ⟨w, by simp [Builtin.clear_, run_underlying h1, conc], g⟩
  · rename_i b off n c
    cases n with
    | zero =>
      replace h : (oB (PP.underlying t) fun _ => some s) = some s' := h
      (have ⟨d, h1, hNew⟩ := oB_of h; replace h := hNew; clear hNew)
      cases h
      exact ⟨w, by cases c <;> simp [Builtin.clear_, run_underlying h1, conc], g⟩
    | succ n =>
      replace h : (oB (uSlice t) fun e => oB (zerosA e (n + 1)) fun zs => writeA s b off zs) = some s' := h
      (have ⟨e, h1, hNew⟩ := oB_of h; replace h := hNew; clear hNew)
      (have ⟨zs, h2, hNew⟩ := oB_of h; replace h := hNew; clear hNew)
      have hu := uSlice_of h1
      obtain ⟨v, k1, k2, k3⟩ := zerosA_cells h2 σ D w
      obtain ⟨w', q1, q2, _⟩ := g.write h k3
      refine ⟨w', ?_, q2⟩
      cases c <;> simp [Builtin.clear_, run_underlying hu, conc, k1, k2, q1]
  · rename_i b
    (have ⟨d, h1, hNew⟩ := oB_of h; replace h := hNew; clear hNew)
    (have ⟨m, h2, hNew⟩ := oB_of h; replace h := hNew; clear hNew)
    cases h
    obtain ⟨_, _, ces, e1, e2, _⟩ := g.map h2
    obtain ⟨k1, k2⟩ := g.setMap h2 (es := []) (c := m.2) (ces := #[]) (by simp) (by simp)
    refine ⟨_, ?_, k2⟩
    simp [Builtin.clear_, run_underlying h1, conc, get_map e1, k1]
  · cases h
theorem sliceDataA_of {ts : Array TypeId} {ty : TypeId} {x v : AV} (g : Good B F σ D s w) (h : sliceDataA s x = some v) (hx : On D x) : (Builtin.unsafeSliceData_ ts ty #[conc σ x]).run PP w = .ok (conc σ v) w ∧ On D v := by
  unfold sliceDataA at h
  split at h
  · cases h; exact ⟨by simp only [conc]; exact Lib.run_unsafeSliceData_nil w ts ty 0 0, by simp [On]⟩
  · rename_i b off len c
    cases c with
    | zero => cases h
    | succ c => cases h; exact ⟨by simp only [conc]; exact Lib.run_unsafeSliceData_row w ts ty _ _ _ (by omega), hx⟩
  · rename_i b off len z
    have hle := atLeast_le g b off z
    cases ha : atLeast s b off z with
    | zero => rw [ha] at h; cases h
    | succ c =>
      rw [ha] at h
      cases h
      exact ⟨by simp only [conc]; exact Lib.run_unsafeSliceData_row w ts ty _ _ _ (by omega), hx⟩
  · cases h
/-! ### Bytes -/
theorem byteOfA_of {v : AV} {b : UInt8} (h : byteOfA v = some b) : ∃ n : Int, v = .int .u8 n ∧ b = UInt8.ofNat n.toNat := by
  unfold byteOfA at h
  split at h
  · rename_i n
    cases h
    refine ⟨n, rfl, ?_⟩
    cases n.toNat <;> rfl
  · cases h
theorem bytesOf_of : ∀ {l : List AV} {bs : List UInt8}, bytesOf l = some bs → ∃ ns : List Int, l = ns.map (AV.int .u8) ∧ bs = ns.map fun n => UInt8.ofNat n.toNat
  | [], bs, h => by cases h; exact ⟨[], rfl, rfl⟩
  | v :: l, bs, h => by
    replace h : (oB (byteOfA v) fun b => oB (bytesOf l) fun r => some (b :: r)) = some bs := h
    (have ⟨b, h1, hNew⟩ := oB_of h; replace h := hNew; clear hNew)
    (have ⟨r, h2, hNew⟩ := oB_of h; replace h := hNew; clear hNew)
    cases h
    obtain ⟨n, rfl, rfl⟩ := byteOfA_of h1
    obtain ⟨ns, rfl, rfl⟩ := bytesOf_of h2
    exact ⟨n :: ns, rfl, rfl⟩
theorem conc_bytes (ns : List Int) : concL σ (ns.map (AV.int .u8)) = ns.map (Value.int .u8) := by
  induction ns with
  | nil => rfl
  | cons n ns ih => simp only [List.map_cons, concL, conc, ih]
theorem push_bytes : ∀ (ns : List Int) (acc : ByteArray), ns.foldl (fun r n => r.push (UInt8.ofNat n.toNat)) acc = ⟨acc.data ++ (ns.map fun n => UInt8.ofNat n.toNat).toArray⟩
  | [], acc => by simp
  | n :: ns, acc => by
    rw [List.foldl_cons, push_bytes ns]
    apply ByteArray.ext
    simp [ByteArray.push]
theorem byteCells_get : ∀ {l : List UInt8} {j : Nat} {x : UInt8}, l[j]? = some x → (byteCells l)[j]? = some (.int .u8 x.toNat)
  | [], j, x, h => by simp at h
  | b :: l, 0, x, h => by simp at h; subst h; rfl
  | b :: l, j + 1, x, h => byteCells_get (l := l) (by simpa using h)
theorem unsafeStringA_of {pt it ty : TypeId} {x : AV} {k : Nat} {p : AV × St} (g : Good B F σ D s w) (h : unsafeStringA s pt x k = some p) :
    Res B F σ D w (Builtin.unsafeString_ #[pt, it] ty #[conc σ x, .int .i64 k]) p.1 p.2 := by
  unfold unsafeStringA at h
  split at h
  · cases k with
    | zero =>
      cases h
      exact ⟨σ, D, w, by simp only [conc]; exact Lib.run_unsafeString_none w pt it ty none, g, Ext.refl _ _, by simp [On]⟩
    | succ k => cases h
  · rename_i b off
    cases k with
    | zero =>
      cases h
      exact ⟨σ, D, w, by simp only [conc]; exact Lib.run_unsafeString_none w pt it ty _, g, Ext.refl _ _, by simp [On]⟩
    | succ k =>
      replace h : (oB (uPtr pt) fun e => oB (s.row b) fun r =>
        gd (Nat.beq off 0 && Nat.beq e r.e && Nat.beq (PP.cellsOf e) 1 && Nat.ble (k + 1) 4294967296 && !r.sg) (oB (cut r.c 0 (k + 1)) fun l => oB (bytesOf l) fun bs => gd (allEq (eqAV 1) (byteCells bs) l) (some (AV.str bs, s.put b (.cells ⟨r.c, r.e, r.opn, Nat.max r.fz (k + 1), false⟩))))) = some p := h
      (have ⟨e, h1, hNew⟩ := oB_of h; replace h := hNew; clear hNew)
      (have ⟨r, h2, hNew⟩ := oB_of h; replace h := hNew; clear hNew)
      (have ⟨h3, hNew⟩ := gd_of h; replace h := hNew; clear hNew)
      (have ⟨l, h4, hNew⟩ := oB_of h; replace h := hNew; clear hNew)
      (have ⟨bs, h5, hNew⟩ := oB_of h; replace h := hNew; clear hNew)
      (have ⟨h6, hNew⟩ := gd_of h; replace h := hNew; clear hNew)
      cases h
      simp only [Bool.and_eq_true, nbeq, nble, decide_eq_true_eq, Bool.not_eq_true'] at h3
      obtain ⟨⟨⟨⟨rfl, he⟩, hc⟩, hk⟩, hsg⟩ := h3
      have hp := uPtr_of h1
      obtain ⟨hD, c, fr, hheap, hrel⟩ := g.row h2
      obtain ⟨_, hsz, hle, hcl, hcells, hon', hfro, hsg'⟩ := hrel
      obtain ⟨c1, c2, rfl⟩ := (cut_some _ _ _ _).1 h4
      have h6 := allEq_of (eqAV_of 1) _ _ h6
      have hbl : bs.length = k + 1 := by
        have := congrArg List.length h6
        rw [byteCells_length] at this
        simp at this
        omega
      have hsh : w.shape? (σ b).b = some (e, (σ b).n) := by
        simp [World.shape?, hheap, he, hsz]
      have hrun := Lib.run_unsafeString_row (P := PP) w pt it ty e hp hc (σ b).b (σ b).n hsh bs (by intro h0; rw [h0] at hbl; simp at hbl) (by omega) (by omega) (fun j x hx => by
        rw [add_at, Nat.zero_add]
        have hj : j < k + 1 := by rw [← hbl]; exact (List.getElem?_eq_some_iff.1 hx).1
        have hb1 : (byteCells bs)[j]? = some (.int .u8 x.toNat) := byteCells_get hx
        have : r.c[j]? = some (.int .u8 x.toNat) := by
          rw [h6, List.getElem?_take_of_lt hj, List.drop_zero] at hb1
          exact hb1
        have := (g.cell h2 this).1
        simpa [conc] using this)
      rw [hbl] at hrun
      refine ⟨σ, D, w.freeze ⟨(σ b).b, 0, none⟩ (k + 1), ?_, ?_, Ext.refl _ _, by simp [On]⟩
      · have hc' : conc σ (.ptr b 0) = .pointer (some ⟨(σ b).b, 0, none⟩) := by simp [conc]
        rw [hc']
        simpa [conc] using hrun
      · obtain ⟨lo, hi⟩ := fr
        refine g.put (row_alive h2) (o := .cells _) (ob := .cells c r.e (if lo == hi then (0, 0 + (k + 1)) else (min lo 0, max hi (0 + (k + 1))))) ?_ ?_ ?_ ?_ ?_ ?_ ?_
        · refine ⟨rfl, hsz, hle, hcl, hcells, hon', ?_, ?_⟩
          · intro i hi1 hi2 hi3
            simp only at hi2 hi3 ⊢
            rcases hsg' hsg with hq | hq
            · simp only at hq
              subst hq
              simp only [beq_self_eq_true, if_true] at hi2 hi3
              simp only [Nat.max_def]; split <;> omega
            · simp only at hq
              split at hi3
              · simp only at hi3; simp only [Nat.max_def]; split <;> omega
              · simp only [Nat.max_def] at hi3 ⊢
                split at hi3 <;> split <;> omega
          · intro _
            right
            simp only
            rcases hsg' hsg with hq | hq
            · simp only at hq
              subst hq
              simp only [beq_self_eq_true, if_true]
              simp only [Nat.max_def]; split <;> omega
            · simp only at hq
              split
              · simp only [Nat.max_def]; split <;> omega
              · simp only [Nat.max_def]
                split <;> split <;> omega
        · unfold World.freeze; split <;> rfl
        · unfold World.freeze; split <;> rfl
        · unfold World.freeze; split <;> rfl
        · unfold World.freeze; split <;> simp
        · unfold World.freeze
          rw [if_neg (by omega)]
          simp [Array.getElem?_modify, hheap]
        · intro i hi'
          unfold World.freeze
          rw [if_neg (by omega)]
          simp only
          rw [Array.getElem?_modify, if_neg (Ne.symm hi')]
  · cases h
end
end Go.Ev
