/-
  Conversions; blocks made.
-/
import Derived.Test.YthfdbfbfldmmaaaGreatDoorMEvOps10
import Derived.Laws.BytesString
set_option linter.unusedVariables false
set_option linter.unusedSimpArgs false
set_option linter.unusedVariables false
set_option linter.unusedSimpArgs false
namespace Go.Ev
open Go.RowKit (Below)
section
variable {B : World} {F : Nat → Option Obj} {σ : Sig} {D : Nat → Prop} {s : St} {w : World}
theorem Res.pure {m : Sem Value} {v : AV} (g : Good B F σ D s w) (h : m.run PP w = .ok (conc σ v) w ∧ On D v) : Res B F σ D w m v s :=
  ⟨σ, D, w, h.1, g, Ext.refl _ _, h.2⟩
theorem freeze_alloc (w : World) (c : Array Value) (e : TypeId) (k : Nat) : (w.alloc (.cells c e)).freeze ⟨w.heap.size, k, none⟩ 1 = w.alloc (.cells c e (k, k + 1)) := by
  unfold World.freeze
  rw [if_neg (by omega)]
  have : ((w.alloc (.cells c e)).heap.modify w.heap.size fun
      | .cells c elem (lo, hi) => .cells c elem (if lo == hi then (k, k + 1) else (min lo k, max hi (k + 1)))
      | o => o) = (w.alloc (.cells c e (k, k + 1))).heap := by
    apply Array.ext_getElem?
    intro i
    rw [Array.getElem?_modify]
    show (if w.heap.size = i then Option.map _ (w.heap.push _)[i]? else (w.heap.push _)[i]?) = (w.heap.push _)[i]?
    rw [Array.getElem?_push, Array.getElem?_push]
    by_cases h : i = w.heap.size
    · simp [h]
    · simp [h, Ne.symm h]
  show ({ (w.alloc (.cells c e)) with heap := _ } : World) = _
  exact congrArg (fun h => ({ w with heap := h } : World)) this
theorem stringToBytes_of (g : Good B F σ D s w) {l : List UInt8} {e : TypeId} {p : Nat × St} (h : s.new (.cells ⟨byteCells l, e, true, 0, true⟩) = some p) :
    Res B F σ D w (Conv.stringToBytes e ⟨l.toArray⟩) (.sl p.1 0 (lenL l) (.op 1)) p.2 := by
  obtain ⟨b, s'⟩ := p
  have hge : l.length ≤ Question.cut (.appendCap l.length 0 e) (w.tape w.drawn (.appendCap l.length 0 e)) := by simp [Question.cut]
  obtain ⟨cap, hcap⟩ : ∃ c, c = Question.cut (.appendCap l.length 0 e) (w.tape w.drawn (.appendCap l.length 0 e)) := ⟨_, rfl⟩
  rw [← hcap] at hge
  obtain ⟨arr, harr⟩ : ∃ a : Array Value, a = (l.toArray.map fun b => Value.int .u8 b.toNat) ++ Array.replicate (cap - l.length) (.int .u8 0) := ⟨_, rfl⟩
  have hsz : arr.size = cap := by rw [harr]; simp; omega
  obtain ⟨σ', D', h1, h2, h3, h4⟩ := row_new (drew_good g) (arr := arr) (fr := (arr.size, arr.size + 1)) h (byteCells_on l) ⟨List.replicate (cap - l.length) (.int .u8 0), by
    rw [harr, byteCells_conc]; simp, fun h => by cases h⟩ (fun i h1 h2 _ => by simp only at h2; omega) (fun h => by cases h)
  refine ⟨σ', D', _, ?_, h4, h1, h3⟩
  have hsh : (w.drew.alloc (.cells arr e)).shape? w.drew.heap.size = some (e, arr.size) := by
    unfold World.shape?
    rw [alloc_at]
  have hfr := freeze_alloc w.drew arr e arr.size
  have hc : conc σ' (.sl b 0 (lenL l) (.op 1)) = .slice (some ⟨w.drew.heap.size, 0, none⟩) l.length cap := by
    simp only [conc, capOf, h2, hsz, lenL_eq]
    simp
  rw [hc]
  simp only [Conv.stringToBytes, Sem.run_bind, run_choose_drew, Question.forced, Bool.false_eq_true, if_false, Result.andThen_ok, size_mk, ← hcap, ← harr, newRow, run_newObj_alloc, Sem.run_pure, markStringish, run_shape, hsh, run_freeze, hfr]
theorem seenAt_of {b off : Nat} {r : Row} (g : Good B F σ D s w) (h : s.row b = some r) : (Conv.seenAt ⟨(σ b).b, off, none⟩).run PP w = .ok ⟨(σ b).b, off, none⟩ w := by
  obtain ⟨_, c, fr, hheap, _⟩ := g.row h
  have hsh : w.shape? (σ b).b = some (r.e, c.size) := by simp [World.shape?, hheap]
  simp [Conv.seenAt, viewAt, hsh]
theorem convertA_of {src dst : TypeId} {x : AV} {p : AV × St} (g : Good B F σ D s w) (h : convertA s src dst x = some p) (hx : On D x) : Res B F σ D w (convert src dst (conc σ x)) p.1 p.2 := by
  unfold convertA at h
  split at h
  · (have ⟨k, h1, hNew⟩ := oB_of h; replace h := hNew; clear hNew)
    (have ⟨d, h2, hNew⟩ := oB_of h; replace h := hNew; clear hNew)
    cases h
    refine Res.pure g ⟨?_, by simp [On]⟩
    simp [convert, run_underlying h2, run_underlying (uInt_of h1), conc, Conv.intToInt, wrapA_eq]
  · rename_i l
    (have ⟨d, h1, hNew⟩ := oB_of h; replace h := hNew; clear hNew)
    cases hs : uStr dst with
    | true =>
      rw [hs, ifB_true] at h
      cases h
      refine Res.pure g ⟨?_, by simp [On]⟩
      simp [convert, run_underlying h1, run_underlying (uStr_of hs), conc]
    | false =>
      rw [hs, ifB_false] at h
      (have ⟨e, h2, hNew⟩ := oB_of h; replace h := hNew; clear hNew)
      (have ⟨h3, hNew⟩ := gd_of h; replace h := hNew; clear hNew)
      (have ⟨q, h4, hNew⟩ := oB_of h; replace h := hNew; clear hNew)
      cases h
      have := stringToBytes_of g h4
      have e : (convert src dst (conc σ (.str l))).run PP w = (Conv.stringToBytes e ⟨l.toArray⟩).run PP w := by
        simp [convert, run_underlying h1, run_underlying (uSlice_of h2), run_underlying (uByte_of h3), conc]
      unfold Res at this ⊢
      rw [e]
      exact this
  · (have ⟨e, h1, hNew⟩ := oB_of h; replace h := hNew; clear hNew)
    (have ⟨h2, hNew⟩ := gd_of h; replace h := hNew; clear hNew)
    cases h
    simp only [Bool.and_eq_true] at h2
    refine Res.pure g ⟨?_, by simp [On]⟩
    simp only [conc]
    rw [run_convert_bytes_string w src dst e none 0 0 (uSlice_of h1) (uByte_of h2.1) (uStr_of h2.2)]
    rfl
  · rename_i b off len c
    (have ⟨e, h1, hNew⟩ := oB_of h; replace h := hNew; clear hNew)
    (have ⟨h2, hNew⟩ := gd_of h; replace h := hNew; clear hNew)
    (have ⟨bs, h3, hNew⟩ := oB_of h; replace h := hNew; clear hNew)
    cases h
    simp only [Bool.and_eq_true] at h2
    (have ⟨r, h4, hNew⟩ := oB_of h3; replace h3 := hNew; clear hNew)
    (have ⟨l, h5, hNew⟩ := oB_of h3; replace h3 := hNew; clear hNew)
    obtain ⟨ns, rfl, rfl⟩ := bytesOf_of h3
    obtain ⟨k1, k2, k3⟩ := g.loads h4 h5
    rw [conc_bytes] at k1
    refine Res.pure g ⟨?_, by simp [On]⟩
    have hc : conc σ (.sl b off len c) = .slice (some ⟨(σ b).b, off, none⟩) len (match c with | .known c => c | .op e => capOf σ b off e) := by cases c <;> rfl
    rw [hc, run_convert_bytes_string w src dst e _ _ _ (uSlice_of h1) (uByte_of h2.1) (uStr_of h2.2), run_bytesToString w _ _ _ ns k1, push_bytes]
    simp [conc]
  · (have ⟨h1, hNew⟩ := gd_of h; replace h := hNew; clear hNew)
    cases h
    refine Res.pure g ⟨?_, by simp [On]⟩
    simp only [Bool.or_eq_true, Bool.and_eq_true, Option.isSome_iff_exists] at h1
    rcases h1 with ⟨⟨e, h1⟩, h2⟩ | ⟨h1, ⟨e, h2⟩⟩
    · simp [convert, run_underlying (uPtr_of h1), run_underlying (uUnsafe_of h2), conc, Conv.unsafePointer]
    · simp [convert, run_underlying (uUnsafe_of h1), run_underlying (uPtr_of h2), conc, Conv.unsafePointer]
  · rename_i b off
    (have ⟨r, hr, hNew⟩ := oB_of h; replace h := hNew; clear hNew)
    have hseen := seenAt_of (off := off) g hr
    obtain ⟨_, c, fr, hheap, hrel⟩ := g.row hr
    obtain ⟨_, hsz, hle, hcl, _⟩ := hrel
    have hsh : w.shape? (σ b).b = some (r.e, c.size) := by simp [World.shape?, hheap]
    cases hud : uUnsafe dst with
    | true =>
      rw [hud, ifB_true] at h
      (have ⟨t, h1, hNew⟩ := oB_of h; replace h := hNew; clear hNew)
      (have ⟨n, h2, hNew⟩ := oB_of h; replace h := hNew; clear hNew)
      (have ⟨h3, hNew⟩ := gd_of h; replace h := hNew; clear hNew)
      cases h
      simp only [Bool.and_eq_true, nblt, decide_eq_true_eq, lenL_eq] at h3
      refine Res.pure g ⟨?_, hx⟩
      have hn0 : n ≠ 0 := by omega
      have hlt : ¬ (c.size ≤ off) := by omega
      simp [convert, run_underlying (uPtr_of h1), run_underlying (uUnsafe_of hud), conc, Conv.unsafePointer, hseen, cellsIn, hsh, sizeA_of h2, hn0, hlt]
    | false =>
      rw [hud, ifB_false] at h
      (have ⟨u, h1, hNew⟩ := oB_of h; replace h := hNew; clear hNew)
      (have ⟨n, h2, hNew⟩ := oB_of h; replace h := hNew; clear hNew)
      (have ⟨h3, hNew⟩ := gd_of h; replace h := hNew; clear hNew)
      cases h
      simp only [Bool.and_eq_true, nblt, decide_eq_true_eq, lenL_eq, Bool.not_eq_true'] at h3
      obtain ⟨⟨⟨h3, h4⟩, h5⟩, h6⟩ := h3
      refine Res.pure g ⟨?_, hx⟩
      have hn0 : n ≠ 0 := by omega
      have hcs : c.size = r.c.length := by rw [hsz, hcl h4]
      simp [convert, run_underlying (uPtr_of h1), run_underlying (uUnsafe_of h5), conc, Conv.unsafePointer, hseen, variablesAt, hsh, sizeA_of h2, hn0, hcs, h6]
  · cases h
theorem newPtr_of {o : Option (Nat × St)} {c : List AV} {e : TypeId} {a : AN} (g : Good B F σ D s w) (ho : o = newCells s c e) (h : newPtr o = some a) (hc : OnL D c) :
    ∃ v s', a = .val v s' ∧ ∀ m : Sem Value, (∀ x w', (newRow e (concL σ c).toArray).run PP w = .ok x w' → m.run PP w = .ok (.pointer (some x)) w') → Res B F σ D w m v s' := by
  subst ho
  (have ⟨p, h1, hNew⟩ := oB_of h; replace h := hNew; clear hNew)
  cases h
  obtain ⟨σ', D', w', k1, k2, k3, k4⟩ := newCells_of g h1 hc
  refine ⟨_, _, rfl, fun m hm => ⟨σ', D', w', ?_, k4, k1, k2⟩⟩
  rw [hm _ _ k3]
  simp [conc]
theorem allocA_of {e : TypeId} {a : AN} (g : Good B F σ D s w) (h : (oB (zeroA e) fun z => newPtr (newCells s z.cells e)) = some a) :
    ∃ v s', a = .val v s' ∧ Res B F σ D w (Instr.alloc e true (.tuple #[])) v s' := by
  (have ⟨z, h1, hNew⟩ := oB_of h; replace h := hNew; clear hNew)
  obtain ⟨_, _, _, hz⟩ := zeroA_of (σ := σ) (D := D) h1
  obtain ⟨v, s', rfl, k⟩ := newPtr_of g rfl h (cells_on hz)
  refine ⟨v, s', rfl, k _ fun x w' hx => ?_⟩
  simp [Instr.alloc, zeroA_run h1 σ, newVar, cells_conc, hx]
theorem boxA_of {e : TypeId} {x : AV} {a : AN} (g : Good B F σ D s w) (h : newPtr (newCells s x.cells e) = some a) (hx : On D x) :
    ∃ v s', a = .val v s' ∧ Res B F σ D w (Instr.box e (conc σ x)) v s' := by
  obtain ⟨v, s', rfl, k⟩ := newPtr_of g rfl h (cells_on hx)
  refine ⟨v, s', rfl, k _ fun x w' hx => ?_⟩
  simp [Instr.box, newVar, cells_conc, hx]
theorem buildSliceA_of {t : TypeId} {len : Nat} {ps : List (Nat × AV)} {a : AN} (g : Good B F σ D s w) (h : buildSliceA s t len ps = some a) (hp : ∀ p ∈ ps, On D p.2) :
    ∃ v s', a = .val v s' ∧ Res B F σ D w (Instr.buildSlice t len (ps.map fun p => (p.1, conc σ p.2)).toArray) v s' := by
  (have ⟨e, h1, hNew⟩ := oB_of h; replace h := hNew; clear hNew)
  (have ⟨z, h2, hNew⟩ := oB_of h; replace h := hNew; clear hNew)
  (have ⟨h3, hNew⟩ := gd_of h; replace h := hNew; clear hNew)
  (have ⟨zs, h4, hNew⟩ := oB_of h; replace h := hNew; clear hNew)
  (have ⟨l, h5, hNew⟩ := oB_of h; replace h := hNew; clear hNew)
  (have ⟨p, h6, hNew⟩ := oB_of h; replace h := hNew; clear hNew)
  cases h
  simp only [Bool.and_eq_true, nblt, nble, decide_eq_true_eq] at h3
  obtain ⟨zero, k1, k1', k2, k3⟩ := zerosA_of h2 h3.1 h4 σ D w
  obtain ⟨k4, k5⟩ := fillA_of (σ := σ) h5 k3 hp
  obtain ⟨σ', D', w', q1, q2, q3, q4⟩ := newCells_of g h6 k5
  refine ⟨_, _, rfl, σ', D', w', ?_, q4, q1, q2⟩
  have hlim : ¬ (len * z > 2 ^ 24) := by omega
  by_cases hq : len * z = 0
  · rw [k1 hq, hq] at k2
    simp only [Instr.buildSlice, Sem.run_bind, run_underlying (uSlice_of h1), Result.andThen_ok, sizeA_of h2, hlim, if_false, conc]
    simp only [hq, if_true, Sem.run_bind, Sem.run_pure, Result.andThen_ok, k2, k4, q3]
  · obtain ⟨v, hv, hvc⟩ := k1' hq
    simp only [Instr.buildSlice, Sem.run_bind, run_underlying (uSlice_of h1), Result.andThen_ok, sizeA_of h2, hlim, if_false, hq, hv, hvc, k2, k4, q3, Sem.run_pure, conc]
theorem makeSliceA_of {t : TypeId} {l c : AV} {a : AN} (g : Good B F σ D s w) (h : makeSliceA s t l c = some a) :
    ∃ v s', a = .val v s' ∧ Res B F σ D w (Instr.makeSlice t (conc σ l) (conc σ c)) v s' := by
  (have ⟨e, h1, hNew⟩ := oB_of h; replace h := hNew; clear hNew)
  (have ⟨ln, h2, hNew⟩ := oB_of h; replace h := hNew; clear hNew)
  (have ⟨k, h3, hNew⟩ := oB_of h; replace h := hNew; clear hNew)
  (have ⟨z, h4, hNew⟩ := oB_of h; replace h := hNew; clear hNew)
  (have ⟨by_, h5, hNew⟩ := oB_of h; replace h := hNew; clear hNew)
  (have ⟨h6, hNew⟩ := gd_of h; replace h := hNew; clear hNew)
  (have ⟨zs, h7, hNew⟩ := oB_of h; replace h := hNew; clear hNew)
  (have ⟨p, h8, hNew⟩ := oB_of h; replace h := hNew; clear hNew)
  cases h
  obtain ⟨kl, rfl⟩ := isNat_of h2
  obtain ⟨kc, rfl⟩ := isNat_of h3
  simp only [Bool.and_eq_true, nblt, nble, decide_eq_true_eq] at h6
  obtain ⟨h6, h9, h10, h11⟩ := h6
  obtain ⟨zero, k1, k1', k2, k3⟩ := zerosA_of h4 h6 h7 σ D w
  obtain ⟨σ', D', w', q1, q2, q3, q4⟩ := newCells_of g h8 k3
  obtain ⟨i, hi1, hi2⟩ := bytesA_of h5
  refine ⟨_, _, rfl, σ', D', w', ?_, q4, q1, q2⟩
  have hw : ∀ n : Nat, n ≤ 4294967296 → IntKind.i64.wrap (Int.ofNat n) = (n : Int) := by
    intro n hn
    simp only [IntKind.wrap, IntKind.signed, IntKind.bits, Int.ofNat_eq_natCast]
    simp
    omega
  have e1 := hw ln (by omega)
  have e2 := hw k (by omega)
  have e3 : ¬ ((k : Int) < 0) := by omega
  have e4 : ¬ ((by_ : Int) * (k : Int) > 2 ^ 48) := by
    have : ((by_ * k : Nat) : Int) ≤ 4294967296 := by omega
    push_cast at this
    omega
  have e5 : ¬ ((ln : Int) < 0) := by omega
  have e6 : ¬ ((ln : Int) > (k : Int)) := by omega
  simp only [Instr.makeSlice, Sem.run_bind, run_underlying (uSlice_of h1), Result.andThen_ok, conc, asInt, asIntOf, Sem.run_pure, typeInfo, run_program, hi1, hi2, e1, e2, e3, e4, e5, e6, decide_false, Bool.or_false, Bool.false_eq_true, if_false, run_askRoom, sizeA_of h4, Int.toNat_natCast]
  by_cases hq : k * z = 0
  · rw [k1 hq, hq] at k2
    simp only [hq, if_true, Sem.run_bind, Sem.run_pure, Result.andThen_ok, k2, q3]
  · obtain ⟨v, hv, hvc⟩ := k1' hq
    simp only [hq, if_false, Sem.run_bind, hv, hvc, Sem.run_pure, Result.andThen_ok, k2, q3]
theorem newMapA_of {t : TypeId} {a : AN} (g : Good B F σ D s w) (h : newMapA s = some a) : ∃ v s', a = .val v s' ∧ Res B F σ D w (Instr.makeMap t none) v s' := by
  (have ⟨p, h1, hNew⟩ := oB_of h; replace h := hNew; clear hNew)
  cases h
  obtain ⟨b, s'⟩ := p
  obtain ⟨_, hb, _⟩ := new_of h1
  refine ⟨_, _, rfl, upd σ s.nx ⟨w.heap.size, 0⟩, plus D s.nx, w.alloc (.map #[] 0), ?_, g.new h1 ⟨rfl, by simp, by simp⟩, ext_upd g.fresh, ?_⟩
  · simp only [conc, hb, upd_same]
    simp [Instr.makeMap]
  · simp only [On, hb]; exact .inr rfl
theorem makeChanA_of {t : TypeId} {c : AV} {a : AN} (g : Good B F σ D s w) (h : makeChanA s t c = some a) : ∃ v s', a = .val v s' ∧ Res B F σ D w (Instr.makeChan t (conc σ c)) v s' := by
  (have ⟨e, h1, hNew⟩ := oB_of h; replace h := hNew; clear hNew)
  (have ⟨n, h2, hNew⟩ := oB_of h; replace h := hNew; clear hNew)
  (have ⟨by_, h3, hNew⟩ := oB_of h; replace h := hNew; clear hNew)
  (have ⟨h4, hNew⟩ := gd_of h; replace h := hNew; clear hNew)
  (have ⟨p, h5, hNew⟩ := oB_of h; replace h := hNew; clear hNew)
  cases h
  obtain ⟨kc, rfl⟩ := isNat_of h2
  simp only [Bool.and_eq_true, nble, decide_eq_true_eq] at h4
  obtain ⟨b, s'⟩ := p
  obtain ⟨_, hb, _⟩ := new_of h5
  obtain ⟨d, hu⟩ := uChan_of h1
  obtain ⟨i, hi1, hi2⟩ := bytesA_of h3
  have e1 : IntKind.i64.wrap (Int.ofNat n) = (n : Int) := by
    simp only [IntKind.wrap, IntKind.signed, IntKind.bits, Int.ofNat_eq_natCast]
    simp
    omega
  have e2 : ¬ ((n : Int) < 0) := by omega
  have e3 : ¬ ((n : Int) > IntKind.i64.max) := by
    have : IntKind.i64.max = 9223372036854775807 := by decide
    omega
  have e4 : ¬ ((by_ : Int) * (n : Int) > 2 ^ 48 - 112) := by
    have : ((by_ * n : Nat) : Int) ≤ 4294967296 := by omega
    push_cast at this
    omega
  refine ⟨_, _, rfl, upd σ s.nx ⟨w.heap.size, 0⟩, plus D s.nx, w.alloc (.chan n #[] false 0 0 false), ?_, g.new h5 ⟨rfl, by simp, by simp [OnL], rfl, rfl, rfl, rfl⟩, ext_upd g.fresh, ?_⟩
  · simp only [conc, hb, upd_same]
    simp only [Instr.makeChan, Sem.run_bind, asInt, asIntOf, Sem.run_pure, Result.andThen_ok, run_underlying hu, typeInfo, run_program, hi1, hi2]
    simp
    intro hbad
    exfalso
    have hmx : IntKind.i64.max = 9223372036854775807 := by decide
    rw [hmx] at e3
    omega
  · simp only [On, hb]; exact .inr rfl
end
end Go.Ev
