/-
  tree.Put at a root that is a leaf, and where it fails: whatever the items have. tree.Put at a root that is a leaf, whatever its other items have. tree.Put at a root that may be anything, where the pager has this one page. tree.Get: the value of a key, or that there is none. A tree of some steps' pairs, and the document's pairs: law 12's 'grown'.
-/
import Derived.Test.YtgfmhppkmogdhaaGreatDoorMBGwGetLaw
import Derived.Test.YtgfmhppkmogdhaaGreatDoorMBGwSeeLeaf
import Derived.Test.YtgfmhppkmogdhaaGreatDoorMBGwPutT
import Derived.Test.YtgfmhppkmogdhaaGreatDoorMBGvGrow
import Derived.Test.YtgfmhppkmogdhaaGreatDoorMBGvAny2
import Derived.Test.YtgfmhppkmogdhaaGreatDoorMBGwBeg2
import Derived.Test.YtgfmhppkmogdhaaGreatDoorMBEvPg
set_option linter.unusedVariables false
set_option linter.unusedSimpArgs false
set_option linter.unusedVariables false
set_option linter.unusedSimpArgs false
namespace Go.Ev
open Go.Proofs Go.RowKit

section
variable {p most cnt : Nat} {c : Pc} {M : Store}

theorem isKey_good (key : Bytes) (w : World) (hk1 : 1 ≤ key.length) (hk2 : key.length ≤ 40) : Calls Tryz.prog 96 #[strV key] w fun e w' => e = .returned (.bool true) ∧ w = w' := by
  have hkey := isKey_any key w (by omega)
  have e1 : decide (1 ≤ key.length) = true := by simpa using hk1
  have e2 : decide (key.length ≤ 40) = true := by simpa using hk2
  rw [e1, e2] at hkey
  exact hkey

set_option maxHeartbeats 2000000 in
set_option maxRecDepth 100000 in
/-- There is no way. -/
theorem put_way_err (id : Int) (key v : Bytes) (w : World) (hk1 : 1 ≤ key.length) (hk2 : key.length ≤ 40) (hv : v.length ≤ 2000) (hW : Calls Tryz.prog 97 #[ptrV p, .int .i64 id, strV key] w (ErrP [.slice none 0 0, .int .i64 0, .slice none 0 0] w)) :
    Calls Tryz.prog 30 #[ptrV p, .int .i64 id, strV key, strV v] w (ErrP [.int .i64 0] w) := by
  have hnv2 : ¬ (2000 : Int) < (v.length : Int) := by omega
  have HKey := Lib.hid (isKey_good key w hk1 hk2)
  have HW := Lib.hid hW
  clear hW
  go_enter Tryz.func30, Tryz.ntmps30
  go_wp2_with (fail)
  go_must (refine HKey.out.mono ?_)
  rintro e w0 ⟨rfl, rfl⟩
  go_wp2_with (fail)
  go_must (refine HW.out.mono ?_)
  rintro e w1 ⟨k, hk, rfl, hb⟩
  simp only [List.cons_append, List.nil_append]
  have hk3 : (k != 0) = true := by simpa using hk
  have HB := Lib.hid hb
  clear hb
  go_wp2_with (fail)
  refine bodyPost_ret (v := .tuple #[.int .i64 0, .int .i64 k]) (by simp [results, Tryz.results30, go_sem]) rfl ?_
  exact ⟨k, hk, rfl, HB.out⟩

/-- The work that a put begins with. -/
theorem work_new {w w1 : World} (lid : Int) (h : PgOk w p c most M cnt) (hb1 : Below w.heap.size w w1) :
    WkOk ((w1.alloc (.cells #[.int .i64 lid] 3)).alloc (.cells #[ptrV p, .slice none 0 0, .slice (some ⟨w1.heap.size, 0, none⟩) 1 1] 139)) p ⟨c, w1.heap.size + 1, .slice none 0 0, .slice (some ⟨w1.heap.size, 0, none⟩) 1 1⟩ most M cnt [] [lid] := by
  have hz1 := hb1.size
  have hz0 := h.lt
  have hb12 : Below w1.heap.size w1 ((w1.alloc (.cells #[.int .i64 lid] 3)).alloc (.cells #[ptrV p, .slice none 0 0, .slice (some ⟨w1.heap.size, 0, none⟩) 1 1] 139)) := ((Below.refl _ w1).alloc (Nat.le_refl _) _).alloc (by simp) _
  refine ⟨(h.below hb1).below hb12, ?_, (fun e => by have h5 := hz0 (w1.heap.size + 1) e; omega), World.ownsRow_nil _ _ _ _, ?_, (fun j hj => by cases hj), (fun j hj e => ?_), (fun j hj => by cases hj)⟩
  · exact Blk.new' (by simp)
  · exact own_below (own_base (own_of (heap_alloc_new w1 _) (Nat.le_refl _) (Nat.le_refl _) (by unfold maxLen; omega) rfl rfl (fun j hj => by
      match j with
      | 0 => rfl
      | j + 1 => omega)) (Nat.zero_le _)) ((Below.refl _ _).alloc (Nat.le_refl _) _)
  · simp only [Value.ownBlock, Option.some.injEq] at hj
    have := hz0 _ e
    omega

set_option maxHeartbeats 4000000 in
set_option maxRecDepth 100000 in
/-- What was there of the key has no chain. -/
theorem put_old_err (id : Int) (key v : Bytes) (items : List Item) (it : Item) (w : World) (h : PgOk w p c most M cnt) (hm : M id = some ⟨2, 0, layI items⟩) (hr : riseI items = true) (hs : (layI items).length ≤ 240) (hk1 : 1 ≤ key.length) (hk2 : key.length ≤ 40) (hv : v.length ≤ 2000)
    (hk : isAt key items = true) (hit : items[ahead key items]? = some it) (ho : it.over ≠ 0) (hM : NoChain M it.over) (hs1 : 61 ≤ it.size) (hs2 : it.size ≤ 2000) :
    Calls Tryz.prog 30 #[ptrV p, .int .i64 id, strV key, strV v] w (ErrP [.int .i64 0] w) := by
  have hnv2 : ¬ (2000 : Int) < (v.length : Int) := by omega
  have HKey := Lib.hid (isKey_good key w hk1 hk2)
  have HWay := Lib.hid (way_ok id key [] id items w h (.leaf hm hr hs (.inr rfl) (by decide)))
  have hil : items.length ≤ 240 := by have := layI_ge items; omega
  have HL := Lib.hid (And.intro h (And.intro hr (And.intro hk (And.intro hit (And.intro ho hM)))))
  clear h hm hr hk hit ho hM
  go_enter Tryz.func30, Tryz.ntmps30
  go_wp2_with (fail)
  go_must (refine HKey.out.mono ?_)
  rintro e w0 ⟨rfl, rfl⟩
  go_wp2_with (fail)
  go_must (refine HWay.out.mono ?_)
  rintro e w1 ⟨pv, st, vi, rfl, hstp, hgh, hsteps, hIt, hb1⟩
  obtain ⟨Ap, cp, rfl, -⟩ := Sl.of_own hstp
  unfold OwnsI at hIt
  obtain ⟨Ai, ci, rfl, -⟩ := Sl.of_own hIt
  have hwk := work_new id HL.out.1 hb1
  have hb12 : Below w1.heap.size w1 ((w1.alloc (.cells #[.int .i64 id] 3)).alloc (.cells #[ptrV p, .slice none 0 0, .slice (some ⟨w1.heap.size, 0, none⟩) 1 1] 139)) := ((Below.refl _ w1).alloc (Nat.le_refl _) _).alloc (by simp) _
  have HOld := Lib.hid (old_bad Ai items.length ci items key it _ hwk (Sl.of_own (own_below hIt hb12)) (by omega) HL.out.2.1 HL.out.2.2.1 HL.out.2.2.2.1 HL.out.2.2.2.2.1 HL.out.2.2.2.2.2 hs1 hs2 (by simp))
  have HB1 := Lib.hid (And.intro hb1 hb12)
  clear hstp hgh hsteps hIt hb1 hwk hb12
  go_wp2_with (fail)
  go_must (refine HOld.out.mono ?_)
  rintro e w3 ⟨k, hkn, rfl, hK⟩
  have hk3 : (k != 0) = true := by simpa using hkn
  have HB : Hid (Below w.heap.size w w3) := by
    have hz1 := HB1.out.1.size
    refine (HB1.out.1.trans (HB1.out.2.mono hz1)).trans (hK.below (by simp; omega) fun i hi e => ?_)
    rcases e with e | e
    · omega
    · simp only [Value.ownBlock, Option.some.injEq] at e; omega
  clear hK
  go_wp2_with (fail)
  refine bodyPost_ret (v := .tuple #[.int .i64 0, .int .i64 k]) (by simp [results, Tryz.results30, go_sem]) rfl ?_
  exact ⟨k, hkn, rfl, HB.out⟩
end
end Go.Ev

set_option linter.unusedVariables false
set_option linter.unusedSimpArgs false
namespace Go.Ev
open Go.Proofs Go.RowKit

section
variable {p most cnt : Nat} {c : Pc} {M : Store}

set_option maxHeartbeats 4000000 in
set_option maxRecDepth 100000 in
theorem put_leaf (id : Int) (key v : Bytes) (items : List Item) (w : World) (h : PgOk w p c most M cnt) (hm : M id = some ⟨2, 0, layI items⟩) (hr : riseI items = true) (hs : (layI items).length ≤ 240) (hk1 : 1 ≤ key.length) (hk2 : key.length ≤ 40) (hv : v.length ≤ 60) (hroom : cnt + 10 ≤ most)
    (hold : isAt key items = false ∨ ∃ it, items[ahead key items]? = some it ∧ it.over = 0) :
    Calls Tryz.prog 30 #[ptrV p, .int .i64 id, strV key, strV v] w fun e w' => ∃ root : Int, root ≠ 0 ∧ e = .returned (.tuple #[.int .i64 root, .int .i64 0]) ∧ Keeps (c.S p) w w' := by
  have hnv2 : ¬ (2000 : Int) < (v.length : Int) := by omega
  have HKey := Lib.hid (isKey_good key w hk1 hk2)
  have HWay := Lib.hid (way_ok id key [] id items w h (.leaf hm hr hs (.inr rfl) (by decide)))
  have hil : items.length ≤ 240 := by have := layI_ge items; omega
  have hitr : (⟨key, v, 0, 0⟩ : Item).right = true := by
    unfold Item.right inB
    simp only [if_true, Bool.and_eq_true, decide_eq_true_eq]
    exact ⟨⟨by omega, by omega⟩, trivial, hv⟩
  have hfI := setI_fit hr hs hitr
  have hid : M id ≠ none := by rw [hm]; simp
  have HL := Lib.hid (And.intro h (And.intro hr (And.intro hold (And.intro hfI (And.intro hid hs)))))
  have hz0 := h.lt
  have HZ := Lib.hid hz0
  clear h hm hr hold hfI hitr hid hz0
  go_enter Tryz.func30, Tryz.ntmps30
  go_wp2_with (fail)
  go_must (refine HKey.out.mono ?_)
  rintro e w0 ⟨rfl, rfl⟩
  go_wp2_with (fail)
  go_must (refine HWay.out.mono ?_)
  rintro e w1 ⟨pv, st, vi, rfl, hstp, hgh, hsteps, hIt, hb1⟩
  obtain rfl : st = [] := by simpa using hgh
  obtain ⟨Ap, cp, rfl, -⟩ := Sl.of_own hstp
  unfold OwnsI at hIt
  obtain ⟨Ai, ci, rfl, -⟩ := Sl.of_own hIt
  have hz0 := HZ.out
  have hz1 := hb1.size
  obtain ⟨W2, hW2e⟩ : ∃ W2, W2 = (w1.alloc (.cells #[.int .i64 id] 3)).alloc (.cells #[ptrV p, .slice none 0 0, .slice (some ⟨w1.heap.size, 0, none⟩) 1 1] 139) := ⟨_, rfl⟩
  have hb12 : Below w1.heap.size w1 W2 := by rw [hW2e]; exact ((Below.refl _ w1).alloc (Nat.le_refl _) _).alloc (by simp) _
  have hz2 : W2.heap.size = w1.heap.size + 2 := by rw [hW2e]; simp
  have hwk : WkOk W2 p ⟨c, w1.heap.size + 1, .slice none 0 0, .slice (some ⟨w1.heap.size, 0, none⟩) 1 1⟩ most M cnt [] [id] := by rw [hW2e]; exact work_new id HL.out.1 hb1
  have htrk : Trk c p w1.heap.size w1 W2 ⟨c, w1.heap.size + 1, .slice none 0 0, .slice (some ⟨w1.heap.size, 0, none⟩) 1 1⟩ := by
    refine ⟨Keeps.of_below hb12, ?_, by omega, rfl, rfl, rfl⟩
    rintro j (e | e | e | e)
    · exact .inl e
    · simp only at e; exact .inr (by omega)
    · cases e
    · simp only [Value.ownBlock, Option.some.injEq] at e
      exact .inr (by omega)
  have hits : ∀ (W : World) (x : Wc), Trk c p w1.heap.size w1 W x → Sl W 4 (.slice Ai items.length ci) items.length (itemsCs items) := fun W x ht =>
    Sl.of_own (own_keeps hIt ht.keeps fun j hj e => by
      have := hIt.lt j hj
      rcases e with e | e
      · have := hz0 j e; omega
      · omega)
  have HOld := Lib.hid (old_none (x := ⟨c, w1.heap.size + 1, .slice none 0 0, .slice (some ⟨w1.heap.size, 0, none⟩) 1 1⟩) Ai items.length ci items key W2 (hits _ _ htrk) (by omega) HL.out.2.1 HL.out.2.2.1)
  have HIt := Lib.hid hits
  have HTrk := Lib.hid (And.intro hwk htrk)
  have HS := Lib.hid (And.intro hstp (And.intro hIt hb1))
  have HW2e := Lib.hid hW2e
  clear hstp hgh hsteps hIt hb1 hwk htrk hits hb12 hW2e hz0
  go_wp2_with (fail)
  rw [← HW2e.out]
  go_must (refine HOld.out.mono ?_)
  rintro e w3 ⟨rfl, hb3⟩
  have HT3 := Lib.hid (And.intro (HTrk.out.1.below hb3) (HTrk.out.2.below hb3))
  have HItem := Lib.hid (item_small (x := ⟨c, w1.heap.size + 1, .slice none 0 0, .slice (some ⟨w1.heap.size, 0, none⟩) 1 1⟩) key v w3 hv)
  clear hb3
  go_wp2_with (fail)
  go_must (refine HItem.out.mono ?_)
  rintro e w4 ⟨rfl, hb4⟩
  have HT4 := Lib.hid (And.intro (HT3.out.1.below hb4) (HT3.out.2.below hb4))
  have hbo : Below w4.heap.size w4 (w4.alloc (.cells #[strV key, strV v, .int .i64 0, .int .i64 0] 107)) := (Below.refl _ w4).alloc (Nat.le_refl _) _
  have htrk5 := HT4.out.2.below hbo
  have HSet := Lib.hid (setI_any Ai items.length ci items ⟨key, v, 0, 0⟩ _ (HIt.out _ _ htrk5) (by omega) HL.out.2.1)
  have hnS : (setI items ⟨key, v, 0, 0⟩).length ≤ items.length + 1 := by
    unfold setI
    simp only [List.length_append, List.length_cons, List.length_take, List.length_drop]
    have := ahead_le key items
    split <;> omega
  have bn : Blk (w4.alloc (.cells #[strV key, strV v, .int .i64 0, .int .i64 0] 107)) w4.heap.size 107 #[strV key, strV v, .int .i64 0, .int .i64 0] := Blk.new _ _ _
  have b0 : (w4.alloc (.cells #[strV key, strV v, .int .i64 0, .int .i64 0] 107)).cell? ⟨w4.heap.size, 0, none⟩ = some (strV key) := bn.cell 0
  have b1 : (w4.alloc (.cells #[strV key, strV v, .int .i64 0, .int .i64 0] 107)).cell? ⟨w4.heap.size, 1, none⟩ = some (strV v) := bn.cell 1
  have b2 : (w4.alloc (.cells #[strV key, strV v, .int .i64 0, .int .i64 0] 107)).cell? ⟨w4.heap.size, 2, none⟩ = some (.int .i64 0) := bn.cell 2
  have b3 : (w4.alloc (.cells #[strV key, strV v, .int .i64 0, .int .i64 0] 107)).cell? ⟨w4.heap.size, 3, none⟩ = some (.int .i64 0) := bn.cell 3
  clear hb4 hbo htrk5 bn
  go_wp2_with (fail)
  go_must (refine HSet.out.mono ?_)
  rintro e w5 ⟨v5, rfl, own5, hb5⟩
  obtain ⟨A5, c5, rfl, -⟩ := Sl.of_own own5
  have hb45 : Below w4.heap.size w4 w5 := ((Below.refl _ w4).alloc (Nat.le_refl _) _).trans (hb5.mono (by simp))
  have HLv := Lib.hid (leaves_any A5 (setI items ⟨key, v, 0, 0⟩).length c5 (setI items ⟨key, v, 0, 0⟩) (HT4.out.1.below hb45) (Sl.of_own own5) HL.out.2.2.2.1 (by omega) (by omega) (by simp))
  have HT5 := Lib.hid (HT4.out.2.below hb45)
  clear hb45 hb5 own5 b0 b1 b2 b3
  go_wp2_with (fail)
  go_must (refine HLv.out.mono ?_)
  rintro e w6 ⟨kids, M1, new1, x3, kv, rfl, hLd, ownk, nsk, hw3, hk3'⟩
  have htrk := HT5.out.step hk3'
  have hx3b := hk3'.same
  simp only at hx3b
  obtain ⟨hkf, hfp, hgr, hn2⟩ := leaf_kids hLd HL.out.2.2.2.1
  unfold OwnsC at ownk
  obtain ⟨Ak, ck, rfl, -⟩ := Sl.of_own ownk
  have hz0 := HZ.out
  have hb1 := HS.out.2.2
  have hkeep : ∀ j, w.heap.size ≤ j → j < w1.heap.size → ¬ (c.S p j ∨ w1.heap.size ≤ j) := fun j h1 h2 e => by
    rcases e with e | e
    · have := hz0 j e; omega
    · omega
  have hst6 := own_base (own_keeps HS.out.1 htrk.keeps fun j hj => hkeep j (HS.out.1.lt j hj).1 (HS.out.1.lt j hj).2) (Nat.zero_le _)
  have hx3n : ∀ j, w.heap.size ≤ j → j < w1.heap.size → ¬ x3.S p j := fun j h1 h2 e => hkeep j h1 h2 (htrk.sub j e)
  have hUp := up_ok Ap Ak cp ck [] kids w6 hw3 hst6 (own_base ownk (Nat.zero_le _)) (by simp) (fun s hs => by simp at hs) nsk (fun j hj => hx3n j (HS.out.1.lt j hj).1 (HS.out.1.lt j hj).2)
    (fun s hs => by simp at hs) (fun s hs => by simp at hs) (allFit_nil 2 M1 kids) (endFit_nil hkf hfp) hkf (by simp; omega) (by simp; omega) (by simp)
  rw [hx3b] at hUp
  have HUp := Lib.hid hUp
  have HA := Lib.hid (And.intro htrk (And.intro hkf (And.intro hgr (And.intro ownk hx3b))))
  clear hUp htrk hkf hfp hgr nsk hLd hw3 hk3' hb1 hz0 hkeep hst6 hx3n ownk hx3b hn2
  go_wp2_with (fail)
  go_must (refine HUp.out.mono ?_)
  rintro e w7 ⟨root', M', new, x4, rfl, hUE, hw4, hkk, hfr⟩
  obtain ⟨htrk, hkf, hgr, ownk, hx3b⟩ := HA.out
  obtain ⟨hroot, hgr2, _⟩ := upEnd_nil hkf hUE
  have hb1 := HS.out.2.2
  have hgg := hgr.trans hgr2
  have hidn : id ∉ new1 ++ new := fun hh => HL.out.2.2.2.2.1 (hgg.fresh id hh)
  have hM' : (M' id).isSome = true := by
    rw [hgg.same id hidn]
    cases hq : M id with
    | none => exact absurd hq HL.out.2.2.2.2.1
    | some y => rfl
  simp only [List.map_nil, List.reverse_nil, List.append_nil] at hw4
  have hEnd := end_ok hw4 (by simp) (fun i hi => by rw [List.mem_singleton.1 hi]; exact hM') (by simp)
  rw [hkk.same, hx3b] at hEnd
  have hkeepW : Keeps (c.S p) w w7 := by
    refine ((Keeps.of_below (S := c.S p) hb1).trans htrk.keeps fun i hi e => ?_).trans hfr fun i hi e => ?_
    · rcases e with e | e
      · exact e
      · have := hb1.size; omega
    · rcases e with e | e
      · rcases htrk.sub i e with e | e
        · exact e
        · have := hb1.size; omega
      · have := (ownk.lt i e).1
        have := HT5.out.size
        have := htrk.size
        have := hb1.size
        omega
  have hsubW : ∀ j, x4.S p j → c.S p j ∨ w.heap.size ≤ j := fun j e => by
    have h5 := hb1.size
    have h6 := htrk.size
    rcases hkk.sub j e with e | e
    · rcases htrk.sub j e with e | e
      · exact .inl e
      · exact .inr (by omega)
    · exact .inr (by omega)
  have HEnd := Lib.hid hEnd
  have HF := Lib.hid (And.intro hkeepW (And.intro hsubW hroot))
  clear hEnd hkeepW hsubW hroot hgr2 hgg hidn hM' hw4 hkk hfr hUE htrk hkf hgr ownk hx3b hb1
  go_wp2_with (fail)
  go_must (refine HEnd.out.mono ?_)
  rintro e w8 ⟨rfl, c'', hpg8, hk8⟩
  have HE : Hid (Keeps (c.S p) w w8) := HF.out.1.trans hk8.keeps fun i hi e => by
    rcases HF.out.2.1 i (.inl e) with e | e
    · exact e
    · omega
  have hr0 : root' ≠ 0 := by have := HF.out.2.2; omega
  clear hpg8 hk8
  go_wp2_with (fail)
  refine bodyPost_ret (v := .tuple #[.int .i64 root', .int .i64 0]) (by simp [results, Tryz.results30, go_sem]) rfl ?_
  exact ⟨root', hr0, rfl, HE.out⟩
end
end Go.Ev

set_option linter.unusedVariables false
set_option linter.unusedSimpArgs false
namespace Go.Ev
open Go.Proofs Go.RowKit

section
variable {p most : Nat} {c : Pc}

def PutAnyP (c : Pc) (p : Nat) (w : World) (e : Ending) (w' : World) : Prop :=
  (∃ root : Int, root ≠ 0 ∧ e = .returned (.tuple #[.int .i64 root, .int .i64 0]) ∧ Keeps (c.S p) w w') ∨ ErrP [.int .i64 0] w e w'

theorem putOf_any (x : Pg) (id : Int) (key v : Bytes) (w : World) (h : PgOk w p c most (updS (fun _ => none) id (some x)) 1) (hx : x.ok) (hk1 : 1 ≤ key.length) (hk2 : key.length ≤ 40) (hv : v.length ≤ 60) (hroom : 11 ≤ most) :
    Calls Tryz.prog 30 #[ptrV p, .int .i64 id, strV key, strV v] w (PutAnyP c p w) := by
  obtain ⟨_, _, _, _, hb⟩ := hx
  have hm : updS (fun _ => none) id (some x) id = some x := by unfold updS; rw [if_pos rfl]
  have hno : ∀ i, i ≠ id → updS (fun _ => none) id (some x) i = none := fun i hi => by unfold updS; rw [if_neg hi]
  have err : ∀ {e w'}, ErrP [.int .i64 0] w e w' → PutAnyP c p w e w' := fun h => .inr h
  have lift := fun (hL : ∀ W, Below w.heap.size w W → Calls Tryz.prog 128 #[ptrV p, .int .i64 id, .int .i64 ((0 : Nat) : Int)] W (ErrP [node0] W)) =>
    (put_way_err id key v w hk1 hk2 (by omega) (way_err id key w hL)).mono fun e w' hh => (show PutAnyP c p w e w' from .inr hh)
  by_cases hbad : NodeBad x
  · exact lift fun W hW => load_badA id 0 x hbad (by omega) W (h.below hW) hm (by decide)
  · obtain ⟨kind, next, body⟩ := x
    have hk : kind = 2 ∨ kind = 3 := by
      by_cases h2 : kind = 2
      · exact .inl h2
      · by_cases h3 : kind = 3
        · exact .inr h3
        · exact absurd (.inl ⟨h2, h3⟩) hbad
    rcases hk with rfl | rfl
    · have hg : (getI body).2 = 0 := by
        by_cases hg : (getI body).2 = 0
        · exact hg
        · exact absurd (.inr (.inl ⟨rfl, hg⟩)) hbad
      obtain ⟨r1, r2, r3⟩ := getI_right hg
      obtain ⟨items, hi⟩ : ∃ items, (getI body).1 = items := ⟨_, rfl⟩
      rw [hi] at r1 r2
      subst r2
      by_cases hn : next = 0
      · subst hn
        cases hat : isAt key items with
        | false => exact (put_leaf id key v items w h hm r1 r3 hk1 hk2 hv (by omega) (.inl hat)).mono fun e w' hh => .inl hh
        | true =>
          obtain ⟨it, hit, hik⟩ := isAt_iff.1 hat
          by_cases ho : it.over = 0
          · exact (put_leaf id key v items w h hm r1 r3 hk1 hk2 hv (by omega) (.inr ⟨it, hit, ho⟩)).mono fun e w' hh => .inl hh
          · have hright := riseI_right r1 it (List.mem_of_getElem? hit)
            unfold Item.right inB at hright
            simp only [ho, if_false, Bool.and_eq_true, decide_eq_true_eq] at hright
            refine (put_old_err id key v items it w h hm r1 r3 hk1 hk2 (by omega) hat hit ho ?_ (by omega) (by omega)).mono fun e w' hh => .inr hh
            by_cases hid : it.over = id
            · exact .inr ⟨_, by rw [hid]; exact hm, by show (2 : Int) ≠ 4; decide⟩
            · exact .inl (hno _ hid)
      · exact lift fun W hW => load_badL id 0 next items r1 r3 hn W (h.below hW) hm (by decide)
    · have hg : (getC body).2 = 0 := by
        by_cases hg : (getC body).2 = 0
        · exact hg
        · exact absurd (.inr (.inr ⟨rfl, hg⟩)) hbad
      obtain ⟨r1, r2, r3⟩ := getC_right hg
      obtain ⟨L, hi⟩ : ∃ L, (getC body).1 = L := ⟨_, rfl⟩
      rw [hi] at r1 r2
      subst r2
      by_cases hn : next = 0
      · subst hn
        by_cases h2 : 2 ≤ L.length
        · have hlt : findC key L < L.length := by
            cases L with
            | nil => simp at h2
            | cons a b => exact findC_lt
          refine (put_way_err id key v w hk1 hk2 (by omega) (way_loop id key L L[findC key L] w h hm r1 r3 h2 (List.getElem?_eq_getElem hlt) ?_)).mono fun e w' hh => .inr hh
          by_cases hid : L[findC key L].page = id
          · exact .inl hid
          · exact .inr (hno _ hid)
        · exact lift fun W hW => load_badC id 0 rfl L r1 r3 (by omega) W (h.below hW) hm (by decide)
      · exact lift fun W hW => load_badB id 0 next L r1 r3 hn W (h.below hW) hm (by decide)
end
end Go.Ev

set_option linter.unusedVariables false
set_option linter.unusedSimpArgs false
namespace Go.Ev
open Go.Proofs Go.RowKit

section
variable {p most cnt : Nat} {c : Pc} {M : Store}

def GetTP (key : Bytes) (all : List Pair) (w : World) (e : Ending) (w' : World) : Prop :=
  ((isAtP key all = true ∧ ∃ v, all[aheadP key all]? = some (key, v) ∧ e = .returned (.tuple #[strV v, .int .i64 0])) ∨ (isAtP key all = false ∧ e = .returned (.tuple #[strV [], .int .i64 7]))) ∧ Below w.heap.size w w'

set_option maxHeartbeats 4000000 in
set_option maxRecDepth 100000 in
theorem treeGet_ok (root : Int) (key : Bytes) (all : List Pair) (w : World) (h : PgOk w p c most M cnt) (ht : TreeOk M root all cnt) (hlen : all.length ≤ 511) (hk1 : 1 ≤ key.length) (hk2 : key.length ≤ 40) :
    Calls Tryz.prog 25 #[ptrV p, .int .i64 root, strV key] w (GetTP key all w) := by
  obtain ⟨⟨k, ids, hT, hnd, rfl⟩, hsh⟩ := ht
  obtain ⟨hb1, hb2⟩ := tree_bound hsh hT (Nat.le_refl _)
  have hk8 := high_bound hb2 hlen
  obtain ⟨P, lid, items, hway, hPl⟩ := hT.way (lev := 0) key (.inl (by omega)) (by omega) (.inr rfl)
  obtain ⟨lo', hi', ps', off', path', i2, hz, hin, hla, hri, hli⟩ := hway.trail.zip (.root hT) ⟨lessB_nil _, fun u hu => by cases hu⟩
  obtain ⟨hat, hval⟩ := leaf_find hz hla hin
  have hil : items.length ≤ 240 := by have := layI_ge items; omega
  have hkey := isKey_any key w (by omega)
  have e1 : decide (1 ≤ key.length) = true := by simpa using hk1
  have e2 : decide (key.length ≤ 40) = true := by simpa using hk2
  rw [e1, e2] at hkey
  have HKey := Lib.hid hkey
  have HWay := Lib.hid (way_ok root key P lid items w h hway)
  have HA := Lib.hid (And.intro h (And.intro hsh (And.intro hri hval)))
  have hale := ahead_le key items
  have HAt := Lib.hid hat
  clear hkey e1 e2 hT hnd hsh h hway hb2 hz hla hin hri hli hval hat hk1 hk2
  go_enter Tryz.func25, Tryz.ntmps25
  go_wp2_with (fail)
  go_must (refine HKey.out.mono ?_)
  rintro e w0 ⟨rfl, rfl⟩
  go_wp2_with (fail)
  go_must (refine HWay.out.mono ?_)
  rintro e w1 ⟨pv, st, vi, rfl, hstp, hgh, hsteps, hIt, hb1⟩
  obtain ⟨Ap, cp, rfl, _⟩ := Sl.of_own hstp
  unfold OwnsI at hIt
  obtain ⟨Ai, ci, rfl, _⟩ := Sl.of_own hIt
  obtain ⟨h, hsh, hri, hval⟩ := HA.out
  have hF := findI_any Ai items.length ci items key w1 (Sl.of_own hIt) (by omega) hri
  have HF := Lib.hid hF
  have HI := Lib.hid (And.intro hIt hb1)
  clear hstp hgh hsteps hIt hb1 hF h hsh hri hval
  go_wp2_with (fail)
  go_must (refine HF.out.mono ?_)
  rintro e w2 ⟨rfl, hb2⟩
  obtain ⟨h, hsh, hri, hval⟩ := HA.out
  obtain ⟨hIt, hb1⟩ := HI.out
  have hb02 := hb1.trans (hb2.mono hb1.size)
  have HB := Lib.hid hb02
  cases hc : isAt key items with
  | false =>
    have hat := HAt.out
    rw [hc] at hat
    have HAt2 := Lib.hid hat
    clear h hsh hri hval hIt hb1 hb2 hb02 hat
    go_wp2_with (fail)
    refine bodyPost_ret (v := .tuple #[strV [], .int .i64 7]) (by simp [results, Tryz.results25, go_sem]) rfl ?_
    exact ⟨.inr ⟨HAt2.out, rfl⟩, HB.out⟩
  | true =>
    have hat := HAt.out
    rw [hc] at hat
    have hlt : ahead key items < items.length := by
      obtain ⟨x, hx, _⟩ := isAt_iff.1 hc
      exact (List.getElem?_eq_some_iff.1 hx).1
    obtain ⟨v, vids, hq, hv⟩ := hval hlt hc
    have hsv : v.length ≤ 2000 := hsh _ (List.mem_of_getElem? hq)
    obtain ⟨it, hit⟩ : ∃ it, it = items[ahead key items]'hlt := ⟨_, rfl⟩
    rw [← hit] at hv
    have hIt2 := own_below hIt hb2
    obtain ⟨_, _, e0, _, _, hcl⟩ := Sl.of_own hIt2
    cases e0
    obtain ⟨blk, o, rfl, hbl, hcell⟩ := hcl (by omega)
    obtain ⟨i0, i2', i1, i3⟩ := item_4 (w := w2) fun i u hu => item_cells (n := items.length) hcell hlt i u hu
    rw [← hit] at i0 i2' i1 i3
    have hids : vids.length ≤ 2000 := Nat.le_trans (val_len hv hsv) (by omega)
    have hV : ∀ W, Below w2.heap.size w2 W → Calls Tryz.prog 49 #[ptrV p, .agg #[strV it.key, strV it.val, .int .i64 it.over, .int .i64 it.size]] W fun e w' => e = .returned (.tuple #[strV v, .int .i64 0]) ∧ Below W.heap.size W w' := fun W hW => value_ok it v vids W ((h.below hb02).below hW) hv hsv hids
    have HV := Lib.hid hV
    have HQ := Lib.hid (And.intro hat hq)
    have hj0 : (0 : Int) ≤ ((ahead key items : Nat) : Int) := by omega
    have hj1 : ((ahead key items : Nat) : Int) < (items.length : Int) := by omega
    clear h hsh hri hval hIt hb1 hb2 hb02 hat hq hv hsv hIt2 hcl hcell hids hV
    clear hit
    generalize ahead key items = j at *
    obtain ⟨ik, iv, io, isz⟩ := it
    simp only at i0 i1 i2' i3
    go_wp2_with (fail)
    go_must (refine (HV.out _ (Below.refl _ _)).mono ?_)
    rintro e w3 ⟨rfl, hb3⟩
    go_wp2_with (fail)
    refine bodyPost_ret (v := .tuple #[strV v, .int .i64 0]) (by simp [results, Tryz.results25, go_sem]) rfl ?_
    exact ⟨.inl ⟨HQ.out.1, v, HQ.out.2, rfl⟩, HB.out.trans (hb3.mono HB.out.size)⟩
end
end Go.Ev

set_option linter.unusedVariables false
set_option linter.unusedSimpArgs false
namespace Go.Ev
open Go.Proofs Go.RowKit

theorem treePut_bad (p : Nat) (root : Int) (key v : Bytes) (w : World) (hk : key.length ≤ 9223372036854775807) (hv : v.length ≤ 9223372036854775807) (hbad : ¬ (1 ≤ key.length ∧ key.length ≤ 40 ∧ v.length ≤ 2000)) :
    Calls Tryz.prog 30 #[ptrV p, .int .i64 root, strV key, strV v] w fun e w' => e = .returned (.tuple #[.int .i64 0, .int .i64 1]) ∧ w = w' := by
  have hG := isKey_any key w hk
  obtain ⟨m, hm⟩ : ∃ m, v.length = m := ⟨_, rfl⟩
  rw [hm] at hbad hv
  by_cases hg : 1 ≤ key.length ∧ key.length ≤ 40
  · have e1 : decide (1 ≤ key.length) = true := by simpa using hg.1
    have e2 : decide (key.length ≤ 40) = true := by simpa using hg.2
    rw [e1, e2] at hG
    have h2 : (2000 : Int) < (m : Int) := by omega
    have HG := Lib.hid hG
    clear hG e1 e2
    go_enter Tryz.func30, Tryz.ntmps30
    go_wp2_with (fail)
    go_must (refine HG.out.mono ?_)
    rintro e w1 ⟨rfl, rfl⟩
    go_wp2_with (fail)
    refine bodyPost_ret (v := .tuple #[.int .i64 0, .int .i64 1]) (by simp [results, Tryz.results30, go_sem]) rfl ?_
    exact ⟨rfl, rfl⟩
  · have e1 : (decide (1 ≤ key.length) && decide (key.length ≤ 40)) = false := by
      rw [Bool.and_eq_false_iff]
      simp only [decide_eq_false_iff_not]
      omega
    rw [e1] at hG
    have HG := Lib.hid hG
    clear hG e1
    go_enter Tryz.func30, Tryz.ntmps30
    go_wp2_with (fail)
    go_must (refine HG.out.mono ?_)
    rintro e w1 ⟨rfl, rfl⟩
    go_wp2_with (fail)
    refine bodyPost_ret (v := .tuple #[.int .i64 0, .int .i64 1]) (by simp [results, Tryz.results30, go_sem]) rfl ?_
    exact ⟨rfl, rfl⟩

theorem treeOk_new (root : Int) : TreeOk (updS (fun _ => none) root (some ⟨2, 0, []⟩)) root [] 1 := by
  refine ⟨⟨0, [root], ⟨[], [], by simp [updS, layI], rfl, by simp [layI], ⟨rfl, rfl⟩, rfl, fun q hq => by cases hq⟩, by simp, rfl⟩, fun q hq => by cases hq⟩

def kvs (ops : List OpL) : List (Bytes × Bytes) := ops.map fun o => (o.key, o.val)

/-- A pager, a tree, and the document's pairs in a row. -/
structure Gr (B p : Nat) (t : List Pair) (root : Int) (x : Value) (W : World) : Prop where
  ex : ∃ c M cnt, PgOk W p c 3000 M cnt ∧ TreeOk M root t cnt ∧ (∀ k, c.S p k → B ≤ k) ∧ (∀ k, x.ownBlock = some k → ¬ c.S p k)
  own : W.ownsRow B 44 2 x t.length (pairsCs t)
  size : B ≤ W.heap.size

theorem Gr.below {B p : Nat} {t : List Pair} {root : Int} {x : Value} {W W' : World} (h : Gr B p t root x W) (hb : Below W.heap.size W W') : Gr B p t root x W' := by
  obtain ⟨c, M, cnt, h1, h2, h3, h4⟩ := h.ex
  exact ⟨⟨c, M, cnt, h1.below hb, h2, h3, h4⟩, own_below h.own hb, Nat.le_trans h.size hb.size⟩

/-- A pair put in, here and there. -/
theorem Gr.put {B p : Nat} {t : List Pair} {u : Value} {wr w1 w2 : World} {key v : Bytes} {e : Ending} {c : Pc} {M : Store} {cnt : Nat} (hB : B ≤ wr.heap.size) (hc : PgOk wr p c 3000 M cnt) (hS : ∀ k, c.S p k → B ≤ k)
    (hb : Below wr.heap.size wr w1) (hu : w1.ownsRow wr.heap.size 44 2 u (insP key v t).length (pairsCs (insP key v t))) (hp : PutTP p c 3000 t key v w1.drew e w2) :
    ∃ r, e = .returned (.tuple #[.int .i64 r, .int .i64 0]) ∧ Gr B p (insP key v t) r u w2 ∧ Below B wr w2 := by
  obtain ⟨r, M', c', cnt', rfl, hT, hP, hK⟩ := hp
  have hz := hK.keeps.size
  have hz1 := hb.size
  have hlt := hc.lt
  have hzz : w1.drew.heap.size = w1.heap.size := rfl
  have hun : ∀ k, u.ownBlock = some k → ¬ c.S p k := fun k hk e => by
    have h1 := (hu.lt k hk).1
    have h2 := hlt k e
    omega
  have hu' : w1.drew.ownsRow wr.heap.size 44 2 u (insP key v t).length (pairsCs (insP key v t)) := hu
  refine ⟨r, rfl, ⟨⟨c', M', cnt', hP, hT, fun k hk => ?_, fun k hk e => ?_⟩, own_base (own_keeps hu' hK.keeps hun) hB, by omega⟩, ((hb.mono hB).drew).trans (hK.keeps.below (by omega) fun i hi e => by have := hS i e; omega)⟩
  · rcases hK.sub k hk with e | e
    · exact hS k e
    · omega
  · rcases hK.sub k e with e | e
    · exact hun k hk e
    · have := (hu.lt k hk).2; omega

def GrownP (ops : List OpL) (w : World) (e : Ending) (w' : World) : Prop :=
  ∃ p root x, e = .returned (.tuple #[ptrV p, .int .i64 root, x, .bool true]) ∧ Gr w.heap.size p (growP (kvs ops) []) root x w' ∧ Below w.heap.size w w'

theorem kvs_take {ops : List OpL} {i : Nat} (h : i < ops.length) (t : List Pair) : growP (kvs (ops.take (i + 1))) t = if goodKV ops[i].key ops[i].val then insP ops[i].key ops[i].val (growP (kvs (ops.take i)) t) else growP (kvs (ops.take i)) t := by
  have e : ops.take (i + 1) = ops.take i ++ [ops[i]] := (List.take_append_getElem h).symm
  rw [e]
  unfold kvs
  rw [List.map_append, growP_app]
  rfl

set_option maxHeartbeats 4000000 in
set_option maxRecDepth 100000 in
theorem grown_any (A : Option Addr) (n c : Nat) (ops : List OpL) (w : World) (h : OpsAt w (.slice A n c) ops) (hn : ops.length ≤ 250) :
    Calls Tryz.prog 10 #[.slice A n c] w (GrownP ops w) := by
  obtain ⟨hv, hml, hlen⟩ := h
  have hnn : n = ops.length := by obtain ⟨_, _, e, _⟩ := hv; cases e; rfl
  subst hnn
  have HLen := Lib.hid hlen
  have HV := Lib.hid hv
  clear hlen hml hv
  go_enter Tryz.func10, Tryz.ntmps10
  go_wp2_with (fail)
  go_must (refine (begin_any w).mono ?_)
  rintro e w1 ⟨d, f, p, pc, root, rfl, hp, hs, hb1⟩
  have hG1 : Gr w.heap.size p [] root (.slice none 0 0) w1 := ⟨⟨pc, _, 1, hp, treeOk_new root, hs, fun k hk => by cases hk⟩, World.ownsRow_nil _ _ _ _, hb1.size⟩
  have HG1 := Lib.hid hG1
  have HB1 := Lib.hid hb1
  clear hp hs hb1 hG1
  go_wp2_with (fail)
  go_loopg [9, 11, 12] ops.length (fun gk s9 s11 s12 wr => ∃ (r : Int) (i : Nat), s9 = .int .i64 r ∧ s12 = .int .i64 (i : Int) ∧ i + gk = ops.length ∧ Hid (Gr w.heap.size p (growP (kvs (ops.take i)) []) r s11 wr) ∧ Hid (Below w.heap.size w wr))
  case atStart => exact ⟨root, 0, rfl, rfl, by omega, HG1.out, HB1.out⟩
  case round =>
    obtain ⟨r, i, rfl, rfl, hi, hg, hbw⟩ := hrel
    by_cases h1 : i < ops.length
    · have h1' : (i : Int) < (ops.length : Int) := by omega
      have hi0 : (0 : Int) ≤ (i : Int) := by omega
      have hw1 : IntKind.i64.wrap ((i : Int) + 1) = (i : Int) + 1 := IntWalk.i64_in _ (by omega)
      obtain ⟨A', c', e0, _, _, hcl⟩ := HV.out.below hbw.out
      cases e0
      obtain ⟨blk, off, rfl, hbl, hcell⟩ := hcl (by omega)
      obtain ⟨_, p1, p2⟩ := opsCs_at ops i h1
      have x1 : wr.cell? ⟨blk, off + i * 3 + 1, none⟩ = _ := hcell _ _ p1
      have x2 : wr.cell? ⟨blk, off + i * 3 + 2, none⟩ = _ := hcell _ _ p2
      obtain ⟨m1, m2⟩ := HLen.out _ (List.getElem_mem h1)
      unfold maxLen at m1 m2
      have hst := kvs_take h1 []
      have hgl : (growP (kvs (ops.take i)) []).length ≤ i := by
        have := growP_len (kvs (ops.take i)) []
        simp only [kvs, List.length_map, List.length_take, List.length_nil] at this
        unfold kvs
        omega
      have hgg : GoodP (growP (kvs (ops.take i)) []) := growP_good fun q hq => by cases hq
      have HST := Lib.hid hst
      clear hst hcell hcl p1 p2
      generalize hk0 : ops[i].key = key at *
      generalize hv0 : ops[i].val = val at *
      generalize ht0 : growP (kvs (ops.take i)) [] = t at *
      obtain ⟨pc, M, cnt, hpg, hT, hS, hx⟩ := hg.out.ex
      have hown := hg.out.own
      have hsz := hg.out.size
      obtain ⟨X, cx, rfl, _⟩ := Sl.of_own hown
      clear hk0 hv0 ht0
      cases hgd : goodKV key val with
      | true =>
        obtain ⟨g1, g2, g3⟩ := goodKV_of hgd
        rw [hgd] at HST
        have hF := refPut_any _ _ t key val wr.drew hown (by omega) (fun q hq => by have := (goodKV_of (hgg q hq)).2.1; omega) g1 g2 g3
        have hP : ∀ W, Below wr.heap.size wr W → Calls Tryz.prog 30 #[ptrV p, .int .i64 r, strV key, strV val] W.drew (PutTP p pc 3000 t key val W.drew) := fun W hW =>
          treePut_ok r key val t 250 (hpg.below (hW.trans ((Below.refl _ W).drew.mono hW.size))) hT g1 g2 g3 (by omega) (by omega) (by omega)
        have hX : ∀ W, Below wr.heap.size wr W → W.cell? ⟨blk, off + i * 3 + 1, none⟩ = some (strV key) ∧ W.cell? ⟨blk, off + i * 3 + 2, none⟩ = some (strV val) := fun W hW => ⟨(hW.cell (p := ⟨blk, off + i * 3 + 1, none⟩) hbl).trans x1, (hW.cell (p := ⟨blk, off + i * 3 + 2, none⟩) hbl).trans x2⟩
        have HF := Lib.hid hF
        have HP := Lib.hid hP
        have HX := Lib.hid hX
        have HA := Lib.hid (And.intro hpg hS)
        clear hF hP hX hpg hT hS hx hown hgg hg hgl m1 m2 g1 g2 g3
        go_wp2_with (fail)
        refine wp_region_any (by kernel_rfl) ?_
        change wpAny _ _ _ _ _ _ _ (World.drew _)
        try simp only [Act.put, lT, l0, lS]
        refine tA 0 ?_; try simp only [Act.put, lT, l0, lS]
        refine tA 1 ?_; try simp only [Act.put, lT, l0, lS]
        refine tA 2 ?_; try simp only [Act.put, lT, l0, lS]
        refine tA 3 ?_; try simp only [Act.put, lT, l0, lS]
        refine tA 4 ?_; try simp only [Act.put, lT, l0, lS]
        refine tA 6 ?_; try simp only [Act.put, lT, l0, lS]
        refine tA 7 ?_; try simp only [Act.put, lT, l0, lS]
        refine tA 8 ?_; try simp only [Act.put, lT, l0, lS]
        refine tA 9 ?_; try simp only [Act.put, lT, l0, lS]
        try simp only [Act.put, lT, l0, lS]
        refine rA 5 (v := ?_) (hy := ?hy) ?_; case hy => (intro w hE; have q0 := hE.cell x1; go_simp; try with_reducible rfl)
        try simp only [Act.put, lT, l0, lS]
        try simp only [Act.put, lT, l0, lS]
        refine rA 10 (v := ?_) (hy := ?hy) ?_; case hy => (intro w hE; have q0 := hE.cell x2; go_simp; try with_reducible rfl)
        try simp only [Act.put, lT, l0, lS]
        refine rd 11 (by kernel_rfl) rfl (fun K hK => ?_); go_simp
        (go_must (refine HF.out.mono ?_); rintro e w2 ⟨u, rfl, hu, hb2⟩)
        go_simp
        refine hK _ _ ?_
        clear hK K
        refine rd 12 (by kernel_rfl) rfl (fun K hK => ?_); go_simp; refine hK _ _ ?_; clear hK K
        try simp only [Act.put, lT, l0, lS]
        refine tA 13 ?_; try simp only [Act.put, lT, l0, lS]
        refine tA 14 ?_; try simp only [Act.put, lT, l0, lS]
        refine rd 15 (by kernel_rfl) rfl (fun K hK => ?_); go_simp; refine hK _ _ ?_; clear hK K
        refine rd 16 (by kernel_rfl) rfl (fun K hK => ?_); go_simp; refine hK _ _ ?_; clear hK K
        refine wpAny_done (by kernel_rfl) ?_ _
        have hb2' : Below wr.heap.size wr w2 := ((Below.refl _ wr).drew).trans hb2
        obtain ⟨y1, y2⟩ := HX.out w2 hb2'
        have HP2 := Lib.hid (HP.out w2 hb2')
        have HU := Lib.hid hu
        have HB2 := Lib.hid hb2'
        clear hu hb2 hb2'
        go_wp2_with (fail)
        refine wp_region_any (by kernel_rfl) ?_
        change wpAny _ _ _ _ _ _ _ (World.drew _)
        try simp only [Act.put, lT, l0, lS]
        refine tA 0 ?_; try simp only [Act.put, lT, l0, lS]
        refine tA 1 ?_; try simp only [Act.put, lT, l0, lS]
        refine tA 2 ?_; try simp only [Act.put, lT, l0, lS]
        refine tA 3 ?_; try simp only [Act.put, lT, l0, lS]
        refine tA 4 ?_; try simp only [Act.put, lT, l0, lS]
        refine tA 5 ?_; try simp only [Act.put, lT, l0, lS]
        refine tA 7 ?_; try simp only [Act.put, lT, l0, lS]
        refine tA 8 ?_; try simp only [Act.put, lT, l0, lS]
        refine tA 9 ?_; try simp only [Act.put, lT, l0, lS]
        refine tA 10 ?_; try simp only [Act.put, lT, l0, lS]
        try simp only [Act.put, lT, l0, lS]
        refine rA 6 (v := ?_) (hy := ?hy) ?_; case hy => (intro w hE; have q0 := hE.cell y1; go_simp; try with_reducible rfl)
        try simp only [Act.put, lT, l0, lS]
        try simp only [Act.put, lT, l0, lS]
        refine rA 11 (v := ?_) (hy := ?hy) ?_; case hy => (intro w hE; have q0 := hE.cell y2; go_simp; try with_reducible rfl)
        try simp only [Act.put, lT, l0, lS]
        refine rd 12 (by kernel_rfl) rfl (fun K hK => ?_); go_simp
        (go_must (refine HP2.out.mono ?_); intro e w3 hput)
        obtain ⟨r', rfl, hG', hb3⟩ := Gr.put hsz HA.out.1 HA.out.2 HB2.out HU.out hput
        have HG' := Lib.hid hG'
        have HB3 := Lib.hid hb3
        clear hG' hb3 hput
        go_simp
        refine hK _ _ ?_
        clear hK K
        refine rd 13 (by kernel_rfl) rfl (fun K hK => ?_); go_simp; refine hK _ _ ?_; clear hK K
        try simp only [Act.put, lT, l0, lS]
        refine tA 14 ?_; try simp only [Act.put, lT, l0, lS]
        refine tA 15 ?_; try simp only [Act.put, lT, l0, lS]
        refine rd 16 (by kernel_rfl) rfl (fun K hK => ?_); go_simp; refine hK _ _ ?_; clear hK K
        refine rd 17 (by kernel_rfl) rfl (fun K hK => ?_); go_simp; refine hK _ _ ?_; clear hK K
        refine wpAny_done (by kernel_rfl) ?_ _
        go_wp2_with (fail)
        go_roundg (gk - 1)
        case measure => omega
        case rel => exact ⟨r', i + 1, rfl, by simp, by omega, by show Gr _ _ _ _ _ _; rw [HST.out]; exact HG'.out, hbw.out.trans HB3.out⟩
      | false =>
        have hnot := goodKV_not hgd
        rw [hgd] at HST
        have hF := refPut_bad X t.length cx key val wr.drew m1 m2 hnot
        have hP : ∀ W, Calls Tryz.prog 30 #[ptrV p, .int .i64 r, strV key, strV val] W _ := fun W => treePut_bad p r key val W m1 m2 hnot
        have hX : ∀ W, Below wr.heap.size wr W → W.cell? ⟨blk, off + i * 3 + 1, none⟩ = some (strV key) ∧ W.cell? ⟨blk, off + i * 3 + 2, none⟩ = some (strV val) := fun W hW => ⟨(hW.cell (p := ⟨blk, off + i * 3 + 1, none⟩) hbl).trans x1, (hW.cell (p := ⟨blk, off + i * 3 + 2, none⟩) hbl).trans x2⟩
        obtain ⟨y1, y2⟩ := hX wr.drew ((Below.refl _ wr).drew)
        have HF := Lib.hid hF
        have HP := Lib.hid hP
        clear hF hP hX hpg hT hS hx hown hgg hgl m1 m2
        go_wp2_with (fail)
        refine wp_region_any (by kernel_rfl) ?_
        change wpAny _ _ _ _ _ _ _ (World.drew _)
        try simp only [Act.put, lT, l0, lS]
        refine tA 0 ?_; try simp only [Act.put, lT, l0, lS]
        refine tA 1 ?_; try simp only [Act.put, lT, l0, lS]
        refine tA 2 ?_; try simp only [Act.put, lT, l0, lS]
        refine tA 3 ?_; try simp only [Act.put, lT, l0, lS]
        refine tA 4 ?_; try simp only [Act.put, lT, l0, lS]
        refine tA 6 ?_; try simp only [Act.put, lT, l0, lS]
        refine tA 7 ?_; try simp only [Act.put, lT, l0, lS]
        refine tA 8 ?_; try simp only [Act.put, lT, l0, lS]
        refine tA 9 ?_; try simp only [Act.put, lT, l0, lS]
        try simp only [Act.put, lT, l0, lS]
        refine rA 5 (v := ?_) (hy := ?hy) ?_; case hy => (intro w hE; have q0 := hE.cell x1; go_simp; try with_reducible rfl)
        try simp only [Act.put, lT, l0, lS]
        try simp only [Act.put, lT, l0, lS]
        refine rA 10 (v := ?_) (hy := ?hy) ?_; case hy => (intro w hE; have q0 := hE.cell x2; go_simp; try with_reducible rfl)
        try simp only [Act.put, lT, l0, lS]
        refine rd 11 (by kernel_rfl) rfl (fun K hK => ?_); go_simp
        (go_must (refine HF.out.mono ?_); rintro e w2 ⟨rfl, rfl⟩)
        go_simp
        refine hK _ _ ?_
        clear hK K
        refine rd 12 (by kernel_rfl) rfl (fun K hK => ?_); go_simp; refine hK _ _ ?_; clear hK K
        try simp only [Act.put, lT, l0, lS]
        refine tA 13 ?_; try simp only [Act.put, lT, l0, lS]
        refine tA 14 ?_; try simp only [Act.put, lT, l0, lS]
        refine rd 15 (by kernel_rfl) rfl (fun K hK => ?_); go_simp; refine hK _ _ ?_; clear hK K
        refine rd 16 (by kernel_rfl) rfl (fun K hK => ?_); go_simp; refine hK _ _ ?_; clear hK K
        refine wpAny_done (by kernel_rfl) ?_ _
        go_wp2_with (fail)
        refine wp_region_any (by kernel_rfl) ?_
        change wpAny _ _ _ _ _ _ _ (World.drew _)
        try simp only [Act.put, lT, l0, lS]
        refine tA 0 ?_; try simp only [Act.put, lT, l0, lS]
        refine tA 1 ?_; try simp only [Act.put, lT, l0, lS]
        refine tA 2 ?_; try simp only [Act.put, lT, l0, lS]
        refine tA 3 ?_; try simp only [Act.put, lT, l0, lS]
        refine tA 4 ?_; try simp only [Act.put, lT, l0, lS]
        refine tA 5 ?_; try simp only [Act.put, lT, l0, lS]
        refine tA 7 ?_; try simp only [Act.put, lT, l0, lS]
        refine tA 8 ?_; try simp only [Act.put, lT, l0, lS]
        refine tA 9 ?_; try simp only [Act.put, lT, l0, lS]
        refine tA 10 ?_; try simp only [Act.put, lT, l0, lS]
        try simp only [Act.put, lT, l0, lS]
        refine rA 6 (v := ?_) (hy := ?hy) ?_; case hy => (intro w hE; have q0 := hE.cell y1; go_simp; try with_reducible rfl)
        try simp only [Act.put, lT, l0, lS]
        try simp only [Act.put, lT, l0, lS]
        refine rA 11 (v := ?_) (hy := ?hy) ?_; case hy => (intro w hE; have q0 := hE.cell y2; go_simp; try with_reducible rfl)
        try simp only [Act.put, lT, l0, lS]
        refine rd 12 (by kernel_rfl) rfl (fun K hK => ?_); go_simp
        (go_must (refine (HP.out _).mono ?_); rintro e w3 ⟨rfl, rfl⟩)
        go_simp
        refine hK _ _ ?_
        clear hK K
        refine rd 13 (by kernel_rfl) rfl (fun K hK => ?_); go_simp; refine hK _ _ ?_; clear hK K
        try simp only [Act.put, lT, l0, lS]
        refine tA 14 ?_; try simp only [Act.put, lT, l0, lS]
        refine tA 15 ?_; try simp only [Act.put, lT, l0, lS]
        refine rd 16 (by kernel_rfl) rfl (fun K hK => ?_); go_simp; refine hK _ _ ?_; clear hK K
        refine rd 17 (by kernel_rfl) rfl (fun K hK => ?_); go_simp; refine hK _ _ ?_; clear hK K
        refine wpAny_done (by kernel_rfl) ?_ _
        go_wp2_with (fail)
        go_roundg (gk - 1)
        case measure => omega
        case rel => exact ⟨r, i + 1, rfl, by simp, by omega, by show Gr _ _ _ _ _ _; rw [HST.out]; exact hg.out.below ((Below.refl _ wr).drew.drew), hbw.out.drew.drew⟩
    · have h1' : ¬ (i : Int) < (ops.length : Int) := by omega
      have hii : i = ops.length := by omega
      have hg2 := hg.out
      rw [hii, List.take_length] at hg2
      have HG2 := Lib.hid hg2
      clear hg2
      have hown := HG2.out.own
      obtain ⟨X, cx, rfl, _⟩ := Sl.of_own hown
      clear hg hown hii
      go_wp2_with (fail)
      refine bodyPost_ret (v := .tuple #[ptrV p, .int .i64 r, .slice X _ cx, .bool true]) (by simp [results, Tryz.results10, go_sem]; rfl) rfl ?_
      exact ⟨p, r, _, rfl, HG2.out, hbw.out⟩
end Go.Ev
