/-
  tree.Delete of the only key: an empty leaf is left. tree.Height.
-/
import Derived.Test.YtgfmhppkmogdhaaGreatDoorMBGwUpNone
import Derived.Test.YtgfmhppkmogdhaaGreatDoorMBGvGrow
import Derived.Test.YtgfmhppkmogdhaaGreatDoorMBGwPutT
import Derived.Test.YtgfmhppkmogdhaaGreatDoorMBGwAll
set_option linter.unusedVariables false
set_option linter.unusedSimpArgs false
set_option linter.unusedVariables false
set_option linter.unusedSimpArgs false
namespace Go.Ev
open Go.Proofs Go.RowKit Go.Shelf

section
variable {p most cnt : Nat} {c : Pc} {M : Store}

def DelOneP (p : Nat) (c : Pc) (most : Nat) (w : World) (e : Ending) (w' : World) : Prop :=
  ∃ root M' c' cnt', e = .returned (.tuple #[.int .i64 root, .int .i64 0]) ∧ TreeOk M' root [] cnt' ∧ PgOk w' p c' most M' cnt' ∧ PgK p c c' w w'

set_option maxHeartbeats 8000000 in
set_option maxRecDepth 100000 in
theorem treeDel_one (root : Int) (key v : Bytes) (w : World) (h : PgOk w p c most M cnt) (ht : TreeOk M root [(key, v)] cnt) (hk1 : 1 ≤ key.length) (hk2 : key.length ≤ 40) (hroom : cnt + 5 ≤ most) :
    Calls Tryz.prog 98 #[ptrV p, .int .i64 root, strV key] w (DelOneP p c most w) := by
  obtain ⟨⟨k, ids, hT, hnd, rfl⟩, hsh⟩ := ht
  obtain ⟨hb1, hb2⟩ := tree_bound (n := 1) hsh hT (by simp)
  have hk0 : k = 0 := by
    rcases hb2 with e | e
    · exact e
    · cases k with
      | zero => rfl
      | succ k => rw [Nat.pow_succ] at e; have := Nat.one_le_two_pow (n := k); omega
  subst hk0
  have hthere := hT.there
  obtain ⟨items, i2, hm, hr, hs, hla, rfl, hin⟩ := hT
  obtain ⟨old, hold, i2', hla', hperm⟩ := leaf_del (key := key) hr hla
  have hdp : delP key [(key, v)] = [] := by simp [delP, lessB_irrefl]
  rw [hdp] at hla'
  have hdi : delI items key = [] ∧ i2' = [] := by
    cases hd : delI items key with
    | nil => rw [hd] at hla'; exact ⟨rfl, hla'.2⟩
    | cons y l =>
      rw [hd] at hla'
      obtain ⟨_, _, _, _, e, _⟩ := hla'
      cases e
  obtain ⟨hdi, rfl⟩ := hdi
  rw [List.nil_append] at hperm
  have hat : isAt key items = true := by
    cases hc : isAt key items with
    | true => rfl
    | false =>
      have e : delI items key = items := by unfold delI; rw [if_neg (by rw [hc]; decide)]
      rw [hdi] at e
      rw [← e] at hla
      obtain ⟨e2, _⟩ := hla
      cases e2
  have hway : Way M key 0 root [] root items := .leaf hm hr hs (.inr rfl) (by omega)
  have hil : items.length ≤ 240 := by have := layI_ge items; omega
  have hkey := isKey_any key w (by omega)
  have e1 : decide (1 ≤ key.length) = true := by simpa using hk1
  have e2 : decide (key.length ≤ 40) = true := by simpa using hk2
  rw [e1, e2] at hkey
  have HKey := Lib.hid hkey
  have HWay := Lib.hid (way_ok root key [] root items w h hway)
  have HL := Lib.hid (And.intro h (And.intro hm (And.intro hr (And.intro hold (And.intro hdi (And.intro hat (And.intro hperm (And.intro hnd (And.intro hthere hsh)))))))))
  clear hkey e1 e2 hm hr hs hla hold hla' hdp hdi hat hway h hnd hthere hsh hperm hin hb2
  go_enter Tryz.func98, Tryz.ntmps98
  go_wp2_with (fail)
  go_must (refine HKey.out.mono ?_)
  rintro e w0 ⟨rfl, rfl⟩
  go_wp2_with (fail)
  go_must (refine HWay.out.mono ?_)
  rintro e w1 ⟨pv, st, vi, rfl, hstp, hgh, hsteps, hIt, hb1⟩
  obtain ⟨Ap, cp, rfl, _⟩ := Sl.of_own hstp
  unfold OwnsI at hIt
  obtain ⟨Ai, ci, rfl, _⟩ := Sl.of_own hIt
  obtain ⟨h, hm, hr, hold, hdi, hat, hperm, hnd, hthere, hsh⟩ := HL.out
  have hF := findI_any Ai items.length ci items key w1 (Sl.of_own hIt) (by omega) hr
  rw [hat] at hF
  have HF := Lib.hid hF
  have HS := Lib.hid (And.intro hstp (And.intro hgh (And.intro hIt hb1)))
  clear hstp hgh hsteps hIt hb1 h hm hr hold hdi hat hperm hnd hthere hsh hF
  go_wp2_with (fail)
  go_must (refine HF.out.mono ?_)
  rintro e w2 ⟨rfl, hb2⟩
  obtain ⟨h, hm, hr, hold, hdi, hat, hperm, hnd, hthere, hsh⟩ := HL.out
  obtain ⟨hstp, hgh, hIt, hb1⟩ := HS.out
  have hz1 := hb1.size
  have hz2 := hb2.size
  have hz0 := h.lt
  -- the work
  obtain ⟨W2, hW2e⟩ : ∃ W2, W2 = (w2.alloc (.cells #[.int .i64 root] 3)).alloc (.cells #[ptrV p, .slice none 0 0, .slice (some ⟨w2.heap.size, 0, none⟩) 1 1] 139) := ⟨_, rfl⟩
  have hb22 : Below w2.heap.size w2 W2 := by rw [hW2e]; exact ((Below.refl _ w2).alloc (Nat.le_refl _) _).alloc (by simp) _
  have hzW : W2.heap.size = w2.heap.size + 2 := by rw [hW2e]; simp
  have hb02 : Below w.heap.size w w2 := hb1.trans (hb2.mono hz1)
  have hpg2 := (h.below hb02).below hb22
  have hwk : WkOk W2 p ⟨c, w2.heap.size + 1, .slice none 0 0, .slice (some ⟨w2.heap.size, 0, none⟩) 1 1⟩ most M (root :: i2).length [] [root] := by
    refine ⟨hpg2, ?_, (fun e => by have h5 := hz0 (w2.heap.size + 1) e; omega), World.ownsRow_nil _ _ _ _, ?_, (fun j hj => by cases hj), (fun j hj e => ?_), (fun j hj => by cases hj)⟩
    · rw [hW2e]; exact Blk.new' (by simp)
    · rw [hW2e]
      exact own_below (own_base (own_of (heap_alloc_new w2 _) (Nat.le_refl _) (Nat.le_refl _) (by unfold maxLen; omega) rfl rfl (fun j hj => by
        match j with
        | 0 => rfl
        | j + 1 => omega)) (Nat.zero_le _)) ((Below.refl _ _).alloc (Nat.le_refl _) _)
    · simp only [Value.ownBlock, Option.some.injEq] at hj
      have := hz0 _ e
      omega
  have htrk : Trk c p w2.heap.size w2 W2 ⟨c, w2.heap.size + 1, .slice none 0 0, .slice (some ⟨w2.heap.size, 0, none⟩) 1 1⟩ := by
    refine ⟨Keeps.of_below hb22, ?_, by omega, rfl, rfl, rfl⟩
    rintro j (e | e | e | e)
    · exact .inl e
    · simp only at e; exact .inr (by omega)
    · cases e
    · simp only [Value.ownBlock, Option.some.injEq] at e
      exact .inr (by omega)
  have hIt2 := own_below hIt hb2
  have hst2 := own_below hstp hb2
  have hkeep : ∀ j, w.heap.size ≤ j → j < w2.heap.size → ¬ (c.S p j ∨ w2.heap.size ≤ j) := fun j h1 h2 e => by
    rcases e with e | e
    · have := hz0 j e; omega
    · omega
  have hits : ∀ (W : World) (x : Wc), Trk c p w2.heap.size w2 W x → Sl W 4 (.slice Ai items.length ci) items.length (itemsCs items) ∧ W.ownsRow 0 239 3 (.slice Ap st.length cp) st.length (stepsCs st) := fun W x ht =>
    ⟨Sl.of_own (own_keeps hIt2 ht.keeps fun j hj => hkeep j (hIt2.lt j hj).1 (Nat.lt_of_lt_of_le (hIt.lt j hj).2 hz2)), own_base (own_keeps hst2 ht.keeps fun j hj => hkeep j (hst2.lt j hj).1 (Nat.lt_of_lt_of_le (hstp.lt j hj).2 hz2)) (Nat.zero_le _)⟩
  have hst0 : st = [] := List.map_eq_nil_iff.1 hgh
  have HOld := Lib.hid (old_any Ai items.length ci items key [(key, v)] old hwk (hits _ _ htrk).1 (by omega) hr hold hsh (by simp))
  have HIt := Lib.hid hits
  have HTrk := Lib.hid htrk
  have HW2e := Lib.hid hW2e
  have HZ := Lib.hid (And.intro hz0 hb02)
  have HSt := Lib.hid hst0
  clear hstp hgh hIt hb1 hb2 h hm hr hold hdi hat hperm hnd hthere hsh hwk htrk hits hpg2 hb22 hW2e hz0 hb02 hIt2 hst2 hkeep hst0
  go_wp2_with (fail)
  rw [← HW2e.out]
  go_must (refine HOld.out.mono ?_)
  rintro e w3 ⟨rfl, x1, hw1, hk1'⟩
  have htrk := HTrk.out.step hk1'
  have hx1b := hk1'.same
  simp only at hx1b
  obtain ⟨h, hm, hr, hold, hdi, hat, hperm, hnd, hthere, hsh⟩ := HL.out
  have HDel := Lib.hid (delI_any Ai items.length ci items key w3 (HIt.out _ _ htrk).1 (by omega) hr)
  rw [hdi] at HDel
  have HTr := Lib.hid htrk
  have HWk := Lib.hid hw1
  have HX1 := Lib.hid hx1b
  clear hw1 hk1' htrk h hm hr hold hdi hat hperm hnd hthere hsh hx1b
  go_wp2_with (fail)
  go_must (refine HDel.out.mono ?_)
  rintro e w4 ⟨v4, rfl, hown4, hb4⟩
  obtain ⟨A4, c4, rfl, _⟩ := Sl.of_own hown4
  simp only [List.length_nil]
  have htrk := HTr.out.below hb4
  have hUp := up_none Ap cp st [] HSt.out rfl w4 (HWk.out.below hb4) (HIt.out _ _ htrk).2 (by omega) (by simp)
  rw [HX1.out] at hUp
  have HUp := Lib.hid hUp
  have HTr := Lib.hid htrk
  clear hown4 hb4 htrk hUp
  go_wp2_with (fail)
  go_must (refine HUp.out.mono ?_)
  rintro e w5 ⟨root', x3, rfl, r1, r2, hw5, hkk, hfr⟩
  obtain ⟨h, hm, hr, hold, hdi, hat, hperm, hnd, hthere, hsh⟩ := HL.out
  obtain ⟨hz0, hb02⟩ := HZ.out
  have htrk := HTr.out
  obtain ⟨hnd1, hnd2⟩ := List.nodup_cons.1 hnd
  have hDn : ([root] ++ old).Nodup := by
    simp only [List.cons_append, List.nil_append, List.nodup_cons]
    exact ⟨fun e => hnd1 (hperm.mem_iff.1 e), hperm.nodup_iff.2 hnd2⟩
  have hDm : ∀ i ∈ [root] ++ old, M i ≠ none := fun i hi => by
    refine hthere i ?_
    simp only [List.cons_append, List.nil_append, List.mem_cons] at hi ⊢
    exact hi.imp id fun e => hperm.mem_iff.1 e
  have hsome : ∀ i ∈ [root] ++ old, (updS M root' (some ⟨2, 0, []⟩) i).isSome = true := fun i hi => by
    unfold updS
    split
    · rfl
    · cases hq : M i with
      | none => exact absurd hq (hDm i hi)
      | some y => rfl
  have hlen : ([root] ++ old).length = (root :: i2).length := by simp [hperm.length_eq]
  have hl2 : ([root] ++ old).length ≤ 100000 := by rw [hlen]; omega
  have hEnd := end_ok hw5 hDn hsome hl2
  rw [hkk.same, HX1.out] at hEnd
  have hTree : TreeOk (dropAll (updS M root' (some ⟨2, 0, []⟩)) ([root] ++ old)) root' [] ((root :: i2).length + 1 - ([root] ++ old).length) := by
    refine ⟨⟨0, [root'], ⟨[], [], ?_, rfl, by simp [layI], ⟨rfl, rfl⟩, rfl, fun q hq => by cases hq⟩, by simp, by rw [hlen]; simp⟩, fun q hq => by cases hq⟩
    rw [dropAll_at, if_neg fun hm => hDm root' hm r1]
    unfold updS
    simp [layI]
  have hkeepW : Keeps (c.S p) w w5 := by
    refine ((Keeps.of_below (S := c.S p) hb02).trans htrk.keeps fun i hi e => ?_).trans hfr fun i hi e => ?_
    · rcases e with e | e
      · exact e
      · have := hb02.size; omega
    · rcases htrk.sub i e with e | e
      · exact e
      · have := hb02.size; omega
  have hsubW : ∀ j, x3.S p j → c.S p j ∨ w.heap.size ≤ j := fun j e => by
    have h5 := hb02.size
    rcases hkk.sub j e with e | e
    · rcases htrk.sub j e with e | e
      · exact .inl e
      · exact .inr (by omega)
    · have := htrk.size; exact .inr (by omega)
  have hmbs : x3.c.mb = c.mb ∧ x3.c.db = c.db ∧ x3.c.wb = c.wb := ⟨hkk.mb.trans htrk.mb, hkk.db.trans htrk.db, hkk.wb.trans htrk.wb⟩
  have HEnd := Lib.hid hEnd
  have HFi := Lib.hid (And.intro hTree (And.intro hkeepW (And.intro hsubW hmbs)))
  clear hEnd hTree hkeepW hsubW hmbs hDn hDm hsome hlen hl2 hnd1 hnd2 h hm hr hold hdi hat hperm hnd hthere hsh hz0 hb02 htrk r1 hw5 hkk hfr
  go_wp2_with (fail)
  go_must (refine HEnd.out.mono ?_)
  rintro e w8 ⟨rfl, c'', hpg8, hk8⟩
  obtain ⟨hTree, hkeepW, hsubW, m1, m2, m3⟩ := HFi.out
  have HE : Hid (DelOneP p c most w (.returned (.tuple #[.int .i64 root', .int .i64 0])) w8) := by
    refine ⟨root', _, c'', _, rfl, hTree, hpg8, ⟨hkeepW.trans hk8.keeps fun i hi e => ?_, fun j e => ?_, hk8.mb.trans m1, hk8.db.trans m2, hk8.wb.trans m3⟩⟩
    · rcases hsubW i (.inl e) with e | e
      · exact e
      · omega
    · rcases hk8.sub j e with e | e
      · exact hsubW j (.inl e)
      · have := hkeepW.size; exact .inr (by omega)
  clear hTree hkeepW hsubW m1 m2 m3 hpg8 hk8
  go_wp2_with (fail)
  refine bodyPost_ret (v := .tuple #[.int .i64 root', .int .i64 0]) (by simp [results, Tryz.results98, go_sem]) rfl ?_
  exact HE.out
end
end Go.Ev
