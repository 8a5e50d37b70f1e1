/-
  The law arboretumlaw11.TreeBad, walked over the contracts of all that it calls. The law arboretumlaw11.TreeBad holds, whatever page and whatever key it is handed: its text is walked over the contracts of all that it calls; conditions: the row's own (the listed variables are as the program's text lays them). The law arboretumlaw11.TreeBad holds, whatever page and whatever key it is handed: its text is walked over the contracts of all that it calls; conditions: the row's own (the listed variables are as the program's text lays them).
-/
import Derived.Test.YtgfmhppkmogdhaaGreatDoorMBGwGrown
import Derived.Test.YtgfmhppkmogdhaaGreatDoorMBGwBeg2
import Derived.Test.YtgfmhppkmogdhaaGreatDoorMBGwAlive11
import Derived.Test.YtgfmhppkmogdhaaGreatDoorMBEvPg
import Derived.Carry
import Derived.Test.YtgfmhppkmogdhaaGreatDoorTie
import Derived.Test.YtgfmhppkmogdhaaGreatDoorCards
import Derived.ProofKit
import Derived.OpenShut
import Derived.ChangeMaps5
import Derived.LaidMore
import Derived.Lay
import Derived.SevenTiedAt
import Derived.Stop.Joined
set_option linter.unusedVariables false
set_option linter.unusedSimpArgs false
set_option linter.unusedVariables false
set_option linter.unusedSimpArgs false
namespace Go.Ev
open Go.Proofs Go.RowKit

theorem getE_nil {l : List Ent} (h : Pages l (fun _ => none)) : l = [] := by
  cases l with
  | nil => rfl
  | cons e r =>
    have := h e.1
    simp [getE] at this

set_option maxHeartbeats 16000000 in
set_option maxRecDepth 100000 in
theorem bad_walk (hAl : ∀ W, Calls Tryz.prog 27 #[] W (TrueB W)) (kind next : Int) (body key : Bytes) (w : World) (hb : body.length ≤ 9223372036854775807) (hk : key.length ≤ 9223372036854775807) :
    Calls Tryz.prog 7 #[.agg #[.int .i64 kind, .int .i64 next, strV body], strV key] w (TrueB w) := by
  obtain ⟨W0, hW0⟩ : ∃ W0, w.alloc (.cells #[.int .i64 kind, .int .i64 next, strV body] 81) = W0 := ⟨_, rfl⟩
  have hz0 : W0.heap.size = w.heap.size + 1 := by rw [← hW0]; simp
  have hb0 : Below w.heap.size w W0 := by rw [← hW0]; exact (Below.refl _ _).alloc (Nat.le_refl _) _
  have bx : Blk W0 w.heap.size 81 #[.int .i64 kind, .int .i64 next, strV body] := by rw [← hW0]; exact Blk.new _ _ _
  have g2 : (w.alloc (.cells #[.int .i64 kind, .int .i64 next, strV body] 81)).cell? ⟨w.heap.size, 2, none⟩ = some (strV body) := (Blk.new w _ _).cell 2
  obtain ⟨bl, hbl⟩ : ∃ m, body.length = m := ⟨_, rfl⟩
  obtain ⟨kl, hkl⟩ : ∃ m, key.length = m := ⟨_, rfl⟩
  have HAl := Lib.hid hAl
  have H0 := Lib.hid (And.intro hb0 (And.intro bx hz0))
  have HW0 := Lib.hid hW0
  clear hAl hb0 bx hz0 hW0
  by_cases c1 : (300 : Int) < (bl : Int)
  · have HB0 := H0.out.1
    rw [← HW0.out] at HB0
    have HB := Lib.hid HB0
    clear HB0
    go_enter Tryz.func7, Tryz.ntmps7
    go_wp2_with (fail)
    go_must (refine (HAl.out _).mono ?_)
    rintro e w2 ⟨rfl, hb2⟩
    go_wp2_with (fail)
    go_ret
    exact ⟨rfl, HB.out.trans (hb2.mono HB.out.size)⟩
  by_cases c2 : (kl : Int) < 1
  · have HB0 := H0.out.1
    rw [← HW0.out] at HB0
    have HB := Lib.hid HB0
    clear HB0
    go_enter Tryz.func7, Tryz.ntmps7
    go_wp2_with (fail)
    go_must (refine (HAl.out _).mono ?_)
    rintro e w2 ⟨rfl, hb2⟩
    go_wp2_with (fail)
    go_ret
    exact ⟨rfl, HB.out.trans (hb2.mono HB.out.size)⟩
  by_cases c3 : (40 : Int) < (kl : Int)
  · have HB0 := H0.out.1
    rw [← HW0.out] at HB0
    have HB := Lib.hid HB0
    clear HB0
    go_enter Tryz.func7, Tryz.ntmps7
    go_wp2_with (fail)
    go_must (refine (HAl.out _).mono ?_)
    rintro e w2 ⟨rfl, hb2⟩
    go_wp2_with (fail)
    go_ret
    exact ⟨rfl, HB.out.trans (hb2.mono HB.out.size)⟩
  have HK1 := Lib.hid (show 1 ≤ key.length by omega)
  have HK2 := Lib.hid (show key.length ≤ 40 by omega)
  have HBd := Lib.hid hb
  go_enter Tryz.func7, Tryz.ntmps7
  go_wp2_with (fail)
  rw [HW0.out]
  go_must (refine (base_any (m := 30) (by omega) W0).mono ?_)
  rintro e w1 ⟨d, g, f, r, sy, nw, rfl, hd, hf, d1, d2, d3, d4, b1⟩
  have hN := Lib.hid (pagerNew_any (m := 30) (by omega) d f sy nw w1 hd hf)
  have B1 := Lib.hid b1
  clear hd hf b1
  go_wp2_with (fail)
  go_must (refine hN.out.mono ?_)
  rintro e w2 ⟨p, c, rfl, hp, hs, b2⟩
  have hz1 := B1.out.size
  have HS := Lib.hid (show ∀ k, c.S p k → W0.heap.size ≤ k from fun k hk => by
    rcases hs k hk with h | h | h | h | h
    · omega
    · omega
    · exact d3 k h
    · exact d4 k h
    · omega)
  have B2 := Lib.hid (B1.out.trans (b2.mono hz1))
  have HP := Lib.hid hp
  have hx2 := H0.out.2.1.below' B2.out
  have x0 : w2.cell? ⟨w.heap.size, 0, none⟩ = some (.int .i64 kind) := hx2.cell 0
  have x1 : w2.cell? ⟨w.heap.size, 1, none⟩ = some (.int .i64 next) := hx2.cell 1
  have x2 : w2.cell? ⟨w.heap.size, 2, none⟩ = some (strV body) := hx2.cell 2
  have HX2 := Lib.hid hx2
  clear hp hs b2 hN hz1 d1 d2 d3 d4 B1 hx2
  by_cases hok : (⟨kind, next, body⟩ : Pg).ok
  · have HM := Lib.hid (make_map ⟨kind, next, body⟩ w2 HP.out hok (by omega))
    have HOk := Lib.hid hok
    clear hok
    go_wp2_with (fail)
    go_must (refine HM.out.mono ?_)
    rintro e w3 ⟨id, c', rfl, _, hid2, hidm, hpg, hK, made, mc, hpages, hmap⟩
    have := getE_nil hpages
    subst this
    have hmap1 : MapI w3 c'.mb [(id, pgV ⟨kind, next, body⟩, mc)] (mc + 1) := hmap
    have hS' : ∀ k, c'.S p k → W0.heap.size ≤ k := fun k hk => by
      rcases hK.sub k hk with e | e
      · exact HS.out k e
      · have := B2.out.size; omega
    have hx3 := HX2.out.keeps hK.keeps (fun e => by have := HS.out _ e; have := H0.out.2.2; omega)
    have B3 := Lib.hid (B2.out.trans (hK.keeps.below B2.out.size fun i hi e => by have := HS.out i e; omega))
    have H3 := Lib.hid (And.intro hpg (And.intro hmap1 (And.intro hS' hx3)))
    have HId := Lib.hid (And.intro hid2 hidm)
    have HMd := Lib.hid (made_one id (pgV ⟨kind, next, body⟩) mc (mc + 1) w3 hpg hmap1 (by omega) (by omega) (by omega))
    clear hpg hK hpages hmap hmap1 hS' hx3 hid2 hidm HM x0 x1 x2
    go_wp2_with (fail)
    go_must (refine HMd.out.mono ?_)
    rintro e w4 ⟨Am, cm, rfl, hb4⟩
    have HPut := Lib.hid (putOf_any ⟨kind, next, body⟩ id key [118] w4 (H3.out.1.below hb4) HOk.out HK1.out HK2.out (by decide) (by decide))
    have B4 := Lib.hid hb4
    clear hb4
    go_wp2_with (fail)
    go_must (refine HPut.out.mono ?_)
    rintro e w5 (⟨root, hr0, rfl, hK5⟩ | ⟨k, hk0, rfl, hb5⟩)
    · have hr1 : (root != 0) = true := by simpa using hr0
      have B5 : Hid (Below w.heap.size w w5) := by
        have h3 : Below W0.heap.size W0 w4 := B3.out.trans (B4.out.mono B3.out.size)
        have h5 : Below W0.heap.size W0 w5 := h3.trans (hK5.below h3.size fun i hi e => by have := H3.out.2.2.1 i e; omega)
        exact H0.out.1.trans (h5.mono H0.out.1.size)
      clear hK5 hr0
      go_wp2_with (fail)
      go_must (refine (HAl.out _).mono ?_)
      rintro e w6 ⟨rfl, hb6⟩
      have B6 := Lib.hid (B5.out.trans (hb6.mono B5.out.size))
      clear hb6
      go_wp2_with (fail)
      go_ret
      exact ⟨rfl, B6.out⟩
    · simp only [List.cons_append, List.nil_append]
      have hk1 : (k == 0) = false := by simpa using hk0
      have hb35 : Below w3.heap.size w3 w5 := B4.out.trans (hb5.mono B4.out.size)
      have hm0 : updS (fun _ => none) id (some (⟨kind, next, body⟩ : Pg)) id = some ⟨kind, next, body⟩ := by unfold updS; rw [if_pos rfl]
      have HRd := Lib.hid (read_some id ⟨kind, next, body⟩ w5 (H3.out.1.below hb35) hm0)
      have B35 := Lib.hid hb35
      clear hb5 hb35 hm0 hk0
      go_wp2_with (fail)
      go_must (refine HRd.out.mono ?_)
      rintro e w6 ⟨rfl, hb6⟩
      have hb36 : Below w3.heap.size w3 (w6.alloc (.cells #[.int .i64 kind, .int .i64 next, strV body] 81)) := (B35.out.trans (hb6.mono B35.out.size)).alloc (Nat.le_trans B35.out.size hb6.size) _
      have HY := Lib.hid (Blk.new w6 81 #[.int .i64 kind, .int .i64 next, strV body])
      have B36 := Lib.hid hb36
      clear hb6 hb36
      go_wp2_with (fail)
      go_must (refine (HAl.out _).mono ?_)
      rintro e w7 ⟨rfl, hb7⟩
      have hb37 : Below w3.heap.size w3 w7 := B36.out.trans (hb7.mono B36.out.size)
      have HY7 := Lib.hid (HY.out.below' hb7)
      have HMd2 := Lib.hid (made_one id (pgV ⟨kind, next, body⟩) mc (mc + 1) w7 (H3.out.1.below hb37) (H3.out.2.1.keeps (S := fun _ => False) (Keeps.of_below hb37) fun h => h) (by omega) (by have := HId.out.1; omega) (by have := HId.out.2; omega))
      have B37 := Lib.hid hb37
      clear hb7 hb37
      go_wp2_with (fail)
      go_must (refine HMd2.out.mono ?_)
      rintro e w8 ⟨An, cn, rfl, hb8⟩
      have hb38 : Below w3.heap.size w3 w8 := B37.out.trans (hb8.mono B37.out.size)
      have hx8 := H3.out.2.2.2.below' hb38
      have hy8 := HY7.out.below' hb8
      have x0 : w8.cell? ⟨w.heap.size, 0, none⟩ = some (.int .i64 kind) := hx8.cell 0
      have x1 : w8.cell? ⟨w.heap.size, 1, none⟩ = some (.int .i64 next) := hx8.cell 1
      have x2 : w8.cell? ⟨w.heap.size, 2, none⟩ = some (strV body) := hx8.cell 2
      have y0 : w8.cell? ⟨w6.heap.size, 0, none⟩ = some (.int .i64 kind) := hy8.cell 0
      have y1 : w8.cell? ⟨w6.heap.size, 1, none⟩ = some (.int .i64 next) := hy8.cell 1
      have y2 : w8.cell? ⟨w6.heap.size, 2, none⟩ = some (strV body) := hy8.cell 2
      have B8 : Hid (Below w.heap.size w w8) := H0.out.1.trans ((B3.out.trans (hb38.mono B3.out.size)).mono H0.out.1.size)
      clear hb8 hb38 hx8 hy8
      go_wp2_with (fail)
      go_ret
      exact ⟨rfl, B8.out⟩
  · have HM := Lib.hid (make_bad ⟨kind, next, body⟩ w2 HP.out hok HBd.out)
    clear hok
    go_wp2_with (fail)
    go_must (refine HM.out.mono ?_)
    rintro e w3 ⟨k, hk0, rfl, hb3⟩
    simp only [List.cons_append, List.nil_append]
    have hk1 : (k != 0) = true := by simpa using hk0
    have B3 := Lib.hid (B2.out.trans (hb3.mono B2.out.size))
    clear hb3 hk0
    go_wp2_with (fail)
    go_must (refine (HAl.out _).mono ?_)
    rintro e w4 ⟨rfl, hb4⟩
    have B4 : Hid (Below w.heap.size w w4) := H0.out.1.trans ((B3.out.trans (hb4.mono B3.out.size)).mono H0.out.1.size)
    clear hb4
    go_wp2_with (fail)
    go_ret
    exact ⟨rfl, B4.out⟩

theorem call_treeBad (kind next : Int) (body key : ByteArray) (w : World) (hb : body.size ≤ maxLen) (hk : key.size ≤ maxLen) :
    Calls Tryz.prog 7 #[.agg #[.int .i64 kind, .int .i64 next, .string body], .string key] w (TrueB w) := by
  have e0 : ∀ x : ByteArray, x.size ≤ maxLen → x.data.toList.length ≤ 9223372036854775807 := fun x hx => by
    have e : x.data.toList.length = x.size := Array.length_toList
    unfold maxLen at hx
    omega
  have e2 : ∀ x : ByteArray, strV x.data.toList = .string x := fun x => by
    show Value.string ⟨x.data.toList.toArray⟩ = _
    rw [Array.toArray_toList]
  have := bad_walk alive11 kind next body.data.toList key.data.toList w (e0 body hb) (e0 key hk)
  rw [e2, e2] at this
  exact this
end Go.Ev

set_option linter.unusedVariables false
set_option linter.unusedSimpArgs false
namespace Go.Proofs.YtgfmhppkmogdhaaGreatDoor
open Go.ChangeShapes Go.WideShapes Go.ChangeAt Go.RowKit

theorem ownBad : ownKnob Tryz.prog.godebug = none := by kernel_rfl

set_option maxRecDepth 100000 in
theorem treeBad_lifted (os : Os) (started : os.Started) (H : Type) (enc : TypeId × Value → H) :
    ReturnsInHanded {} Tryz.checked os 7 .any (fun w args => (Rows.treeBadSpec.pre enc Tryz.prog Tryz.f7 [] false w args ∧ laidMetH Tryz.prog Rows.treeBadRow.laid w) ∧ sizedMet enc Tryz.prog Tryz.f7 (OpenSpec.ofChange Rows.treeBadSpec) false w args)
      (Rows.treeBadSpec.post enc Tryz.prog Tryz.f7 false true false false) := by
  refine returnsInHanded_of_change_and (C := Tryz.checked) (X := fun w _ => laidMetH Tryz.prog Rows.treeBadRow.laid w) (fun _ _ _ hh h => h.of_heap hh) ownBad started (by kernel_rfl) Tryz.func7
    (ChangeSpec.witness_shaped (enc := enc) (C := Tryz.checked) (os := os) (X := fun w _ => laidMetH Tryz.prog Rows.treeBadRow.laid w) false (World.laidAll Tryz.prog os Rows.treeBadRow.laid) #[.agg #[.int .i64 0, .int .i64 0, .string ByteArray.empty], .string ByteArray.empty] 8 (World.laidAll_os _ _ _)
      (World.shaped_of_ZipB (by kernel_rfl) (by kernel_rfl)) (by kernel_rfl) (by kernel_rfl) (by kernel_rfl)
      (by rw [MakeChecks.laidMetH_plain _ _ _ (by kernel_rfl)]; exact laidMet_laidAll _ (by kernel_rfl) (by kernel_rfl))) ?_
  intro W base args ds gs before hval0 hW _ _ hL _
  have hval : ∀ (j : Nat) t v, Tryz.f7.params[j]? = some t → args[j]? = some v → Value.okWide Tryz.prog W .any base t v := hval0
  have hW' := hW
  obtain ⟨p, q, hA0, hV, rfl, _, _⟩ := hW
  have hA : DataW.TrodAll enc Tryz.prog W 0 (fun _ => true) true Tryz.f7.params.toList args.toList ds p := hA0
  rw [Tryz.params7] at hA hval
  obtain ⟨v0, vs0, d0, ds0, p0, r0, hargs, rfl, rfl, h0, hr0⟩ := trodAll_cons hA
  obtain ⟨v1, vs1, d1, ds1, p1, r1, rfl, rfl, rfl, h1, hr1⟩ := trodAll_cons hr0
  obtain ⟨rfl, rfl, rfl⟩ := trodAll_nil hr1
  obtain rfl : args = #[v0, v1] := by cases args; simp_all
  clear hargs hr0 hr1
  obtain ⟨rfl, rfl⟩ := trodVars_none hV
  obtain ⟨k1, rfl, rfl, rfl, hk1⟩ := Go.ChangeMaps.open_string Tryz.underlying9 (hval 1 9 v1 rfl rfl) h1
  obtain ⟨kind, next, body, rfl, rfl, hb, hsame⟩ := Ev.open_page (by kernel_rfl) (hval 0 81 v0 rfl rfl) h0
  simp only [List.append_nil] at hW'
  refine (Ev.call_treeBad kind next body k1 W hb hk1).mono fun e W' ⟨hret, hw⟩ => ?_
  subst hret
  have hTs := trodAll_cons_mk (hsame W' 0 (fun b => decide (b < W.heap.size)) true) (trodAll_mk1 (Go.ChangeMaps.shut_string Tryz.underlying9 hk1))
  exact ⟨_, rfl, _, _, _, [], [], [], hW', trodAll_mk1 (shut_bool Tryz.underlying4 true), (by
    simp only [List.append_nil] at hTs
    exact hTs), rfl, hw.frame _, fun h => by cases h⟩
end Go.Proofs.YtgfmhppkmogdhaaGreatDoor

set_option linter.unusedVariables false
set_option linter.unusedSimpArgs false
namespace Go.Proofs.YtgfmhppkmogdhaaGreatDoor
open Go.ChangeShapes Go.WideShapes Go.ChangeAt Go.RowKit

set_option maxHeartbeats 40000000 in
theorem treeBad_facts : joinedFacts Tryz.prog 7 Tryz.f7 Rows.treeBadSpec Rows.treeBadRow = true := by
  unfold joinedFacts
  simp only [Bool.and_eq_true]
  repeat' apply And.intro
  all_goals (as_aux_lemma => kernel_rfl)

set_option maxHeartbeats 40000000 in
theorem treeBad_row : Rows.TreeBadSaid :=
  OpenClaim.holds_of_wide 7 Tryz.f7 rfl rfl rfl rfl rfl rfl rfl ⟨rfl, rfl, rfl, rfl, rfl⟩ rfl rfl rfl rfl rfl (by as_aux_lemma => kernel_rfl) Tryz.func7 treeBad_facts
    (of_decide_eq_true (by as_aux_lemma => kernel_rfl)) (by unfold Func.isWrapper; first | (rw [if_pos (by decide +kernel)]; kernel_rfl) | (rw [if_neg (by decide +kernel)]; exact ⟨rfl, rfl⟩))
    (fun os started H enc _ => treeBad_lifted os started H enc)

set_option maxHeartbeats 40000000 in
theorem treeBad_holds : Rows.TreeBadCardSaid :=
  Claim7.holds_tied_plain_at .later [] [.data, .pinned] true (true, "a33b2f475c1f761503b948178bd5576aa5a86259ebb8432500d7311015f6b41b") true treeBad_row (fun _ h => by cases h) (by as_aux_lemma => kernel_rfl) (fun _ h => by cases h) treeBad_row_tie rfl ⟨rfl, rfl⟩ (by as_aux_lemma => kernel_rfl) rfl
    (fun f fn hf hfn => by
      obtain rfl : f = 7 := Option.some.inj ((show Tryz.prog.funcNamed "arboretum/arboretumlaw11.TreeBad" = some 7 by as_aux_lemma => kernel_rfl).symm.trans hf) |>.symm
      obtain rfl : fn = Tryz.f7 := (Option.some.inj (Tryz.func7.symm.trans hfn)).symm
      exact ⟨by as_aux_lemma => kernel_rfl, fun j t ht => by
        rw [Tryz.params7] at ht
        have hm : t ∈ [81, 9] := by simpa using Array.mem_of_getElem? ht
        have hall : ([81, 9].all fun u => !Tryz.prog.wantsStandIn u) = true := by as_aux_lemma => kernel_rfl
        exact (show Tryz.prog.wantsStandIn t = false by simpa using List.all_eq_true.1 hall t hm)⟩)
    (by as_aux_lemma => kernel_rfl)
#print axioms treeBad_holds
end Go.Proofs.YtgfmhppkmogdhaaGreatDoor
