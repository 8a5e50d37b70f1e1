/-
  The law arboretumlaw11.TreeHeight, walked over the contracts of all that it calls. The law arboretumlaw11.TreeHeight holds, whatever steps it is handed: its text is walked over the contracts of all that it calls; conditions: the row's own (the listed variables are as the program's text lays them). The law arboretumlaw11.TreeHeight holds, whatever steps it is handed: its text is walked over the contracts of all that it calls; conditions: the row's own (the listed variables are as the program's text lays them).
-/
import Derived.Test.YtijlmjfemedjdaaGreatDoorMHGwStep
import Derived.Test.YtijlmjfemedjdaaGreatDoorMHGwAlive11
import Derived.Carry
import Derived.Test.YtijlmjfemedjdaaGreatDoorTie
import Derived.Test.YtijlmjfemedjdaaGreatDoorCards
import Derived.ProofKit
import Derived.OpenShut
import Derived.ChangeMaps5
import Derived.LaidMore
import Derived.Lay
import Derived.SevenTiedAt
import Derived.Stop.Joined
set_option linter.unusedVariables false
set_option linter.unusedSimpArgs false
set_option linter.unusedVariables false
set_option linter.unusedSimpArgs false
namespace Go.Ev
open Go.Proofs Go.RowKit

set_option maxHeartbeats 8000000 in
set_option maxRecDepth 100000 in
theorem height_walk (hAl : ∀ W, Calls Tryz.prog 9 #[] W (TrueB W)) (A : Option Addr) (n c : Nat) (ops : List OpL) (w : World) (h : OpsAt w (.slice A n c) ops) :
    Calls Tryz.prog 3 #[.slice A n c] w (TrueB w) := by
  have HL := Lib.hid (light_sum A n c ops w h)
  have HAl := Lib.hid hAl
  obtain ⟨hv, hml, hlen⟩ := h
  have hnn : n = ops.length := by obtain ⟨_, _, e, _⟩ := hv; cases e; rfl
  subst hnn
  have HLen := Lib.hid hlen
  have HV := Lib.hid hv
  clear hlen hml hv hAl
  go_enter Tryz.func3, Tryz.ntmps3
  go_wp2_with (fail)
  go_must (refine HL.out.mono ?_)
  rintro e w1 ⟨bl, rfl, hlight, hb1⟩
  have HB1 := Lib.hid hb1
  cases bl with
  | false =>
    clear hlight hb1
    go_wp2_with (fail)
    go_must (refine (HAl.out _).mono ?_)
    rintro e w2 ⟨rfl, hb2⟩
    go_wp2_with (fail)
    go_ret
    exact ⟨rfl, HB1.out.trans (hb2.mono HB1.out.size)⟩
  | true =>
    obtain ⟨hl1, hl2⟩ := hlight rfl
    have HS := Lib.hid hl2
    clear hlight hb1 hl2
    go_wp2_with (fail)
    go_must (refine (begin_any w1).mono ?_)
    rintro e w2 ⟨d, f, p, pc, root, rfl, hp, hs, hb2⟩
    have hT0 : Gh w.heap.size p root [] 0 w2 := gh_new hp (fun k hk => Nat.le_trans HB1.out.size (hs k hk)) (Nat.le_trans HB1.out.size hb2.size)
    have HT0 := Lib.hid hT0
    have HB2 := Lib.hid (HB1.out.trans (hb2.mono HB1.out.size))
    clear hT0 hp hs hb2
    go_wp2_with (fail)
    go_loopg [6, 8] ops.length (fun gk s6 s8 wr => ∃ (r : Int) (i : Nat), s6 = .int .i64 r ∧ s8 = .int .i64 (i : Int) ∧ i + gk = ops.length ∧ Hid (∃ ps n, Gh w.heap.size p r ps n wr ∧ n ≤ i ∧ ps.length ≤ i ∧ sumV ps ≤ sumO (ops.take i)) ∧ Hid (Below w.heap.size w wr))
    case atStart => exact ⟨root, 0, rfl, rfl, by omega, ⟨[], 0, HT0.out, Nat.le_refl _, Nat.le_refl _, Nat.zero_le _⟩, HB2.out⟩
    case round =>
      clear HT0 HB2
      obtain ⟨r, i, rfl, rfl, hi, hg, hbw⟩ := hrel
      by_cases h1 : i < ops.length
      · have h1' : (i : Int) < (ops.length : Int) := by omega
        have hi0 : (0 : Int) ≤ (i : Int) := by omega
        have hw1 : IntKind.i64.wrap ((i : Int) + 1) = (i : Int) + 1 := IntWalk.i64_in _ (by omega)
        obtain ⟨A', c', e0, _, _, hcl⟩ := HV.out.below hbw.out
        cases e0
        obtain ⟨blk, off, rfl, hbl, hcell⟩ := hcl (by omega)
        obtain ⟨p0, p1, p2⟩ := opsCs_at ops i h1
        have x0 : wr.cell? ⟨blk, off + i * 3, none⟩ = _ := hcell _ _ p0
        have x1 : wr.cell? ⟨blk, off + i * 3 + 1, none⟩ = _ := hcell _ _ p1
        have x2 : wr.cell? ⟨blk, off + i * 3 + 2, none⟩ = _ := hcell _ _ p2
        obtain ⟨m1, m2⟩ := HLen.out _ (List.getElem_mem h1)
        obtain ⟨ps, n, hG, hn, hpl, hsv⟩ := hg.out
        have hst := sumO_take h1
        have hsl := sumO_take_le ops (i + 1)
        have hSt := step_any ops[i].kind ops[i].key ops[i].val hG (by omega) (by omega) (by have := sumO_take_le ops i; have := HS.out; omega) m1 m2
        have HSt := Lib.hid hSt
        have HK := Lib.hid (And.intro hst (And.intro hn (And.intro hpl hsv)))
        clear hSt hst hsl hcell hcl p0 p1 p2 hG hn hpl hsv hg m1 m2
        generalize hk0 : ops[i].kind = kind at *
        generalize hk1 : ops[i].key = key at *
        generalize hk2 : ops[i].val = val at *
        clear hk0 hk1 hk2
        go_wp2_with (fail)
        go_must (refine HSt.out.mono ?_)
        rintro e w3 ⟨r', ps', n', rfl, hG', q1, q2, q3, hb⟩
        have HE : Hid ((∃ ps n, Gh w.heap.size p r' ps n w3 ∧ n ≤ i + 1 ∧ ps.length ≤ i + 1 ∧ sumV ps ≤ sumO (ops.take (i + 1))) ∧ Below w.heap.size w w3) := by
          obtain ⟨a1, a2, a3, a4⟩ := HK.out
          exact ⟨⟨ps', n', hG', by omega, by omega, by omega⟩, hbw.out.trans hb⟩
        clear hG' q1 q2 q3 hb
        go_wp2_with (fail)
        go_roundg (gk - 1)
        case measure => omega
        case rel => exact ⟨r', i + 1, rfl, by simp, by omega, HE.out.1, HE.out.2⟩
      · have h1' : ¬ (i : Int) < (ops.length : Int) := by omega
        have hii : i = ops.length := by omega
        obtain ⟨ps, n, hG, hn, hpl, hsv⟩ := hg.out
        have hso := sumO_take_le ops i
        have hsv2 : sumV ps ≤ 60000 := by have := HS.out; omega
        obtain ⟨c, M, ids, g1, g2, g3⟩ := hG.ex
        have hpg := g2.pages (by omega) hsv2 (by omega)
        have hn250 : n ≤ 250 := by omega
        have hpl250 : ps.length ≤ 250 := by omega
        have HH := Lib.hid (heightG_ok r ps ids n wr g1 g2 hn250 (by omega) (by omega))
        have HC := Lib.hid (fun W (hb : Below wr.heap.size wr W) => countG_ok r ps ids n W (g1.below hb) g2 hn250 (by omega) (by omega))
        have HP := Lib.hid (fun W (hb : Below wr.heap.size wr W) => pagesG_ok r ps ids n W (g1.below hb) g2 hn250 (by omega) (by omega))
        have HM := Lib.hid (fun W (hb : Below wr.heap.size wr W) => made_any W (g1.below hb))
        clear hG hn hpl hsv hso hsv2 g1 g2 g3 hg hii hn250
        go_wp2_with (fail)
        go_must (refine HH.out.mono ?_)
        rintro e w3 ⟨k, k1, k2, k3, rfl, hb3⟩
        have HB3 := Lib.hid hb3
        have HK3 := Lib.hid k3
        clear hb3 k3
        go_wp2_with (fail)
        go_must (refine (HC.out _ HB3.out).mono ?_)
        rintro e w4 ⟨rfl, hb4⟩
        have HB4 := Lib.hid (HB3.out.trans (hb4.mono HB3.out.size))
        clear hb4
        go_wp2_with (fail)
        go_must (refine (HP.out _ HB4.out).mono ?_)
        rintro e w5 ⟨Ap, cp, rfl, _, hb5⟩
        have HB5 := Lib.hid (HB4.out.trans (hb5.mono HB4.out.size))
        have j1 : ¬ ((k : Int) + 1 < 1) := by omega
        have j2 : ¬ ((ids.length : Int) < (k : Int) + 1) := by omega
        have j3 : ¬ (12 < (k : Int) + 1) := by omega
        clear hb5
        obtain ⟨m, hm⟩ : ∃ m, ps.length = m := ⟨_, rfl⟩
        have HMm := Lib.hid hm
        rw [hm]
        clear hm
        go_wp2_with (fail)
        go_must (refine (HAl.out _).mono ?_)
        rintro e w6 ⟨rfl, hb6⟩
        have HB6 := Lib.hid (HB5.out.trans (hb6.mono HB5.out.size))
        clear hb6
        have hfin : ∀ {e : Ending} {w7 : World}, (∃ A cc, e = .returned (.slice A ids.length cc) ∧ Below w6.heap.size w6 w7) → Hid (Below w.heap.size w w7) := fun ⟨_, _, _, hb⟩ => hbw.out.trans ((HB6.out.trans (hb.mono HB6.out.size)).mono hbw.out.size)
        by_cases n2 : (2 : Int) < (m : Int)
        · go_wp2_with (fail)
          go_must (refine (HM.out _ HB6.out).mono ?_)
          rintro e w7 ⟨Am, cm, rfl, hb7⟩
          have HF := hfin ⟨Am, cm, rfl, hb7⟩
          clear hb7
          go_wp2_with (fail)
          go_ret
          exact ⟨rfl, HF.out⟩
        · by_cases n0 : (0 : Int) < (m : Int)
          · go_wp2_with (fail)
            go_must (refine (HM.out _ HB6.out).mono ?_)
            rintro e w7 ⟨Am, cm, rfl, hb7⟩
            have HF := hfin ⟨Am, cm, rfl, hb7⟩
            clear hb7
            go_wp2_with (fail)
            go_ret
            exact ⟨rfl, HF.out⟩
          · have hk0 : k = 0 := HK3.out (List.eq_nil_of_length_eq_zero (by have := HMm.out; omega))
            have hk1 : ((k : Int) + 1 == 1) = true := by rw [hk0]; rfl
            go_wp2_with (fail)
            go_must (refine (HM.out _ HB6.out).mono ?_)
            rintro e w7 ⟨Am, cm, rfl, hb7⟩
            have HF := hfin ⟨Am, cm, rfl, hb7⟩
            clear hb7
            go_wp2_with (fail)
            go_ret
            exact ⟨rfl, HF.out⟩

theorem call_treeHeight (hAl : ∀ W, Calls Tryz.prog 9 #[] W (TrueB W)) (A : Option Addr) (n c : Nat) (ops : List OpL) (w : World) (h : OpsAt w (.slice A n c) ops) :
    Calls Tryz.prog 3 #[.slice A n c] w fun e w' => e = .returned (.bool true) ∧ Below w.heap.size w w' := height_walk hAl A n c ops w h
end Go.Ev

set_option linter.unusedVariables false
set_option linter.unusedSimpArgs false
namespace Go.Proofs.YtijlmjfemedjdaaGreatDoor
open Go.ChangeShapes Go.WideShapes Go.ChangeAt Go.RowKit

theorem ownHeight : ownKnob Tryz.prog.godebug = none := by kernel_rfl

set_option maxRecDepth 100000 in
theorem treeHeight_lifted (os : Os) (started : os.Started) (H : Type) (enc : TypeId × Value → H) :
    ReturnsInHanded {} Tryz.checked os 3 .any (fun w args => (Rows.treeHeightSpec.pre enc Tryz.prog Tryz.f3 [] false w args ∧ laidMetH Tryz.prog Rows.treeHeightRow.laid w) ∧ sizedMet enc Tryz.prog Tryz.f3 (OpenSpec.ofChange Rows.treeHeightSpec) false w args)
      (Rows.treeHeightSpec.post enc Tryz.prog Tryz.f3 false true false false) := by
  refine returnsInHanded_of_change_and (C := Tryz.checked) (X := fun w _ => laidMetH Tryz.prog Rows.treeHeightRow.laid w) (fun _ _ _ hh h => h.of_heap hh) ownHeight started (by kernel_rfl) Tryz.func3
    (ChangeSpec.witness_shaped (enc := enc) (C := Tryz.checked) (os := os) (X := fun w _ => laidMetH Tryz.prog Rows.treeHeightRow.laid w) false (World.laidAll Tryz.prog os Rows.treeHeightRow.laid) #[.slice none 0 0] 8 (World.laidAll_os _ _ _)
      (World.shaped_of_ZipB (by kernel_rfl) (by kernel_rfl)) (by kernel_rfl) (by kernel_rfl) (by kernel_rfl)
      (by rw [MakeChecks.laidMetH_plain _ _ _ (by kernel_rfl)]; exact laidMet_laidAll _ (by kernel_rfl) (by kernel_rfl))) ?_
  intro W base args ds gs before hval0 hW _ _ hL _
  have hval : ∀ (j : Nat) t v, Tryz.f3.params[j]? = some t → args[j]? = some v → Value.okWide Tryz.prog W .any base t v := hval0
  have hW' := hW
  obtain ⟨p, q, hA0, hV, rfl, _, _⟩ := hW
  have hA : DataW.TrodAll enc Tryz.prog W 0 (fun _ => true) true Tryz.f3.params.toList args.toList ds p := hA0
  rw [Tryz.params3] at hA hval
  obtain ⟨v0, vs0, d0, ds0, p0, r0, hargs, rfl, rfl, h0, hr0⟩ := trodAll_cons hA
  obtain ⟨rfl, rfl, rfl⟩ := trodAll_nil hr0
  obtain rfl : args = #[v0] := by cases args; simp_all
  clear hargs hr0
  obtain ⟨rfl, rfl⟩ := trodVars_none hV
  have h0k := h0
  obtain ⟨pa, l, c, rfl⟩ := okWide_slice Tryz.underlying22 (hval 0 22 v0 rfl rfl)
  obtain ⟨fuel, hf⟩ := h0
  obtain ⟨ops, hops⟩ := Ev.slice_ops Tryz.underlying22 Tryz.underlying32 (by kernel_rfl) (by kernel_rfl) rfl rfl rfl Tryz.underlying3 Tryz.underlying9 Tryz.underlying9 hf
  simp only [List.append_nil] at hW'
  have hlt : ∀ x ∈ p0, x.block < W.heap.size := fun x hx => by simpa using hW'.lt x hx
  refine (Ev.call_treeHeight Ev.alive11 pa l c ops W hops).mono fun e W' ⟨hret, hw⟩ => ?_
  subst hret
  have hT0 := Below.trod (by kernel_rfl) (by kernel_rfl) (of_decide_eq_true (by kernel_rfl)) h0k hw hlt
  have hTs := trodAll_mk1 hT0
  exact ⟨_, rfl, _, _, _, [], p0, [], hW', trodAll_mk1 (shut_bool Tryz.underlying4 true), hTs, rfl, hw.frame _, fun h => by cases h⟩
end Go.Proofs.YtijlmjfemedjdaaGreatDoor

set_option linter.unusedVariables false
set_option linter.unusedSimpArgs false
namespace Go.Proofs.YtijlmjfemedjdaaGreatDoor
open Go.ChangeShapes Go.WideShapes Go.ChangeAt Go.RowKit

set_option maxHeartbeats 40000000 in
theorem treeHeight_facts : joinedFacts Tryz.prog 3 Tryz.f3 Rows.treeHeightSpec Rows.treeHeightRow = true := by kernel_rfl

set_option maxHeartbeats 40000000 in
theorem treeHeight_row : Rows.TreeHeightSaid :=
  OpenClaim.holds_of_wide 3 Tryz.f3 rfl rfl rfl rfl rfl rfl rfl ⟨rfl, rfl, rfl, rfl, rfl⟩ rfl rfl rfl rfl rfl (by as_aux_lemma => kernel_rfl) Tryz.func3 treeHeight_facts
    (of_decide_eq_true (by as_aux_lemma => kernel_rfl)) (by unfold Func.isWrapper; first | (rw [if_pos (by decide +kernel)]; kernel_rfl) | (rw [if_neg (by decide +kernel)]; exact ⟨rfl, rfl⟩))
    (fun os started H enc _ => treeHeight_lifted os started H enc)

set_option maxHeartbeats 40000000 in
theorem treeHeight_holds : Rows.TreeHeightCardSaid :=
  Claim7.holds_tied_plain_at .later [] [.data, .pinned] true (true, "771d84a5f72de596803082e9cbc3e013ac064352cf004b86303fdb988e65aead") true treeHeight_row (fun _ h => by cases h) (by as_aux_lemma => kernel_rfl) (fun _ h => by cases h) treeHeight_row_tie rfl ⟨rfl, rfl⟩ (by as_aux_lemma => kernel_rfl) rfl
    (fun f fn hf hfn => by
      obtain rfl : f = 3 := Option.some.inj ((show Tryz.prog.funcNamed "arboretum/arboretumlaw11.TreeHeight" = some 3 by as_aux_lemma => kernel_rfl).symm.trans hf) |>.symm
      obtain rfl : fn = Tryz.f3 := (Option.some.inj (Tryz.func3.symm.trans hfn)).symm
      exact ⟨by as_aux_lemma => kernel_rfl, fun j t ht => by
        rw [Tryz.params3] at ht
        have hm : t ∈ [22] := by simpa using Array.mem_of_getElem? ht
        have hall : ([22].all fun u => !Tryz.prog.wantsStandIn u) = true := by as_aux_lemma => kernel_rfl
        exact (show Tryz.prog.wantsStandIn t = false by simpa using List.all_eq_true.1 hall t hm)⟩)
    (by as_aux_lemma => kernel_rfl)
#print axioms treeHeight_holds
end Go.Proofs.YtijlmjfemedjdaaGreatDoor
