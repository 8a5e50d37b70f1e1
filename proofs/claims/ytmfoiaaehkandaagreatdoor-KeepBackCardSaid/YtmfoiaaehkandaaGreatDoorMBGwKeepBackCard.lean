/-
  The law KeepBack: its walk, and how its arguments are read. The law arboretumlaw19.KeepBack holds, whatever it is handed: its text is walked over the contracts of all that it calls; conditions: the row's own (the listed variables are as the program's text lays them). The law arboretumlaw19.KeepBack holds, whatever it is handed: its text is walked over the contracts of all that it calls; conditions: the row's own (the listed variables are as the program's text lays them).
-/
import Derived.Test.YtmfoiaaehkandaaGreatDoorMBGwKeepBack
import Derived.Carry
import Derived.ChangeMaps5
import Derived.LaidMore
import Derived.Lay
import Derived.OpenShut
import Derived.ProofKit
import Derived.SevenTiedAt
import Derived.Stop.Joined
import Derived.Test.YtmfoiaaehkandaaGreatDoorCards
import Derived.Test.YtmfoiaaehkandaaGreatDoorTie
set_option linter.unusedVariables false
set_option linter.unusedSimpArgs false
namespace Go.Ev
open Go.Proofs Go.RowKit
section
open Go.ChangeShapes Go.WideShapes Go.Joins Go.Deep
variable {H : Type} {enc : TypeId × Value → H} {P : Program} {w : World} {base : Nat} {spare : Nat → Bool} {held : Bool}
theorem slice_entsN {t e : TypeId} {gs : Array Field} {fuel : Nat} {v : Value} {y : DataW H × List MemPlace} (ht : P.underlying t = some (.slice e)) (he : P.underlying e = some (.struct gs)) (hC : P.cellsOf e = 4)
  {g0 g1 g2 g3 : Field} (h0 : gs[0]? = some g0) (h1 : gs[1]? = some g1) (h2 : gs[2]? = some g2) (h3 : gs[3]? = some g3) (o0 : g0.offset = 0) (o1 : g1.offset = 1) (o2 : g2.offset = 2) (o3 : g3.offset = 3)
  (c0 : P.cellsOf g0.type = 1) (c1 : P.cellsOf g1.type = 1) (c2 : P.cellsOf g2.type = 1) (c3 : P.cellsOf g3.type = 1)
  (t0 : P.underlying g0.type = some (.int .i64)) (t1 : P.underlying g1.type = some (.int .i64)) (t2 : P.underlying g2.type = some (.int .i64)) (t3 : P.underlying g3.type = some .string)
  (h : DataW.trod enc P w base spare held fuel t [v] = some y) : ∃ l, EntsIn w v l := by
 have hnil : ∀ A n c, v = .slice A n c → A = none → c = 0 := by
  rcases open_slice ht h with ⟨e0, _⟩ | ⟨a, len, cap, m, n, D, Pl, e0, hb, hl, hm, hmm, hx, hi⟩
  ·simp only [List.cons.injEq, and_true] at e0
   subst e0
   intro A n c e _
   cases e
   rfl
  ·simp only [List.cons.injEq, and_true] at e0
   subst e0
   intro A n' c e e2
   cases e
   cases e2
 suffices hh : ∃ l : List LogE, Sl w 4 v l.length (l.flatMap entCs) ∧ l.length ≤ maxLen ∧ ∀ o ∈ l, I64 o.idx ∧ I64 o.term ∧ I64 o.kind ∧ o.data.length ≤ maxLen by
  obtain ⟨l, q1, q2, q3⟩ := hh
  exact ⟨l, q1, q2, q3, hnil⟩
 refine slice_rows (f := entCs) (Q := fun o => I64 o.idx ∧ I64 o.term ∧ I64 o.kind ∧ o.data.length ≤ maxLen) ht hC (by omega) entCs_len (fun n' cs x hl hx => ?_) h
 match cs, hl with
 | [a0, a1, a2, a3], _ =>
  obtain ⟨xs, n1, _, _, _, hxl, hf⟩ := DataW.trod_struct he hx
  have hgs : 3 < gs.size := (Array.getElem?_eq_some_iff.1 h3).1
  have f0 := hf 0 g0 h0
  have f1 := hf 1 g1 h1
  have f2 := hf 2 g2 h2
  have f3 := hf 3 g3 h3
  rw [o0, c0, List.getElem?_eq_getElem (by omega)] at f0
  rw [o1, c1, List.getElem?_eq_getElem (by omega)] at f1
  rw [o2, c2, List.getElem?_eq_getElem (by omega)] at f2
  rw [o3, c3, List.getElem?_eq_getElem (by omega)] at f3
  obtain ⟨z0, e0, _, b0⟩ := DataW.trod_int t0 f0
  obtain ⟨z1, e1, _, b1⟩ := DataW.trod_int t1 f1
  obtain ⟨z2, e2, _, b2⟩ := DataW.trod_int t2 f2
  obtain ⟨z3, e3, _, b3⟩ := DataW.trod_string t3 f3
  simp at e0 e1 e2 e3
  subst e0 e1 e2 e3
  exact ⟨⟨z0, z1, z2, z3.data.toList⟩, by simp [entCs], i64_wfE b0, i64_wfE b1, i64_wfE b2, b3⟩
end
end Go.Ev
namespace Go.Proofs.YtmfoiaaehkandaaGreatDoor
open Go.ChangeShapes Go.WideShapes Go.ChangeAt Go.RowKit
theorem ownKeepBack : ownKnob Tryz.prog.godebug = none := by kernel_rfl
set_option maxRecDepth 100000 in
theorem keepBack_lifted (os : Os) (started : os.Started) (H : Type) (enc : TypeId × Value → H) :
  ReturnsInHanded {} Tryz.checked os 3 .any (fun w args => (Rows.keepBackSpec.pre enc Tryz.prog Tryz.f3 [] false w args ∧ laidMetH Tryz.prog Rows.keepBackRow.laid w) ∧ sizedMet enc Tryz.prog Tryz.f3 (OpenSpec.ofChange Rows.keepBackSpec) false w args)
   (Rows.keepBackSpec.post enc Tryz.prog Tryz.f3 false true false false) := by
 refine returnsInHanded_of_change_and (C := Tryz.checked) (X := fun w _ => laidMetH Tryz.prog Rows.keepBackRow.laid w) (fun _ _ _ hh h => h.of_heap hh) ownKeepBack started (by kernel_rfl) Tryz.func3
  (ChangeSpec.witness_shaped (enc := enc) (C := Tryz.checked) (os := os) (X := fun w _ => laidMetH Tryz.prog Rows.keepBackRow.laid w) false (World.laidAll Tryz.prog os Rows.keepBackRow.laid) #[.agg #[.int .i64 0, .int .i64 0, .int .i64 0], .slice none 0 0, .slice none 0 0, .int .i64 0, .int .i64 0, .int .i64 0] 8 (World.laidAll_os _ _ _)
   (World.shaped_of_ZipB (by kernel_rfl) (by kernel_rfl)) (by kernel_rfl) (by kernel_rfl) (by kernel_rfl)
   (by rw [MakeChecks.laidMetH_plain _ _ _ (by kernel_rfl)]; exact laidMet_laidAll _ (by kernel_rfl) (by kernel_rfl))) ?_
 intro W base args ds gs before hval0 hW _ _ hL _
 have hval : ∀ (j : Nat) t v, Tryz.f3.params[j]? = some t → args[j]? = some v → Value.okWide Tryz.prog W .any base t v := hval0
 have hW' := hW
 obtain ⟨p, q, hA0, hV, rfl, _, _⟩ := hW
 have hA : DataW.TrodAll enc Tryz.prog W 0 (fun _ => true) true Tryz.f3.params.toList args.toList ds p := hA0
 rw [Tryz.params3] at hA hval
 obtain ⟨v0, vs0, d0, ds0, p0, r0, hargs, rfl, rfl, h0, hr0⟩ := trodAll_cons hA
 obtain ⟨v1, vs1, d1, ds1, p1, r1, rfl, rfl, rfl, h1, hr1⟩ := trodAll_cons hr0
 obtain ⟨v2, vs2, d2, ds2, p2, r2, rfl, rfl, rfl, h2, hr2⟩ := trodAll_cons hr1
 obtain ⟨v3, vs3, d3, ds3, p3, r3, rfl, rfl, rfl, h3, hr3⟩ := trodAll_cons hr2
 obtain ⟨v4, vs4, d4, ds4, p4, r4, rfl, rfl, rfl, h4, hr4⟩ := trodAll_cons hr3
 obtain ⟨v5, vs5, d5, ds5, p5, r5, rfl, rfl, rfl, h5, hr5⟩ := trodAll_cons hr4
 obtain ⟨rfl, rfl, rfl⟩ := trodAll_nil hr5
 obtain rfl : args = #[v0, v1, v2, v3, v4, v5] := by cases args; simp_all
 clear hargs hr0 hr1 hr2 hr3 hr4 hr5
 obtain ⟨rfl, rfl⟩ := trodVars_none hV
 obtain ⟨x0, y0, z0, rfl, rfl, hx0, hy0, hz0, hsame0⟩ := Ev.open_hard (by kernel_rfl) (hval 0 23 v0 rfl rfl) h0
 have h1k := h1
 obtain ⟨pa1, l1, c1, rfl⟩ := okWide_slice Tryz.underlying24 (hval 1 24 v1 rfl rfl)
 obtain ⟨fuel1, hf1⟩ := h1
 obtain ⟨ops1, hops1⟩ := Ev.slice_entsN Tryz.underlying24 Tryz.underlying62 (by kernel_rfl) rfl rfl rfl rfl rfl rfl rfl rfl (by kernel_rfl) (by kernel_rfl) (by kernel_rfl) (by kernel_rfl) Tryz.underlying3 Tryz.underlying3 Tryz.underlying3 Tryz.underlying9 hf1
 have h2k := h2
 obtain ⟨pa2, l2, c2, rfl⟩ := okWide_slice Tryz.underlying24 (hval 2 24 v2 rfl rfl)
 obtain ⟨fuel2, hf2⟩ := h2
 obtain ⟨ops2, hops2⟩ := Ev.slice_entsN Tryz.underlying24 Tryz.underlying62 (by kernel_rfl) rfl rfl rfl rfl rfl rfl rfl rfl (by kernel_rfl) (by kernel_rfl) (by kernel_rfl) (by kernel_rfl) Tryz.underlying3 Tryz.underlying3 Tryz.underlying3 Tryz.underlying9 hf2
 obtain ⟨m3, rfl, rfl, rfl, hm3⟩ := open_int Tryz.underlying3 (hval 3 3 v3 rfl rfl) h3
 obtain ⟨m4, rfl, rfl, rfl, hm4⟩ := open_int Tryz.underlying3 (hval 4 3 v4 rfl rfl) h4
 obtain ⟨m5, rfl, rfl, rfl, hm5⟩ := open_int Tryz.underlying3 (hval 5 3 v5 rfl rfl) h5
 simp only [List.append_nil, List.nil_append] at hW'
 have hlt1 : ∀ x ∈ p1, x.block < W.heap.size := fun x hx => hW'.lt x (by simp [hx])
 have hlt2 : ∀ x ∈ p2, x.block < W.heap.size := fun x hx => hW'.lt x (by simp [hx])
 have hcall := Ev.back_walk x0 y0 z0 pa1 l1 c1 ops1 pa2 l2 c2 ops2 m3 m4 m5 W (Ev.i64_wfE hx0) (Ev.i64_wfE hy0) (Ev.i64_wfE hz0) hops1 hops2 (Ev.i64_wfE hm3) (Ev.i64_wfE hm4) (Ev.i64_wfE hm5)
 refine hcall.mono fun e W' ⟨hret, hw⟩ => ?_
 subst hret
 have hT1 := Below.trod (by kernel_rfl) (by kernel_rfl) (of_decide_eq_true (by kernel_rfl)) h1k hw hlt1
 have hT2 := Below.trod (by kernel_rfl) (by kernel_rfl) (of_decide_eq_true (by kernel_rfl)) h2k hw hlt2
 have hTs := trodAll_cons_mk (hsame0 _ _ _ _) (trodAll_cons_mk hT1 (trodAll_cons_mk hT2 (trodAll_cons_mk (shut_int Tryz.underlying3 hm3) (trodAll_cons_mk (shut_int Tryz.underlying3 hm4) (trodAll_mk1 (shut_int Tryz.underlying3 hm5))))))
 exact ⟨_, rfl, _, _, _, [], p1 ++ p2, [], hW', trodAll_mk1 (shut_bool Tryz.underlying4 true), (by
  simp only [List.append_nil, List.nil_append] at hTs ⊢
  exact hTs), rfl, hw.frame _, fun h => by cases h⟩
end Go.Proofs.YtmfoiaaehkandaaGreatDoor
namespace Go.Proofs.YtmfoiaaehkandaaGreatDoor
open Go.ChangeShapes Go.WideShapes Go.ChangeAt Go.RowKit
set_option maxHeartbeats 40000000 in
theorem keepBack_facts : joinedFacts Tryz.prog 3 Tryz.f3 Rows.keepBackSpec Rows.keepBackRow = true := by kernel_rfl
set_option maxHeartbeats 40000000 in
theorem keepBack_row : Rows.KeepBackSaid :=
 OpenClaim.holds_of_wide 3 Tryz.f3 rfl rfl rfl rfl rfl rfl rfl ⟨rfl, rfl, rfl, rfl, rfl⟩ rfl rfl rfl rfl rfl (by as_aux_lemma => kernel_rfl) Tryz.func3 keepBack_facts
  (of_decide_eq_true (by as_aux_lemma => kernel_rfl)) (by unfold Func.isWrapper; first | (rw [if_pos (by decide +kernel)]; kernel_rfl) | (rw [if_neg (by decide +kernel)]; exact ⟨rfl, rfl⟩))
  (fun os started H enc _ => keepBack_lifted os started H enc)
set_option maxHeartbeats 40000000 in
theorem keepBack_holds : Rows.KeepBackCardSaid :=
 Claim7.holds_tied_plain_at .later [] [.data, .pinned] true (true, "7fe17c42c0e49ccfca31a765acb9a0d2e44b8c2aa015a748bce073b15958d515") true keepBack_row (fun _ h => by cases h) (by as_aux_lemma => kernel_rfl) (fun _ h => by cases h) keepBack_row_tie rfl ⟨rfl, rfl⟩ (by as_aux_lemma => kernel_rfl) rfl
  (fun f fn hf hfn => by
   obtain rfl : f = 3 := Option.some.inj ((show Tryz.prog.funcNamed "arboretum/arboretumlaw19.KeepBack" = some 3 by as_aux_lemma => kernel_rfl).symm.trans hf) |>.symm
   obtain rfl : fn = Tryz.f3 := (Option.some.inj (Tryz.func3.symm.trans hfn)).symm
   exact ⟨by as_aux_lemma => kernel_rfl, fun j t ht => by
    rw [Tryz.params3] at ht
    have hm : t ∈ [23, 24, 24, 3, 3, 3] := by simpa using Array.mem_of_getElem? ht
    have hall : ([23, 24, 24, 3, 3, 3].all fun u => !Tryz.prog.wantsStandIn u) = true := by as_aux_lemma => kernel_rfl
    exact (show Tryz.prog.wantsStandIn t = false by simpa using List.all_eq_true.1 hall t hm)⟩)
  (by as_aux_lemma => kernel_rfl)
#print axioms keepBack_holds
end Go.Proofs.YtmfoiaaehkandaaGreatDoor
