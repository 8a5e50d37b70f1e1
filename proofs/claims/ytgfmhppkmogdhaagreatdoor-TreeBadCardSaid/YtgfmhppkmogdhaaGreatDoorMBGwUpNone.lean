/-
  tree.up where there is no way and nothing is left: the root is an empty leaf.
-/
import Derived.Test.YtgfmhppkmogdhaaGreatDoorMBGwUp
set_option linter.unusedVariables false
set_option linter.unusedSimpArgs false
set_option linter.unusedVariables false
set_option linter.unusedSimpArgs false
namespace Go.Ev
open Go.Proofs Go.RowKit Go.Shelf

attribute [local go_sem] Oper.semAt_some

theorem Ups.nilnil {M M2 : Store} {kids kids2 : List Child} {nn : List Int} (h : Ups M kids [] M2 kids2 nn) : M2 = M ∧ kids2 = kids ∧ nn = [] := by
  generalize hG : ([] : List (Int × Nat × List Child)) = G at h
  cases h with
  | nil => exact ⟨rfl, rfl, rfl⟩
  | snoc h1 h2 h3 => simp at hG

section
variable {p most cnt : Nat} {x : Wc} {M : Store} {made dropped : List Int}

/-- What is made: an empty leaf. -/
def UpNoneP (p : Nat) (x : Wc) (most : Nat) (M : Store) (cnt : Nat) (made dropped : List Int) (w : World) (e : Ending) (w' : World) : Prop :=
  ∃ root x', e = .returned (.tuple #[.int .i64 root, .int .i64 0]) ∧ M root = none ∧ 2 ≤ root ∧ WkOk w' p x' most (updS M root (some ⟨2, 0, []⟩)) (cnt + 1) (made ++ [root]) dropped ∧ WkK p x x' w w ∧ Keeps (fun j => x.S p j) w w'

set_option maxHeartbeats 8000000 in
set_option maxRecDepth 100000 in
theorem up_none (A : Option Addr) (cp : Nat) (st : List Step) (kids : List Child) (hst0 : st = []) (hk0 : kids = []) (w : World) (h : WkOk w p x most M cnt made dropped) (hst : w.ownsRow 0 239 3 (.slice A st.length cp) st.length (stepsCs st)) (hroom : cnt + 4 ≤ most) (hmd : made.length ≤ 1000) :
    Calls Tryz.prog 107 #[ptrV x.b, .slice A st.length cp, .slice none 0 0] w (UpNoneP p x most M cnt made dropped w) := by
  have hl : st.length ≤ 30 := by rw [hst0]; simp
  have hkids : OwnsC w 0 (.slice none kids.length 0) kids := by subst hk0; exact World.ownsRow_nil _ _ _ _
  have hkS : ∀ j, (Value.slice none kids.length 0).ownBlock = some j → ¬ x.S p j := fun j hj => by cases hj
  have hk00 : (0 : Nat) = kids.length := by subst hk0; rfl
  rw [show (Value.slice none 0 0) = .slice none kids.length 0 by rw [← hk00]]
  clear hk00
  have HST0 := Lib.hid hst0
  have HK0 := Lib.hid hk0
  clear hst0 hk0
  have hBk := Lib.hid (fun W => callsIn_wide.1 (backward_in Fence.wide 9 trivial rfl A st.length cp W))
  refine (callsIn_wide (n := 9)).1 (callsIn_of_wp_marks Tryz.func107 rfl trivial (wpIn_wide.2 ?_) rfl)
  simp only [Tryz.ntmps107, List.size_toArray, List.length_cons, List.length_nil, Nat.reduceAdd, Nat.reduceSub, Array.replicate_succ, Array.replicate_zero, List.push_toArray, List.append_toArray, List.nil_append, List.cons_append]
  go_wp2_with (fail)
  go_must (refine (hBk.out _).mono ?_)
  rintro e w1 ⟨rfl, rfl⟩
  go_wp2_with (fail)
  refine (wpIn_wide (n := 9)).1 ?_
  obtain ⟨W0, hW0⟩ : ∃ W0, ((((((w.alloc (.cells #[ptrV x.b] 137)).alloc (.cells #[.slice A st.length cp] 132)).alloc (.cells #[.slice none kids.length 0] 103)).alloc (.cells #[.int .i64 0] 3)).alloc (.cells #[.int .i64 0] 30)).alloc (.cells #[.slice A st.length cp] 132)) = W0 := ⟨_, rfl⟩
  have hB0 : Below w.heap.size w W0 := by
    rw [← hW0]
    exact ((((((Below.refl _ w).alloc (Nat.le_refl _) _).alloc (by simp) _).alloc (by simp; omega) _).alloc (by simp; omega) _).alloc (by simp; omega) _).alloc (by simp; omega) _
  have hsz : W0.heap.size = w.heap.size + 6 := by rw [← hW0]; simp
  obtain ⟨g, hA, hgl, hg0, hgc⟩ : ∃ g, (0 < st.length → A = some ⟨g, 0, none⟩) ∧ (0 < st.length → g < w.heap.size) ∧ (¬ 0 < st.length → g < w.heap.size + 6) ∧ ∀ j u, (stepsCs st)[j]? = some u → w.cell? ⟨g, 0 + j, none⟩ = some u := by
    rcases hst.2 with ⟨e, h0⟩ | ⟨g, cap, cur, e, _, hh, _⟩
    · refine ⟨0, fun h => by omega, fun h => by omega, fun _ => by omega, fun j u hu => ?_⟩
      have : st = [] := List.eq_nil_of_length_eq_zero h0
      subst this
      simp [stepsCs] at hu
    · simp only [Value.slice.injEq] at e
      obtain ⟨rfl, _, _⟩ := e
      obtain ⟨_, _, e0, _, _, hcl⟩ := Sl.of_own hst
      cases e0
      by_cases hp : 0 < st.length
      · obtain ⟨b', o', e1, hb', hc'⟩ := hcl hp
        cases e1
        exact ⟨_, fun _ => rfl, fun _ => hb', fun h => absurd hp h, hc'⟩
      · have : st = [] := List.eq_nil_of_length_eq_zero (by omega)
        subst this
        exact ⟨0, fun h => absurd h (by simp), fun h => absurd h (by simp), fun _ => by omega, fun j u hu => by simp [stepsCs] at hu⟩
  have hbs : W0.cell? ⟨w.heap.size + 5, 0, none⟩ = some (.slice A st.length cp) := by
    rw [← hW0]
    have := (Blk.new' (w := (((((w.alloc (.cells #[ptrV x.b] 137)).alloc (.cells #[.slice A st.length cp] 132)).alloc (.cells #[.slice none kids.length 0] 103)).alloc (.cells #[.int .i64 0] 3)).alloc (.cells #[.int .i64 0] 30))) (t := 132) (cs := #[.slice A st.length cp]) (g := w.heap.size + 5) (by simp)).cell 0
    exact this
  have k3 : Blk W0 w.heap.size 137 #[ptrV x.b] := by
    rw [← hW0]; exact (((((Blk.new' rfl).alloc _).alloc _).alloc _).alloc _).alloc _
  have k4 : Blk W0 (w.heap.size + 1) 132 #[.slice A st.length cp] := by
    rw [← hW0]; exact ((((Blk.new' (by simp)).alloc _).alloc _).alloc _).alloc _
  have k5 : Blk W0 (w.heap.size + 2) 103 #[.slice none kids.length 0] := by
    rw [← hW0]; exact (((Blk.new' (by simp)).alloc _).alloc _).alloc _
  have k6 : Blk W0 (w.heap.size + 3) 3 #[.int .i64 0] := by
    rw [← hW0]; exact ((Blk.new' (by simp)).alloc _).alloc _
  have k7 : Blk W0 (w.heap.size + 4) 30 #[.int .i64 0] := by
    rw [← hW0]; exact (Blk.new' (by simp)).alloc _
  have k8 : Blk W0 (w.heap.size + 5) 132 #[.slice A st.length cp] := by
    rw [← hW0]; exact Blk.new' (by simp)
  rw [hW0]
  clear hW0
  refine rangeFunc_each rfl (by decide) rfl trivial (enters_of Tryz.func210 (by kernel_rfl) rfl)
    (back_each Fence.wide 8 trivial rfl (by decide) (w.heap.size + 5) g 0 cp A st (by omega) W0 (by omega) hbs hA (fun h => by have := hgl h; omega) (fun j u hu => by
      have hs0 : 0 < st.length := by
        cases st with
        | nil => simp [stepsCs] at hu
        | cons s l => simp
      exact (hB0.cell (p := ⟨g, 0 + j, none⟩) (hgl hs0)).trans (hgc j u hu))) (fun h k => h.trans k) ?hKb (fun _ => rfl)
    (UpI p x most M cnt made dropped st (.slice A st.length cp) (.slice none kids.length 0) kids w) ?hI ?h0
    (fun i a' W => ∃ Bx, w.heap.size + 6 ≤ Bx ∧ Blk W Bx 239 (stepCs st[i.1]).toArray ∧ a' = { tmps := #[ptrV x.b, .slice A st.length cp, .slice none kids.length 0, ptrV w.heap.size, ptrV (w.heap.size + 1), ptrV (w.heap.size + 1 + 1), ptrV (w.heap.size + 1 + 1 + 1), ptrV (w.heap.size + 1 + 1 + 1 + 1), undef, ptrV Bx, undef, undef, undef, .slice A st.length cp, .func (.func 210) #[] #[ptrV (w.heap.size + 1 + 1 + 1 + 1 + 1)], .int .i64 (i.1 : Int), stepV st[i.1], undef, undef, undef, undef, undef, undef, undef, undef, undef, undef, undef, undef, undef, undef, undef, undef, undef, undef, undef, undef, undef, undef, undef, undef, undef, undef, undef, undef, undef, undef, undef, undef, undef, undef, undef, undef, undef, undef, undef, undef, undef, undef, undef, undef, undef, undef, undef, undef, undef, undef, undef, undef, undef, undef, undef, undef, undef, undef, undef, undef, undef, undef, undef, undef, undef, undef, undef, undef, undef, undef, undef, undef, undef, undef, undef, undef, undef, undef, undef, undef, undef, undef, undef, undef, undef], defers := [] }) ?hAx ?assign ?body ?done
  case hKb =>
    intro W l o o' hl _ _ _
    have hg6 : g < w.heap.size + 6 := by
      by_cases hp : 0 < st.length
      · have := hgl hp; omega
      · exact hg0 hp
    exact ⟨World.putObj_heap_other (by omega), World.putObj_heap_other (by omega)⟩
  case hI => exact UpI.own (by omega)
  case hAx =>
    rintro i a' _ W W' row ⟨Bx, h1, h2, h3⟩ hg' hr
    exact ⟨Bx, h1, blk_turn h2 hg' hr, h3⟩
  case h0 =>
    have hlt := h.lt
    refine ⟨⟨M, kids, [], x, .slice none kids.length 0, .nil, by simpa using h.below hB0, WkK.refl _ _ _, own_below hkids hB0, k5, fun j hj => ⟨hkS j hj, .inl hj⟩, fun j h1 h2 h3 => by have := hlt j h3; omega, fun j hj => .inl hj, rfl, ?_⟩, Keeps.of_below hB0, k3, k4, k6, k7, k8⟩
    have q := fun j (hj : j ∈ x.c.ids p) => hlt j (.inl (.inl hj))
    exact ⟨by have := q x.c.mb (by simp [Pc.ids]); omega, by have := q x.c.db (by simp [Pc.ids]); omega, by have := q x.c.wb (by simp [Pc.ids]); omega⟩
  case assign =>
    rintro l k i W K hx hI hK
    have h1 : i.1 < st.length := i.2
    have h2 : st.length = 0 := by rw [HST0.out]; rfl
    omega
  case body =>
    rintro l k i a' W hx hI _
    have h1 : i.1 < st.length := i.2
    have h2 : st.length = 0 := by rw [HST0.out]; rfl
    omega
  case done =>
    intro D W hD hI hWD
    rename_i KK hKK
    refine hKK _ _ ?_
    dsimp only
    obtain ⟨⟨M1, kids1, new, x1, kv, i1, i2, i3, i4, i5, i6, i7, i8, i9, i10⟩, hf, q3, q4, q6, q7, qs⟩ := hI
    obtain rfl : st = [] := HST0.out
    obtain rfl : kids = [] := HK0.out
    simp only [List.map_nil, List.reverse_nil, List.take_nil] at i1 i2
    obtain ⟨e1, rfl, rfl⟩ := i1.nilnil
    rw [e1] at i2
    simp only [List.map_nil, List.append_nil, List.length_nil, Nat.add_zero] at i2
    have hkv : ∃ A2 c2, kv = .slice A2 0 c2 := by
      unfold OwnsC at i4
      obtain ⟨A2, c2, e, _⟩ := Sl.of_own i4
      exact ⟨A2, c2, e⟩
    obtain ⟨A2, c2, rfl⟩ := hkv
    have hDge : w.heap.size + 6 ≤ D := by omega
    have hdlt : D < W.heap.size := (Array.getElem?_eq_some_iff.1 hWD).1
    have HN : Hid (WkOk W p x1 most M cnt made dropped ∧ WkK p x x1 w w ∧ Blk W (w.heap.size + 2) 103 #[.slice A2 0 c2] ∧ (∀ j, w.heap.size ≤ j → j < w.heap.size + 6 → ¬ x1.S p j) ∧ (∀ j, x1.S p j → x.S p j ∨ w.heap.size ≤ j) ∧ x1.b = x.b ∧ x1.c.maps (w.heap.size + 6) ∧ Keeps (fun j => x.S p j) w W ∧ Blk W w.heap.size 137 #[ptrV x.b] ∧ Blk W (w.heap.size + 3) 3 #[.int .i64 0] ∧ Blk W (w.heap.size + 4) 30 #[.int .i64 0] ∧ W.heap[D]? = some (.deferred (some []))) :=
      ⟨i2, i3, i5, i7, i8, i9, i10, hf.mono fun i _ e => e.resolve_right (by intro e; cases e), q3, q6, q7, hWD⟩
    have g3 : W.cell? ⟨w.heap.size, 0, none⟩ = some (ptrV x.b) := q3.cell 0
    have g5 : W.cell? ⟨w.heap.size + 2, 0, none⟩ = some (.slice A2 0 c2) := i5.cell 0
    have hPg := page_any ⟨2, 0, []⟩ i2 (by simp [Pg.ok]) rfl (by omega) (by omega)
    rw [i9] at hPg
    have HPg := Lib.hid hPg
    clear i1 i2 i3 i4 i5 i6 i7 i8 i9 i10 hf q3 q4 q6 q7 qs hst hkids h hBk hB0 hA hgl hg0 hgc hbs k3 k4 k5 k6 k7 k8 hWD hkS hPg
    go_wp2
    go_loopg [] 0 (fun gk wr => W = wr)
    case atStart => rfl
    case round =>
      subst hrel
      go_wp2_with (fail)
      go_must (refine HPg.out.mono ?_)
      rintro e W6 ⟨root, x3, rfl, r1, r2, r3, hW6, hK6⟩
      obtain ⟨j2, j3, j5, j7, j8, j9, j10, jf, p3, p6, p7, pd⟩ := HN.out
      have hz6 := hK6.keeps.size
      have u6 := p6.keeps hK6.keeps (j7 _ (by omega) (by omega))
      have u7 := p7.keeps hK6.keeps (j7 _ (by omega) (by omega))
      have ud : W6.heap[D]? = some (.deferred (some [])) := (hK6.keeps.block D hdlt fun e => by
        rcases j2.cells D e with e | ⟨o', e1, e2⟩
        · obtain ⟨m1, m2, m3⟩ := j10
          omega
        · rw [pd] at e1; cases e1; cases e2).trans pd
      have c6 : W6.cell? ⟨w.heap.size + 3, 0, none⟩ = some (.int .i64 0) := u6.cell 0
      have f6 := u6.frozen 0
      have c7 : W6.cell? ⟨w.heap.size + 4, 0, none⟩ = some (.int .i64 0) := u7.cell 0
      have f7 := u7.frozen 0
      have hn3 : ∀ j, w.heap.size ≤ j → j < w.heap.size + 6 → ¬ x3.S p j := fun j h1 h2 e => by
        rcases hK6.sub j e with e | e
        · exact j7 j h1 h2 e
        · have := p7.lt; have := hdlt; omega
      obtain ⟨Wf, hWf⟩ : ∃ Wf, Wf = (W6.setCell ⟨w.heap.size + 3, 0, none⟩ (.int .i64 root)).setCell ⟨w.heap.size + 4, 0, none⟩ (.int .i64 0) := ⟨_, rfl⟩
      have KF : Keeps (fun j => j = w.heap.size + 3 ∨ j = w.heap.size + 4) W6 Wf := by
        rw [hWf]
        exact ((Keeps.refl _ W6).setCell (p := ⟨w.heap.size + 3, 0, none⟩) (fun _ => .inl rfl) _).setCell (p := ⟨w.heap.size + 4, 0, none⟩) (fun _ => .inr rfl) _
      have hdF : Wf.heap[D]? = some (.deferred (some [])) := (KF.block D (by omega) (by omega)).trans ud
      have r6 : Blk Wf (w.heap.size + 3) 3 #[.int .i64 root] := by
        rw [hWf]
        exact (u6.set 0 _).keeps ((Keeps.refl (fun j => j = w.heap.size + 4) _).setCell (p := ⟨w.heap.size + 4, 0, none⟩) (fun _ => rfl) _) (fun e => by omega)
      have r7 : Blk Wf (w.heap.size + 4) 30 #[.int .i64 0] := by
        rw [hWf]
        exact (u7.keeps ((Keeps.refl (fun j => j = w.heap.size + 3) W6).setCell (p := ⟨w.heap.size + 3, 0, none⟩) (fun _ => rfl) _) (fun e => by omega)).set 0 _
      have hgp := grownBy_putObj' Wf D (.deferred none)
      have s6 : Blk (Wf.putObj D (.deferred none)) (w.heap.size + 3) 3 #[.int .i64 root] := blk_turn (B := w.heap.size + 6) r6 hgp (fun r e => by cases e; exact ⟨hDge, _, hdF, rfl⟩)
      have s7 : Blk (Wf.putObj D (.deferred none)) (w.heap.size + 4) 30 #[.int .i64 0] := blk_turn (B := w.heap.size + 6) r7 hgp (fun r e => by cases e; exact ⟨hDge, _, hdF, rfl⟩)
      have y6 : (Wf.putObj D (.deferred none)).cell? ⟨w.heap.size + 3, 0, none⟩ = some (.int .i64 root) := s6.cell 0
      have y7 : (Wf.putObj D (.deferred none)).cell? ⟨w.heap.size + 4, 0, none⟩ = some (.int .i64 0) := s7.cell 0
      have HE : Hid (UpNoneP p x most M cnt made dropped w (.returned (.tuple #[.int .i64 root, .int .i64 0])) (Wf.putObj D (.deferred none))) := by
        have hWF := hW6.keeps KF (fun j hj e => hn3 j (by omega) (by omega) hj)
        have hm3 : x3.c.maps (w.heap.size + 6) := by
          obtain ⟨m1, m2, m3⟩ := j10
          exact ⟨by rw [hK6.mb]; exact m1, by rw [hK6.db]; exact m2, by rw [hK6.wb]; exact m3⟩
        have hWP := hWF.turn hm3 hgp (fun r e => by cases e; exact ⟨hDge, _, hdF, rfl⟩)
        refine ⟨root, x3, rfl, r1, r2, hWP, ⟨Keeps.refl _ _, fun j e => (hK6.sub j e).elim (fun e => j8 j e) (fun e => .inr (by omega)), hK6.same.trans j3.same, hK6.mb.trans j3.mb, hK6.db.trans j3.db, hK6.wb.trans j3.wb⟩, ?_⟩
        refine ((jf.trans hK6.keeps fun i hi e => ?_).trans KF (fun i hi e => by omega)).grown hgp (fun r e hlt => by cases e; omega)
        rcases j8 i e with e | e
        · exact e
        · omega
      have HW := Lib.hid hWf
      have HdF := Lib.hid hdF
      clear hW6 hK6 j2 j3 j5 j7 j8 j9 j10 jf p3 p6 p7 pd KF hgp r6 r7 s6 s7 hWf hdF u6 u7 ud hn3
      go_wp2_with (fail)
      rw [show (W6.setCell ⟨w.heap.size + 1 + 1 + 1, 0, none⟩ (.int .i64 root)).setCell ⟨w.heap.size + 1 + 1 + 1 + 1, 0, none⟩ (.int .i64 0) = Wf from HW.out.symm]
      have y6' : (Wf.putObj D (.deferred none)).cell? ⟨w.heap.size + 1 + 1 + 1, 0, none⟩ = some (.int .i64 root) := y6
      have y7' : (Wf.putObj D (.deferred none)).cell? ⟨w.heap.size + 1 + 1 + 1 + 1, 0, none⟩ = some (.int .i64 0) := y7
      refine ⟨by simp, .inl ⟨_, _, rfl, run_takeDeferred HdF.out, ?_⟩⟩
      refine ⟨.tuple #[.int .i64 root, .int .i64 0], ?_, HE.out⟩
      simp [results, Tryz.results107, go_sem, y6', y7']
end
end Go.Ev
