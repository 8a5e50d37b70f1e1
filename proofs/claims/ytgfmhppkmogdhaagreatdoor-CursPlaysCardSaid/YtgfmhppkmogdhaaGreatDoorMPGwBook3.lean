/-
  A book of lists of pairs: are they as they were, are they marked? A book of lists of pairs: all lists are marked where they lie.
-/
import Derived.Test.YtgfmhppkmogdhaaGreatDoorMPGvAny2
import Derived.Test.YtgfmhppkmogdhaaGreatDoorMPGwSame
import Derived.Test.YtgfmhppkmogdhaaGreatDoorMPGwRange
set_option linter.unusedVariables false
set_option linter.unusedSimpArgs false
set_option linter.unusedVariables false
set_option linter.unusedSimpArgs false
namespace Go.Ev
open Go.Proofs Go.RowKit

/-- Slices that read as lists of pairs. -/
def SlL (W : World) (ms : List Value) (ls : List (List Pair)) : Prop := ms.length = ls.length ∧ ∀ (i : Nat) (v : Value) (l : List Pair), ms[i]? = some v → ls[i]? = some l → Sl W 2 v l.length (pairsCs l)

theorem SlL.below {W W' : World} {ms : List Value} {ls : List (List Pair)} (h : SlL W ms ls) (hb : Below W.heap.size W W') : SlL W' ms ls := ⟨h.1, fun i v l h1 h2 => (h.2 i v l h1 h2).below hb⟩

theorem SlL.take {W : World} {ms : List Value} {ls : List (List Pair)} (h : SlL W ms ls) (i : Nat) (hi : i < ms.length) : ∃ A c l, ms[i]? = some (.slice A l.length c) ∧ ls[i]? = some l ∧ Sl W 2 (.slice A l.length c) l.length (pairsCs l) := by
  have h1 : ms[i]? = some ms[i] := List.getElem?_eq_getElem hi
  have hi2 : i < ls.length := by rw [← h.1]; exact hi
  have h2 : ls[i]? = some ls[i] := List.getElem?_eq_getElem hi2
  have h3 := h.2 i _ _ h1 h2
  obtain ⟨A, c, e, _⟩ := h3
  have h3 := h.2 i _ _ h1 h2
  rw [e] at h1 h3
  exact ⟨A, c, ls[i], h1, h2, h3⟩

set_option maxHeartbeats 2000000 in
set_option maxRecDepth 100000 in
theorem markedPairs_any (A : Option Addr) (n c : Nat) (ms : List Value) (ls : List (List Pair)) (W : World) (h : Sl W 1 (.slice A n c) n ms) (hl : SlL W ms ls) (hm : ∀ (i : Nat) (l : List Pair), ls[i]? = some l → l = markP i 0 l.length ∧ l.length ≤ 10000) (hn : n ≤ 1000) :
    Calls Tryz.prog 89 #[.slice A n c] W fun e w' => e = .returned (.bool true) ∧ Below W.heap.size W w' := by
  have hlen : ms.length = n := by obtain ⟨_, _, _, _, h1, _⟩ := h; omega
  have HA := Lib.hid (And.intro h hl)
  clear h hl
  go_enter Tryz.func89, Tryz.ntmps89
  go_wp2_with (fail)
  go_loopg [3] n (fun gk s3 wr => ∃ i : Nat, s3 = .int .i64 (i : Int) ∧ i + gk = n ∧ Hid (Below W.heap.size W wr))
  case atStart => exact ⟨0, rfl, by omega, Below.refl _ _⟩
  case round =>
    obtain ⟨i, rfl, hi, hbw⟩ := hrel
    by_cases h1 : i < n
    · have h1' : (i : Int) < (n : Int) := by omega
      have hi0 : (0 : Int) ≤ (i : Int) := by omega
      have hw1 : IntKind.i64.wrap ((i : Int) + 1) = (i : Int) + 1 := IntWalk.i64_in _ (by omega)
      obtain ⟨_, _, e0, _, _, hcl⟩ := HA.out.1.below hbw.out
      cases e0
      obtain ⟨ba, oa, rfl, hlt, hca⟩ := hcl (by omega)
      obtain ⟨A1, c1, l, hv, hll, hs1⟩ := (HA.out.2.below hbw.out).take i (by omega)
      have x1 : wr.cell? ⟨ba, oa + i, none⟩ = _ := hca _ _ hv
      obtain ⟨hml, hmb⟩ := hm i l hll
      have HM := Lib.hid (markPairs_any i 0 l.length wr.drew (by omega) (by omega))
      have HL := Lib.hid (And.intro hs1 hml)
      have HB := hbw
      have HSm := Lib.hid (fun (V : World) (B1 : Option Addr) (d : Nat) (hb : Below wr.heap.size wr V) (hy : Sl V 2 (.slice B1 l.length d) l.length (pairsCs (markP i 0 l.length))) => samePairs_any A1 B1 l.length l.length c1 d l (markP i 0 l.length) V (hs1.below hb) hy (by omega) (by omega))
      clear hv hll hs1 hml hca hcl
      go_wp2_with (fail)
      refine wp_region_any (by kernel_rfl) ?_
      change wpAny _ _ _ _ _ _ _ (World.drew _)
      try simp only [Act.put, lT, l0, lS]
      refine tA 0 ?_; try simp only [Act.put, lT, l0, lS]
      refine tA 1 ?_; try simp only [Act.put, lT, l0, lS]
      refine tA 2 ?_; try simp only [Act.put, lT, l0, lS]
      refine tA 4 ?_; try simp only [Act.put, lT, l0, lS]
      refine tA 5 ?_; try simp only [Act.put, lT, l0, lS]
      refine tA 6 ?_; try simp only [Act.put, lT, l0, lS]
      refine tA 7 ?_; try simp only [Act.put, lT, l0, lS]
      try simp only [Act.put, lT, l0, lS]
      refine rA 8 (v := ?_) (hy := ?hy) ?_; case hy => (intro w hE; have q0 := hE.cell x1; go_simp; try with_reducible rfl)
      try simp only [Act.put, lT, l0, lS]
      try simp only [Act.put, lT, l0, lS]
      refine tA 9 ?_; try simp only [Act.put, lT, l0, lS]
      refine wpAny_ready (rs := [3, 10]) (by kernel_rfl) (by simp) (AllReady.cons (o := { dst := _, op := _, type := _, pos := _, after := _, guard := _ }) rfl (fun K hK => ?_) (AllReady.cons (o := { dst := _, op := _, type := _, pos := _, after := _, guard := _ }) rfl (fun K hK => ?_) AllReady.nil))
      · go_simp
        refine hK _ _ ?_
        clear hK K
        refine rd 10 (by kernel_rfl) rfl (fun K hK => ?_); go_simp
        (go_must (refine HM.out.mono ?_); rintro e w3 ⟨y, rfl, hy, hb3⟩)
        have hb3' : Below wr.heap.size wr w3 := (Below.refl _ wr).drew.trans hb3
        obtain ⟨B1, d1, rfl, -⟩ := Sl.of_own hy
        have HS2 := Lib.hid (HSm.out w3 B1 d1 hb3' (Sl.of_own hy))
        have HB3 := Lib.hid hb3'
        clear hy hb3 hb3'
        go_simp
        refine hK _ _ ?_
        clear hK K
        refine rd 11 (by kernel_rfl) rfl (fun K hK => ?_); go_simp
        (go_must (refine HS2.out.mono ?_); rintro e w4 ⟨rfl, hb4⟩)
        have hbb : decide (l = markP i 0 l.length) = true := decide_eq_true HL.out.2
        rw [hbb]
        have HB4 : Hid (Below W.heap.size W w4) := hbw.out.trans ((HB3.out.trans (hb4.mono HB3.out.size)).mono hbw.out.size)
        clear hb4 hbb
        go_simp
        refine hK _ _ ?_
        clear hK K
        refine rd 12 (by kernel_rfl) rfl (fun K hK => ?_); go_simp; refine hK _ _ ?_; clear hK K
        refine wpAny_done (by kernel_rfl) ?_ _
        go_wp2_with (fail)
        go_roundg (gk - 1)
        case measure => omega
        case rel => exact ⟨i + 1, by simp, by omega, HB4⟩
      · go_simp
        (go_must (refine HM.out.mono ?_); rintro e w3 ⟨y, rfl, hy, hb3⟩)
        have hb3' : Below wr.heap.size wr w3 := (Below.refl _ wr).drew.trans hb3
        obtain ⟨B1, d1, rfl, -⟩ := Sl.of_own hy
        have HS2 := Lib.hid (HSm.out w3 B1 d1 hb3' (Sl.of_own hy))
        have HB3 := Lib.hid hb3'
        have x3 : w3.cell? ⟨ba, oa + i, none⟩ = some (.slice A1 l.length c1) := by rw [hb3'.cell hlt]; exact x1
        clear hy hb3 hb3'
        go_simp
        refine hK _ _ ?_
        clear hK K
        refine rd 3 (by kernel_rfl) rfl (fun K hK => ?_); go_simp; refine hK _ _ ?_; clear hK K
        refine rd 11 (by kernel_rfl) rfl (fun K hK => ?_); go_simp
        (go_must (refine HS2.out.mono ?_); rintro e w4 ⟨rfl, hb4⟩)
        have hbb : decide (l = markP i 0 l.length) = true := decide_eq_true HL.out.2
        rw [hbb]
        have HB4 : Hid (Below W.heap.size W w4) := hbw.out.trans ((HB3.out.trans (hb4.mono HB3.out.size)).mono hbw.out.size)
        clear hb4 hbb
        go_simp
        refine hK _ _ ?_
        clear hK K
        refine rd 12 (by kernel_rfl) rfl (fun K hK => ?_); go_simp; refine hK _ _ ?_; clear hK K
        refine wpAny_done (by kernel_rfl) ?_ _
        go_wp2_with (fail)
        go_roundg (gk - 1)
        case measure => omega
        case rel => exact ⟨i + 1, by simp, by omega, HB4⟩
    · have h1' : ¬ (i : Int) < (n : Int) := by omega
      go_wp2_with (fail)
      go_ret
      exact ⟨rfl, hbw.out⟩

section
variable {W W' : World} {B g : Nat} {pv wv : Value} {ms ws : List Value}

set_option maxHeartbeats 2000000 in
set_option maxRecDepth 100000 in
theorem stillPairs_any (ls : List (List Pair)) (h : BookAt W B g pv wv ms ws) (hl : SlL W ms ls) (hl2 : SlL W ws ls) (hb : ∀ (i : Nat) (l : List Pair), ls[i]? = some l → l.length ≤ 10000) (hn : ms.length ≤ 1000) :
    Calls Tryz.prog 56 #[ptrV g] W fun e w' => e = .returned (.bool true) ∧ Below W.heap.size W w' := by
  obtain ⟨n, hn1⟩ : ∃ n, ms.length = n := ⟨_, rfl⟩
  have hn2 : ws.length = n := by rw [hl2.1, ← hl.1, hn1]
  have hp := Sl.of_own h.pr
  have hq := Sl.of_own h.wr
  rw [hn1] at hp
  rw [hn2] at hq
  obtain ⟨Ap, cp, rfl, -⟩ := Sl.of_own h.pr
  obtain ⟨Aw, cw, rfl, -⟩ := Sl.of_own h.wr
  rw [hn1] at hp hn
  rw [hn2] at hq
  have HA := Lib.hid (And.intro (And.intro hp hq) (And.intro (And.intro hl hl2) (And.intro h.blk (And.intro hn1 hn2))))
  clear h hl hl2 hp hq hn1 hn2
  go_enter Tryz.func56, Tryz.ntmps56
  go_wp2_with (fail)
  go_loopg [3] n (fun gk s3 wr => ∃ i : Nat, s3 = .int .i64 (i : Int) ∧ i + gk = n ∧ Hid (Below W.heap.size W wr))
  case atStart => exact ⟨0, rfl, by omega, Below.refl _ _⟩
  case round =>
    obtain ⟨i, rfl, hi, hbw⟩ := hrel
    have blk := HA.out.2.2.1.below' hbw.out
    have c8 : wr.cell? ⟨g, 8, none⟩ = some (.slice Ap ms.length cp) := blk.cell 8
    have c9 : wr.cell? ⟨g, 9, none⟩ = some (.slice Aw ws.length cw) := blk.cell 9
    rw [HA.out.2.2.2.1] at c8
    rw [HA.out.2.2.2.2] at c9
    clear blk
    by_cases h1 : i < n
    · have h1' : (i : Int) < (n : Int) := by omega
      have hi0 : (0 : Int) ≤ (i : Int) := by omega
      have hw1 : IntKind.i64.wrap ((i : Int) + 1) = (i : Int) + 1 := IntWalk.i64_in _ (by omega)
      obtain ⟨_, _, e0, _, _, hcl⟩ := HA.out.1.1.below hbw.out
      cases e0
      obtain ⟨ba, oa, rfl, _, hca⟩ := hcl (by omega)
      obtain ⟨_, _, e0, _, _, hcl2⟩ := HA.out.1.2.below hbw.out
      cases e0
      obtain ⟨bb, ob, rfl, _, hcb⟩ := hcl2 (by omega)
      obtain ⟨A1, c1, l, hv, hll, hs1⟩ := (HA.out.2.1.1.below hbw.out).take i (by rw [HA.out.2.2.2.1]; exact h1)
      obtain ⟨A2, c2, l2, hv2, hll2, hs2⟩ := (HA.out.2.1.2.below hbw.out).take i (by rw [HA.out.2.2.2.2]; exact h1)
      have hle : l2 = l := by rw [hll] at hll2; exact (Option.some.inj hll2).symm
      subst hle
      have x1 : wr.cell? ⟨ba, oa + i, none⟩ = _ := hca _ _ hv
      have y1 : wr.cell? ⟨bb, ob + i, none⟩ = _ := hcb _ _ hv2
      have hmb := hb i l2 hll
      have HS2 := Lib.hid (samePairs_any A1 A2 l2.length l2.length c1 c2 l2 l2 wr.drew hs1 hs2 (by omega) (by omega))
      clear hv hll hs1 hca hcl hv2 hll2 hs2 hcb hcl2
      go_wp2_with (fail)
      refine wp_region_any (by kernel_rfl) ?_
      change wpAny _ _ _ _ _ _ _ (World.drew _)
      try simp only [Act.put, lT, l0, lS]
      refine tA 0 ?_; try simp only [Act.put, lT, l0, lS]
      refine tA 1 ?_; try simp only [Act.put, lT, l0, lS]
      refine tA 2 ?_; try simp only [Act.put, lT, l0, lS]
      refine tA 4 ?_; try simp only [Act.put, lT, l0, lS]
      refine tA 7 ?_; try simp only [Act.put, lT, l0, lS]
      refine tA 8 ?_; try simp only [Act.put, lT, l0, lS]
      refine tA 9 ?_; try simp only [Act.put, lT, l0, lS]
      refine tA 11 ?_; try simp only [Act.put, lT, l0, lS]
      try simp only [Act.put, lT, l0, lS]
      refine rA 3 (v := ?_) (hy := ?hy) ?_; case hy => (intro w hE; have q0 := hE.cell c8; go_simp; try with_reducible rfl)
      try simp only [Act.put, lT, l0, lS]
      try simp only [Act.put, lT, l0, lS]
      refine tA 5 ?_; try simp only [Act.put, lT, l0, lS]
      try simp only [Act.put, lT, l0, lS]
      refine rA 6 (v := ?_) (hy := ?hy) ?_; case hy => (intro w hE; have q0 := hE.cell x1; go_simp; try with_reducible rfl)
      try simp only [Act.put, lT, l0, lS]
      try simp only [Act.put, lT, l0, lS]
      refine rA 10 (v := ?_) (hy := ?hy) ?_; case hy => (intro w hE; have q0 := hE.cell c9; go_simp; try with_reducible rfl)
      try simp only [Act.put, lT, l0, lS]
      try simp only [Act.put, lT, l0, lS]
      refine tA 12 ?_; try simp only [Act.put, lT, l0, lS]
      try simp only [Act.put, lT, l0, lS]
      refine rA 13 (v := ?_) (hy := ?hy) ?_; case hy => (intro w hE; have q0 := hE.cell y1; go_simp; try with_reducible rfl)
      try simp only [Act.put, lT, l0, lS]
      refine rd 14 (by kernel_rfl) rfl (fun K hK => ?_); go_simp
      (go_must (refine HS2.out.mono ?_); rintro e w4 ⟨rfl, hb4⟩)
      simp only [decide_true]
      have HB4 : Hid (Below W.heap.size W w4) := hbw.out.trans (((Below.refl _ wr).drew.trans hb4).mono hbw.out.size)
      clear hb4
      go_simp
      refine hK _ _ ?_
      clear hK K
      refine rd 15 (by kernel_rfl) rfl (fun K hK => ?_); go_simp; refine hK _ _ ?_; clear hK K
      refine wpAny_done (by kernel_rfl) ?_ _
      go_wp2_with (fail)
      go_roundg (gk - 1)
      case measure => omega
      case rel => exact ⟨i + 1, by simp, by omega, HB4⟩
    · have h1' : ¬ (i : Int) < (n : Int) := by omega
      go_wp2_with (fail)
      go_ret
      exact ⟨rfl, hbw.out⟩
end
end Go.Ev

set_option linter.unusedVariables false
set_option linter.unusedSimpArgs false
namespace Go.Ev
open Go.Proofs Go.RowKit

theorem pairsCs_set : ∀ (l : List Pair) (k : Nat) (q : Pair), ((pairsCs l).set (k * 2) (strV q.1)).set (k * 2 + 1) (strV q.2) = pairsCs (l.set k q)
  | [], k, q => by simp [pairsCs]
  | p :: l, 0, q => rfl
  | p :: l, k + 1, q => by
    rw [show (k + 1) * 2 = k * 2 + 1 + 1 by omega]
    show strV p.1 :: strV p.2 :: (((pairsCs l).set (k * 2) (strV q.1)).set (k * 2 + 1) (strV q.2)) = _
    rw [pairsCs_set l k q]
    rfl

theorem mark_set (i : Nat) (l : List Pair) (k : Nat) (h : k < l.length) : (markP i 0 k ++ l.drop k).set k (nameB i k, []) = markP i 0 (k + 1) ++ l.drop (k + 1) := by
  have h1 : (markP i 0 k).length ≤ k := by rw [markP_len]; exact Nat.le_refl _
  rw [List.drop_eq_getElem_cons h, markP_succ, List.set_append_right k _ h1, markP_len, Nat.sub_self, Nat.zero_add, List.append_assoc]
  congr 1

theorem markP_get (i n k : Nat) (h : k < (markP i 0 n).length) : (markP i 0 n)[k] = (nameB i k, []) := by simp [markP]

/-- Each list lies in a row of its own. -/
def RowsAt (W : World) (B : Nat) (ms : List Value) (ls : List (List Pair)) : Prop := ms.length = ls.length ∧ ∀ (i : Nat) (v : Value) (l : List Pair), ms[i]? = some v → ls[i]? = some l → ClipAt W B v l
def Apart (ms : List Value) : Prop := ∀ (i j : Nat) (v u : Value), ms[i]? = some v → ms[j]? = some u → i ≠ j → ∀ k, v.ownBlock = some k → u.ownBlock ≠ some k
def OfP (ms : List Value) (k : Nat) : Prop := ∃ (i : Nat) (v : Value), ms[i]? = some v ∧ v.ownBlock = some k
def marksL (ls : List (List Pair)) (d : Nat) : List (List Pair) := ls.mapIdx fun i l => markP i 0 (l.length + d)

theorem marksL_at {ls : List (List Pair)} {d i : Nat} {l : List Pair} (h : (marksL ls d)[i]? = some l) : ∃ l0, ls[i]? = some l0 ∧ l = markP i 0 (l0.length + d) := by
  simp only [marksL, List.getElem?_mapIdx, Option.map_eq_some_iff] at h
  obtain ⟨l0, h1, h2⟩ := h
  exact ⟨l0, h1, h2.symm⟩
theorem marksL_len (ls : List (List Pair)) (d : Nat) : (marksL ls d).length = ls.length := by simp [marksL]
theorem marksL_ok {ls : List (List Pair)} {d : Nat} (hb : ∀ (i : Nat) (l : List Pair), ls[i]? = some l → l.length + d ≤ 10000) : ∀ (i : Nat) (l : List Pair), (marksL ls d)[i]? = some l → l = markP i 0 l.length ∧ l.length ≤ 10000 := by
  intro i l h
  obtain ⟨l0, h1, rfl⟩ := marksL_at h
  rw [markP_len]
  exact ⟨rfl, hb i l0 h1⟩

theorem clip_own {u : Value} : (clipV u).ownBlock = u.ownBlock := by
  cases u with
  | slice A n c => cases A <;> rfl
  | _ => rfl

theorem ClipAt.form {w : World} {B : Nat} {v : Value} {l : List Pair} (h : ClipAt w B v l) : ∃ A u, v = .slice A l.length l.length ∧ w.ownsRow B 44 2 u l.length (pairsCs l) ∧ v = clipV u ∧ u.ownBlock = v.ownBlock ∧ (0 < l.length → ∃ g cap, A = some ⟨g, 0, none⟩ ∧ u = .slice (some ⟨g, 0, none⟩) l.length cap) := by
  obtain ⟨u, h1, rfl⟩ := h
  rcases h1.2 with ⟨rfl, h0⟩ | ⟨g, cap, cur, rfl, _⟩
  · exact ⟨none, .slice none 0 0, by rw [h0]; rfl, h1, rfl, rfl, fun h => by omega⟩
  · exact ⟨some ⟨g, 0, none⟩, _, rfl, h1, rfl, rfl, fun _ => ⟨g, cap, rfl, rfl⟩⟩

theorem ClipAt.keeps {S : Nat → Prop} {w w' : World} {B : Nat} {v : Value} {l : List Pair} (h : ClipAt w B v l) (hk : Keeps S w w') (hS : ∀ k, v.ownBlock = some k → ¬ S k) : ClipAt w' B v l := by
  obtain ⟨u, h1, rfl⟩ := h
  exact ⟨u, own_keeps h1 hk fun k e => hS k (by rw [clip_own]; exact e), rfl⟩

theorem RowsAt.sl {W : World} {B : Nat} {ms : List Value} {ls : List (List Pair)} (h : RowsAt W B ms ls) : SlL W ms ls := ⟨h.1, fun i v l h1 h2 => by
  obtain ⟨A, e, _, h3⟩ := (h.2 i v l h1 h2).sl
  rw [e]
  exact h3⟩
theorem RowsAt.below {W W' : World} {B : Nat} {ms : List Value} {ls : List (List Pair)} (h : RowsAt W B ms ls) (hb : Below W.heap.size W W') : RowsAt W' B ms ls := ⟨h.1, fun i v l h1 h2 => (h.2 i v l h1 h2).below hb⟩

section
variable {W W' : World} {B B2 g : Nat} {pv wv : Value} {ms ws : List Value}

theorem RowsAt.far {ls : List (List Pair)} (h : RowsAt W B2 ms ls) (hk : BookAt W B g pv wv ms ws) : ∀ k, BookS g pv wv k → ¬ OfP ms k := by
  rintro k hs ⟨i, v, h1, h2⟩
  have hi : i < ls.length := by rw [← h.1]; exact (List.getElem?_eq_some_iff.1 h1).1
  obtain ⟨A, u, _, ho, _, hb, _⟩ := (h.2 i v _ h1 (List.getElem?_eq_getElem hi)).form
  rw [← hb] at h2
  rcases hs with rfl | hs | hs
  · exact own_ne ho hk.blk (by decide) _ h2 rfl
  · exact own_apart ho hk.pr (by decide) k h2 hs
  · exact own_apart ho hk.wr (by decide) k h2 hs

def PutI (W : World) (B : Nat) (ms : List Value) (ls : List (List Pair)) (i : Nat) : Prop := ∀ (j : Nat) (v : Value) (l : List Pair), ms[j]? = some v → ls[j]? = some l → ClipAt W B v (if j < i then markP j 0 l.length else l)

theorem PutI.done {ls : List (List Pair)} (hl : ms.length = ls.length) {i : Nat} (hi : ms.length ≤ i) (h : PutI W B ms ls i) : RowsAt W B ms (marksL ls 0) := by
  refine ⟨by rw [marksL_len, hl], fun j v l h1 h2 => ?_⟩
  obtain ⟨l0, h3, rfl⟩ := marksL_at h2
  have := h j v l0 h1 h3
  rw [if_pos (Nat.lt_of_lt_of_le (List.getElem?_eq_some_iff.1 h1).1 hi)] at this
  exact this

theorem PutI.step {ls : List (List Pair)} {W1 W2 : World} {i : Nat} {v u : Value} {l : List Pair} (ha : Apart ms) (h : PutI W B ms ls i) (hb : Below W.heap.size W W1) (hv : ms[i]? = some v) (hl : ls[i]? = some l) (hu : v = clipV u) (hub : u.ownBlock = v.ownBlock)
    (hK : Keeps (fun j => u.ownBlock = some j) W1 W2) (ho : W2.ownsRow B 44 2 u l.length (pairsCs (markP i 0 l.length ++ l.drop l.length))) : PutI W2 B ms ls (i + 1) := by
  intro j v1 l1 h1 h2
  by_cases hj : j = i
  · subst hj
    rw [hv] at h1
    cases h1
    rw [hl] at h2
    cases h2
    rw [if_pos (by omega)]
    refine ⟨u, ?_, hu⟩
    rw [List.drop_length, List.append_nil] at ho
    rw [markP_len]
    exact ho
  · have h3 := ((h j v1 l1 h1 h2).below hb).keeps hK fun k hk e => ha j i v1 v h1 hv hj k hk (by rw [← hub]; exact e)
    by_cases h4 : j < i
    · rw [if_pos h4] at h3
      rw [if_pos (by omega)]
      exact h3
    · rw [if_neg h4] at h3
      rw [if_neg (by omega)]
      exact h3

set_option maxHeartbeats 4000000 in
set_option maxRecDepth 100000 in
theorem putPairs_any (ls : List (List Pair)) (h : BookAt W B g pv wv ms ws) (hr : RowsAt W B2 ms ls) (ha : Apart ms) (hb : ∀ (i : Nat) (l : List Pair), ls[i]? = some l → l.length ≤ 10000) (hn : ms.length ≤ 1000) :
    Calls Tryz.prog 69 #[ptrV g] W fun e w' => e = .returned (.tuple #[]) ∧ RowsAt w' B2 ms (marksL ls 0) ∧ Keeps (OfP ms) W w' := by
  obtain ⟨n, hn1⟩ : ∃ n, ms.length = n := ⟨_, rfl⟩
  have hfar := hr.far h
  have hp := Sl.of_own h.pr
  rw [hn1] at hp hn
  obtain ⟨Ap, cp, rfl, -⟩ := Sl.of_own h.pr
  rw [hn1] at hp
  have h0 : PutI W B2 ms ls 0 := fun j v l h1 h2 => hr.2 j v l h1 h2
  have hpb : ∀ k, (Value.slice Ap ms.length cp).ownBlock = some k → k < W.heap.size ∧ ¬ OfP ms k := fun k hk => ⟨(h.pr.lt k hk).2, hfar k (.inr (.inl hk))⟩
  have HA := Lib.hid (And.intro (And.intro hp hpb) (And.intro (And.intro hr ha) (And.intro h.blk (And.intro hn1 (hfar g (.inl rfl))))))
  clear h hr ha hp hn1 hfar hpb
  go_enter Tryz.func69, Tryz.ntmps69
  go_wp2_with (fail)
  go_loopg [2, 3, 4] n (fun gk s2 s3 s4 wr => ∃ i : Nat, s2 = .int .i64 (i : Int) ∧ i + gk = n ∧ Hid (PutI wr B2 ms ls i) ∧ Hid (Keeps (OfP ms) W wr))
  case atStart => exact ⟨0, rfl, by omega, h0, Keeps.refl _ _⟩
  case round =>
    clear h0
    obtain ⟨i, rfl, hi, hput, hkw⟩ := hrel
    obtain ⟨wo, hwo⟩ : ∃ x, x = wr := ⟨_, rfl⟩
    subst hwo
    have blk := HA.out.2.2.1.keeps hkw.out HA.out.2.2.2.2
    have c8 : wo.cell? ⟨g, 8, none⟩ = some (.slice Ap ms.length cp) := blk.cell 8
    rw [HA.out.2.2.2.1] at c8
    have HBlk := Lib.hid blk
    clear blk
    by_cases h1 : i < n
    · have h1' : (i : Int) < (n : Int) := by omega
      have hi0 : (0 : Int) ≤ (i : Int) := by omega
      have hw1 : IntKind.i64.wrap ((i : Int) + 1) = (i : Int) + 1 := IntWalk.i64_in _ (by omega)
      have him : i < ms.length := by rw [HA.out.2.2.2.1]; exact h1
      obtain ⟨v, hv⟩ : ∃ v, ms[i]? = some v := ⟨_, List.getElem?_eq_getElem him⟩
      obtain ⟨l, hl⟩ : ∃ l, ls[i]? = some l := ⟨_, List.getElem?_eq_getElem (by rw [← HA.out.2.1.1.1]; exact him)⟩
      have hcl := hput.out i v l hv hl
      rw [if_neg (Nat.lt_irrefl _)] at hcl
      obtain ⟨A, u, rfl, hown, hcu, hub, hAu⟩ := hcl.form
      obtain ⟨_, _, e0, _, _, hc⟩ := HA.out.1.1
      cases e0
      obtain ⟨ba, oa, rfl, hlt, hca⟩ := hc (by omega)
      have hba := HA.out.1.2 ba rfl
      have x1 : wo.cell? ⟨ba, oa + i, none⟩ = some (.slice A l.length l.length) := by rw [hkw.out.cell hba.1 hba.2]; exact hca _ _ hv
      have hlb := hb i l hl
      have HM := Lib.hid (markPairs_any i 0 l.length wo (by omega) (by omega))
      have hbz : ba < wo.heap.size := Nat.lt_of_lt_of_le hba.1 hkw.out.size
      obtain ⟨nl, hnl⟩ : ∃ m, l.length = m := ⟨_, rfl⟩
      have HU := Lib.hid (And.intro hown (And.intro hcu (And.intro hub (And.intro hv (And.intro hl (And.intro hAu (And.intro hbz (And.intro hba.2 hnl))))))))
      rw [hnl] at x1 HM hlb
      clear hcl hown hcu hub hAu hv hl hca hc hba hbz hlt hnl him
      go_wp2_with (fail)
      go_must (refine HM.out.mono ?_)
      rintro e w3 ⟨y, rfl, hy, hb3⟩
      obtain ⟨A3, d3, rfl, -⟩ := Sl.of_own hy
      have HY := Lib.hid (And.intro hy hb3)
      clear hy hb3 c8 x1
      go_wp2_with (fail)
      obtain ⟨gq, hgq⟩ : ∃ x, x = gk := ⟨_, rfl⟩
      subst hgq
      go_loopg [4] nl (fun gk s4 wr => ∃ k : Nat, s4 = .int .i64 (k : Int) ∧ k + gk = nl ∧ Hid (wr.ownsRow B2 44 2 u nl (pairsCs (markP i 0 k ++ l.drop k))) ∧ Hid (Keeps (fun j => u.ownBlock = some j) w3 wr))
      case atStart => exact ⟨0, rfl, by omega, by
        show World.ownsRow _ _ _ _ _ _ _
        have := own_below HU.out.1 HY.out.2
        rw [HU.out.2.2.2.2.2.2.2.2] at this
        exact this, Keeps.refl _ _⟩
      case round =>
        obtain ⟨k, rfl, hk, hrow, hku⟩ := hrel
        by_cases h2 : k < nl
        · have h2' : (k : Int) < (nl : Int) := by omega
          have hk0 : (0 : Int) ≤ (k : Int) := by omega
          have hw2 : IntKind.i64.wrap ((k : Int) + 1) = (k : Int) + 1 := IntWalk.i64_in _ (by omega)
          obtain ⟨g1, cap, hA1, hu1⟩ := HU.out.2.2.2.2.2.1 (by rw [HU.out.2.2.2.2.2.2.2.2]; omega)
          have hnl := HU.out.2.2.2.2.2.2.2.2
          rw [hnl] at hu1
          subst hA1 hu1
          have blk := (HBlk.out.below' HY.out.2).keeps hku.out (fun e => own_ne (own_below HU.out.1 HY.out.2) (HBlk.out.below' HY.out.2) (by decide) g e rfl)
          have c8 : wr.cell? ⟨g, 8, none⟩ = some (.slice (some ⟨ba, oa, none⟩) ms.length cp) := blk.cell 8
          rw [HA.out.2.2.2.1] at c8
          have x1 : wr.cell? ⟨ba, oa + i, none⟩ = some (.slice (some ⟨g1, 0, none⟩) nl nl) := by
            have hz := HU.out.2.2.2.2.2.2.1
            have hm : ms[i]? = some (.slice (some ⟨g1, 0, none⟩) l.length l.length) := HU.out.2.2.2.1
            have hgo : g1 ≠ ba := fun e => HU.out.2.2.2.2.2.2.2.1 ⟨i, _, hm, by rw [e]; rfl⟩
            obtain ⟨_, _, e0, _, _, hc⟩ := HA.out.1.1
            cases e0
            obtain ⟨ba', oa', e1, hlt, hca⟩ := hc (by omega)
            cases e1
            rw [hku.out.cell (p := ⟨ba, oa + i, none⟩) (Nat.lt_of_lt_of_le hz HY.out.2.size) (fun e => hgo (Option.some.inj e)), HY.out.2.cell (p := ⟨ba, oa + i, none⟩) hz, hkw.out.cell (p := ⟨ba, oa + i, none⟩) hlt HU.out.2.2.2.2.2.2.2.1, ← hnl]
            exact hca _ _ hm
          have hym : Sl wr 2 (.slice A3 nl d3) nl (pairsCs (markP i 0 nl)) := (Sl.of_own (own_keeps HY.out.1 hku.out fun k hk e => by
            have e2 := (HY.out.1.lt k hk).1
            have e3 := (HU.out.1.lt k e).2
            omega))
          obtain ⟨_, _, e0, _, _, hcl⟩ := hym
          cases e0
          obtain ⟨bm, om, rfl, _, hcm⟩ := hcl (by omega)
          obtain ⟨p1, p2⟩ := pairsCs_at (markP i 0 nl) k (by rw [markP_len]; exact h2)
          rw [markP_get] at p1 p2
          have y1 : wr.cell? ⟨bm, om + k * 2, none⟩ = some (strV (nameB i k)) := hcm _ _ p1
          have y2 : wr.cell? ⟨bm, om + k * 2 + 1, none⟩ = some (strV []) := hcm _ _ p2
          have hrd : wr.drew.ownsRow B2 44 2 (.slice (some ⟨g1, 0, none⟩) nl cap) nl (pairsCs (markP i 0 k ++ l.drop k)) := hrow.out
          have hlen : (pairsCs (markP i 0 k ++ l.drop k)).length = nl * 2 := hrow.out.1
          have hcs := hrow.out.cells (g := g1) rfl
          have e0 := hcs (k * 2) _ (List.getElem?_eq_getElem (by omega))
          have e1 := hcs (k * 2 + 1) _ (List.getElem?_eq_getElem (by omega))
          rw [addr_add, Nat.zero_add] at e0 e1
          obtain ⟨u0, d0⟩ : ∃ u0, wr.cell? ⟨g1, k * 2, none⟩ = some u0 := ⟨_, e0⟩
          obtain ⟨u1, d1⟩ : ∃ u1, wr.cell? ⟨g1, k * 2 + 1, none⟩ = some u1 := ⟨_, e1⟩
          clear e0 e1
          have f0 : wr.frozen? ⟨g1, k * 2, none⟩ = false := hrow.out.frozenAt _
          have f1 : wr.frozen? ⟨g1, k * 2 + 1, none⟩ = false := hrow.out.frozenAt _
          obtain ⟨o0, _⟩ := hrd.stored (k * 2) (strV (nameB i k))
          obtain ⟨o1, _⟩ := o0.stored (k * 2 + 1) (strV [])
          rw [pairsCs_set _ k (nameB i k, []), mark_set i l k (by omega)] at o1
          have hk1 : Keeps (fun j => Value.ownBlock (.slice (some ⟨g1, 0, none⟩) nl cap) = some j) w3 ((wr.drew.setCell ⟨g1, k * 2, none⟩ (strV (nameB i k))).setCell ⟨g1, k * 2 + 1, none⟩ (strV [])) := (hku.out.drew.setCell (p := ⟨g1, k * 2, none⟩) (fun _ => rfl) _).setCell (p := ⟨g1, k * 2 + 1, none⟩) (fun _ => rfl) _
          have HO := Lib.hid (And.intro o1 hk1)
          clear o0 o1 hk1 hrd hlen hcs hcl hcm p1 p2 blk hnl hrow hku
          go_wp2_with (fail)
          refine wp_region_any (by kernel_rfl) ?_
          change wpAny _ _ _ _ _ _ _ (World.drew _)
          try simp only [Act.put, lT, l0, lS]
          refine tA 0 ?_; try simp only [Act.put, lT, l0, lS]
          refine tA 1 ?_; try simp only [Act.put, lT, l0, lS]
          refine tA 2 ?_; try simp only [Act.put, lT, l0, lS]
          refine tA 4 ?_; try simp only [Act.put, lT, l0, lS]
          refine tA 7 ?_; try simp only [Act.put, lT, l0, lS]
          refine tA 8 ?_; try simp only [Act.put, lT, l0, lS]
          refine tA 9 ?_; try simp only [Act.put, lT, l0, lS]
          refine tA 10 ?_; try simp only [Act.put, lT, l0, lS]
          try simp only [Act.put, lT, l0, lS]
          refine rA 3 (v := ?_) (hy := ?hy) ?_; case hy => (intro w hE; have q0 := hE.cell c8; go_simp; try with_reducible rfl)
          try simp only [Act.put, lT, l0, lS]
          try simp only [Act.put, lT, l0, lS]
          refine tA 5 ?_; try simp only [Act.put, lT, l0, lS]
          try simp only [Act.put, lT, l0, lS]
          refine rA 6 (v := ?_) (hy := ?hy) ?_; case hy => (intro w hE; have q0 := hE.cell x1; go_simp; try with_reducible rfl)
          try simp only [Act.put, lT, l0, lS]
          try simp only [Act.put, lT, l0, lS]
          refine rA 11 (v := ?_) (hy := ?hy) ?_; case hy => (intro w hE; have q0 := hE.cell y1; have q1 := hE.cell y2; go_simp; try with_reducible rfl)
          try simp only [Act.put, lT, l0, lS]
          try simp only [Act.put, lT, l0, lS]
          refine tA 12 ?_; try simp only [Act.put, lT, l0, lS]
          refine rd 13 (by kernel_rfl) rfl (fun K hK => ?_); go_simp; refine hK _ _ ?_; clear hK K
          refine wpAny_done (by kernel_rfl) ?_ _
          go_wp2_with (fail)
          go_roundg (gk - 1)
          case measure => omega
          case rel => exact ⟨k + 1, by simp, by omega, HO.out.1, HO.out.2⟩
        · have h2' : ¬ (k : Int) < (nl : Int) := by omega
          have hkn : k = nl := by omega
          subst hkn
          have hnl := HU.out.2.2.2.2.2.2.2.2
          have HP := Lib.hid (PutI.step HA.out.2.1.2 hput.out HY.out.2 HU.out.2.2.2.1 HU.out.2.2.2.2.1 HU.out.2.1 HU.out.2.2.1 hku.out (by rw [hnl]; exact hrow.out))
          have HK := Lib.hid ((hkw.out.trans (S' := fun _ => False) (Keeps.of_below HY.out.2) fun _ _ h => h.elim).trans hku.out fun j _ e => ⟨i, _, HU.out.2.2.2.1, by rw [← HU.out.2.2.1]; exact e⟩)
          clear hnl hrow hku hput hkw
          go_wp2_with (fail)
          go_roundg (gq - 1)
          case measure => omega
          case rel => exact ⟨i + 1, by simp, by omega, HP.out, HK.out⟩
    · have h1' : ¬ (i : Int) < (n : Int) := by omega
      go_wp2_with (fail)
      go_end0
      exact ⟨rfl, hput.out.done HA.out.2.1.1.1 (by rw [HA.out.2.2.2.1]; omega), hkw.out⟩
end
end Go.Ev
