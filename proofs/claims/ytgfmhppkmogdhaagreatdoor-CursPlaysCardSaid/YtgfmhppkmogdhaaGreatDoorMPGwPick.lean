/-
  The document's own tree: its order, where a key is, a pair put in. The document's own tree: a pair put in. What a cursor picks.
-/
import Derived.Test.YtgfmhppkmogdhaaGreatDoorMPGvAny2
import Derived.Test.YtgfmhppkmogdhaaGreatDoorMPGwReplace
set_option linter.unusedVariables false
set_option linter.unusedSimpArgs false
set_option linter.unusedVariables false
set_option linter.unusedSimpArgs false
namespace Go.Ev
open Go.Proofs Go.RowKit

theorem good_any (s : Bytes) (w : World) (hs : s.length ≤ 9223372036854775807) : Calls Tryz.prog 101 #[strV s] w fun e w' => e = .returned (.bool (decide (1 ≤ s.length) && decide (s.length ≤ 40))) ∧ w = w' := by
  obtain ⟨n, hn⟩ : ∃ n, s.length = n := ⟨_, rfl⟩
  rw [hn]
  by_cases h1 : 1 ≤ n
  · have h1' : (1 : Int) ≤ (n : Int) := by omega
    by_cases h40 : n ≤ 40
    · have h40' : (n : Int) ≤ 40 := by omega
      go_enter Tryz.func101, Tryz.ntmps101
      go_wp2
      go_ret
      exact ⟨by simp [h1, h40], rfl⟩
    · have h40' : ¬ (n : Int) ≤ 40 := by omega
      go_enter Tryz.func101, Tryz.ntmps101
      go_wp2
      go_ret
      exact ⟨by simp [h1, h40], rfl⟩
  · have h1' : ¬ (1 : Int) ≤ (n : Int) := by omega
    go_enter Tryz.func101, Tryz.ntmps101
    go_wp2
    go_ret
    exact ⟨by simp [h1], rfl⟩

theorem drop_cons_of {a : Bytes} {i : Nat} (h : i < a.length) : a.drop i = a[i] :: a.drop (i + 1) := List.drop_eq_getElem_cons h

set_option maxHeartbeats 1000000 in
theorem less_any (a b : Bytes) (w : World) (ha : a.length ≤ 100000) (hb : b.length ≤ 100000) : Calls Tryz.prog 26 #[strV a, strV b] w fun e w' => e = .returned (.bool (lessB a b)) ∧ Below w.heap.size w w' := by
  obtain ⟨na, hna⟩ : ∃ n, a.length = n := ⟨_, rfl⟩
  obtain ⟨nb, hnb⟩ : ∃ n, b.length = n := ⟨_, rfl⟩
  go_enter Tryz.func26, Tryz.ntmps26
  go_wp2
  go_loopg [5] na (fun gk s5 wr => ∃ i : Nat, s5 = .int .i64 (i : Int) ∧ i + gk = na ∧ i ≤ nb ∧ Hid (lessB a b = lessB (a.drop i) (b.drop i)) ∧ Below w.heap.size w wr)
  case atStart => exact ⟨0, rfl, by omega, by omega, rfl, Below.refl _ _⟩
  case round =>
    obtain ⟨i, rfl, hi, hib, hl, hbw⟩ := hrel
    by_cases h1 : i < na
    · by_cases h2 : i < nb
      · have h1' : (i : Int) < (na : Int) := by omega
        have h2' : (i : Int) < (nb : Int) := by omega
        have ea := drop_cons_of (a := a) (i := i) (by omega)
        have eb := drop_cons_of (a := b) (i := i) (by omega)
        have h0 : (0 : Int) ≤ (i : Int) := by omega
        have hw : IntKind.i64.wrap ((i : Int) + 1) = (i : Int) + 1 := IntWalk.i64_in _ (by omega)
        obtain ⟨x, hx⟩ : ∃ x, a[i]'(by omega) = x := ⟨_, rfl⟩
        obtain ⟨y, hy⟩ : ∃ y, b[i]'(by omega) = y := ⟨_, rfl⟩
        rw [hx] at ea
        rw [hy] at eb
        have gx : ({ data := List.toArray a } : ByteArray)[i]'(by show i < a.length; omega) = x := hx
        have gy : ({ data := List.toArray b } : ByteArray)[i]'(by show i < b.length; omega) = y := hy
        have HL := hl.out
        rw [ea, eb] at HL
        clear ea eb hl hx hy ha hb
        by_cases hxy : x = y
        · subst hxy
          have hc : lessB (x :: a.drop (i + 1)) (x :: b.drop (i + 1)) = lessB (a.drop (i + 1)) (b.drop (i + 1)) := by simp [lessB, Op.bytesLess]
          rw [hc] at HL
          have HL := Lib.hid HL
          clear hc
          go_wp2_with (fail)
          refine wp_region_any (by kernel_rfl) ?_
          change wpAny _ _ _ _ _ _ _ (World.drew _)
          try simp only [Act.put, lT, l0, lS]
          refine tA 0 ?_; try simp only [Act.put, lT, l0, lS]
          refine tA 1 ?_; try simp only [Act.put, lT, l0, lS]
          refine tA 2 ?_; try simp only [Act.put, lT, l0, lS]
          refine tA 3 ?_; try simp only [Act.put, lT, l0, lS]
          refine tA 4 ?_; try simp only [Act.put, lT, l0, lS]
          refine tA 5 ?_; try simp only [Act.put, lT, l0, lS]
          refine tA 6 ?_; try simp only [Act.put, lT, l0, lS]
          refine wpAny_done (by kernel_rfl) ?_ _
          go_wp2_with (fail)
          go_roundg (gk - 1)
          case measure => omega
          case rel => exact ⟨i + 1, by simp, by omega, by omega, HL.out, hbw.drew⟩
        · have hb1 : (((x.toNat : Nat) : Int) != ((y.toNat : Nat) : Int)) = true := by
            simp only [bne_iff_ne, ne_eq]
            intro e
            exact hxy (UInt8.toNat_inj.1 (by omega))
          have HL := Lib.hid HL
          have HXY := Lib.hid hxy
          clear hxy
          go_wp2_with (fail)
          refine wp_region_any (by kernel_rfl) ?_
          change wpAny _ _ _ _ _ _ _ (World.drew _)
          try simp only [Act.put, lT, l0, lS]
          refine tA 0 ?_; try simp only [Act.put, lT, l0, lS]
          refine tA 1 ?_; try simp only [Act.put, lT, l0, lS]
          refine tA 2 ?_; try simp only [Act.put, lT, l0, lS]
          refine tA 3 ?_; try simp only [Act.put, lT, l0, lS]
          refine tA 4 ?_; try simp only [Act.put, lT, l0, lS]
          refine tA 5 ?_; try simp only [Act.put, lT, l0, lS]
          refine tA 6 ?_; try simp only [Act.put, lT, l0, lS]
          refine wpAny_done (by kernel_rfl) ?_ _
          go_wp2_with (fail)
          refine wp_region_any (by kernel_rfl) ?_
          change wpAny _ _ _ _ _ _ _ (World.drew _)
          try simp only [Act.put, lT, l0, lS]
          refine tA 0 ?_; try simp only [Act.put, lT, l0, lS]
          refine tA 1 ?_; try simp only [Act.put, lT, l0, lS]
          refine tA 2 ?_; try simp only [Act.put, lT, l0, lS]
          refine tA 3 ?_; try simp only [Act.put, lT, l0, lS]
          refine tA 4 ?_; try simp only [Act.put, lT, l0, lS]
          refine tA 5 ?_; try simp only [Act.put, lT, l0, lS]
          refine tA 6 ?_; try simp only [Act.put, lT, l0, lS]
          refine rd 7 (by kernel_rfl) rfl (fun K hK => ?_); go_simp; refine hK _ _ ?_; clear hK K
          refine wpAny_done (by kernel_rfl) ?_ _
          go_wp2_with (fail)
          go_ret
          refine ⟨?_, hbw.drew.drew⟩
          try rw [HL.out]
          simp [lessB, Op.bytesLess, HXY.out, UInt8.lt_iff_toNat_lt]
      · have h2' : ¬ (i : Int) < (nb : Int) := by omega
        have h1' : (i : Int) < (na : Int) := by omega
        have HL := hl.out
        have ed : b.drop i = [] := List.drop_of_length_le (by omega)
        have ec := drop_cons_of (a := a) (i := i) (by omega)
        rw [ed, ec] at HL
        have HL := Lib.hid HL
        clear ed ec hl ha hb
        go_wp2_with (fail)
        go_ret
        refine ⟨?_, hbw⟩
        try rw [HL.out]
        simp [lessB, Op.bytesLess]
        omega
    · have h1' : ¬ (i : Int) < (na : Int) := by omega
      have HL := hl.out
      have ed : a.drop i = [] := List.drop_of_length_le (by omega)
      rw [ed] at HL
      by_cases hnn : na < nb
      · have hnn' : (na : Int) < (nb : Int) := by omega
        have e1 : b.drop i ≠ [] := by intro e; rw [List.drop_eq_nil_iff] at e; omega
        have HL := Lib.hid HL
        have HE := Lib.hid e1
        clear ed hl ha hb e1
        go_wp2_with (fail)
        go_ret
        refine ⟨?_, hbw⟩
        try rw [HL.out]
        cases hd : b.drop i with
        | nil => exact absurd hd HE.out
        | cons u l => simp [lessB, Op.bytesLess]
      · have hnn' : ¬ (na : Int) < (nb : Int) := by omega
        have e1 : b.drop i = [] := List.drop_of_length_le (by omega)
        rw [e1] at HL
        have HL := Lib.hid HL
        clear ed hl ha hb e1
        go_wp2_with (fail)
        go_ret
        refine ⟨?_, hbw⟩
        try rw [HL.out]
        simp [lessB, Op.bytesLess]

-- pairs in a row

def pairCs (q : Pair) : List Value := [strV q.1, strV q.2]
def pairsCs : List Pair → List Value
  | [] => []
  | q :: l => pairCs q ++ pairsCs l
theorem pairsCs_len : ∀ l : List Pair, (pairsCs l).length = l.length * 2
  | [] => rfl
  | q :: l => by simp [pairsCs, pairCs, pairsCs_len l]; omega
theorem pairsCs_app : ∀ a b : List Pair, pairsCs (a ++ b) = pairsCs a ++ pairsCs b
  | [], _ => rfl
  | q :: a, b => by simp [pairsCs, pairsCs_app a b]
theorem pairsCs_take : ∀ (l : List Pair) (k : Nat), (pairsCs l).take (k * 2) = pairsCs (l.take k)
  | [], k => by simp [pairsCs]
  | q :: l, 0 => rfl
  | q :: l, k + 1 => by
    rw [show (k + 1) * 2 = k * 2 + 1 + 1 by omega]
    simp [pairsCs, pairCs, pairsCs_take l k]
theorem pairsCs_drop : ∀ (l : List Pair) (k : Nat), (pairsCs l).drop (k * 2) = pairsCs (l.drop k)
  | [], k => by simp [pairsCs]
  | q :: l, 0 => rfl
  | q :: l, k + 1 => by
    rw [show (k + 1) * 2 = k * 2 + 1 + 1 by omega]
    simp [pairsCs, pairCs, pairsCs_drop l k]
theorem pairsCs_one : ∀ l : List Pair, ∀ u ∈ pairsCs l, u.oneCell' = true
  | [], u, h => by simp [pairsCs] at h
  | q :: l, u, h => by
    simp only [pairsCs, pairCs, List.cons_append, List.nil_append, List.mem_cons] at h
    rcases h with rfl | rfl | h
    · rfl
    · rfl
    · exact pairsCs_one l u h
theorem pairsCs_at : ∀ (l : List Pair) (k : Nat) (hk : k < l.length), (pairsCs l)[k * 2]? = some (strV l[k].1) ∧ (pairsCs l)[k * 2 + 1]? = some (strV l[k].2)
  | q :: l, 0, _ => ⟨rfl, rfl⟩
  | q :: l, k + 1, h => by
    have ih := pairsCs_at l k (by simpa using h)
    rw [show (k + 1) * 2 = k * 2 + 2 by omega]
    simpa [pairsCs, pairCs] using ih

/-- How many stand ahead of a key; is it there? -/
def aheadP (k : Bytes) : List Pair → Nat
  | [] => 0
  | q :: l => if lessB q.1 k then aheadP k l + 1 else 0
def isAtP (k : Bytes) : List Pair → Bool
  | [] => false
  | q :: l => if lessB q.1 k then isAtP k l else q.1 == k

theorem aheadP_le (k : Bytes) : ∀ l : List Pair, aheadP k l ≤ l.length
  | [] => Nat.le_refl _
  | q :: l => by
    have := aheadP_le k l
    simp only [aheadP, List.length_cons]
    split <;> omega
theorem aheadP_drop (k : Bytes) {l : List Pair} {i : Nat} (h : i < l.length) : aheadP k (l.drop i) = if lessB l[i].1 k then aheadP k (l.drop (i + 1)) + 1 else 0 := by
  rw [List.drop_eq_getElem_cons h]
  rfl
theorem isAtP_eq (k : Bytes) : ∀ l : List Pair, isAtP k l = match l[aheadP k l]? with | some q => q.1 == k | none => false
  | [] => rfl
  | q :: l => by
    have ih := isAtP_eq k l
    simp only [isAtP, aheadP]
    split
    · rw [ih]; simp
    · simp
theorem insP_at (k v : Bytes) : ∀ l : List Pair, insP k v l = l.take (aheadP k l) ++ (k, v) :: l.drop (if isAtP k l then aheadP k l + 1 else aheadP k l)
  | [] => rfl
  | q :: l => by
    have ih := insP_at k v l
    simp only [insP, aheadP, isAtP]
    by_cases h1 : lessB q.1 k = true
    · simp only [h1, if_true]
      rw [ih]
      split <;> simp
    · by_cases h2 : lessB k q.1 = true
      · have : (q.1 == k) = false := by
          simp only [beq_eq_false_iff_ne, ne_eq]
          exact (lessB_ne h2).symm
        simp [h1, h2, this]
      · have : (q.1 == k) = true := by
          simp only [beq_iff_eq]
          rcases lessB_total q.1 k with h | h | h
          · exact absurd h h1
          · exact h
          · exact absurd h h2
        simp [h1, h2, this]

def FindP (key : Bytes) (t : List Pair) (w : World) (e : Ending) (w' : World) : Prop :=
  e = .returned (.tuple #[.int .i64 (aheadP key t : Int), .bool (isAtP key t)]) ∧ Below w.heap.size w w'

set_option maxHeartbeats 1000000 in
theorem findP_any (A : Option Addr) (n c : Nat) (t : List Pair) (key : Bytes) (w : World) (hv : Sl w 2 (.slice A n c) n (pairsCs t)) (hn : n ≤ 100000) (hk : key.length ≤ 100000) (hks : ∀ q ∈ t, q.1.length ≤ 100000) :
    Calls Tryz.prog 17 #[.slice A n c, strV key] w (FindP key t w) := by
  have hl : t.length = n := by
    obtain ⟨_, _, _, _, h1, _⟩ := hv
    rw [pairsCs_len] at h1
    omega
  subst hl
  go_enter Tryz.func17, Tryz.ntmps17
  go_wp2
  go_loopg [6] t.length (fun gk s6 wr => ∃ i : Nat, s6 = .int .i64 (i : Int) ∧ i + gk = t.length ∧ Hid (aheadP key t = i + aheadP key (t.drop i)) ∧ Below w.heap.size w wr)
  case atStart => exact ⟨0, rfl, by omega, by show _ = 0 + _; rw [Nat.zero_add]; rfl, Below.refl _ _⟩
  case round =>
    obtain ⟨i, rfl, hi, hl, hbw⟩ := hrel
    by_cases h1 : i < t.length
    · have h1' : (i : Int) < (t.length : Int) := by omega
      have h0 : (0 : Int) ≤ (i : Int) := by omega
      have hw : IntKind.i64.wrap ((i : Int) + 1) = (i : Int) + 1 := IntWalk.i64_in _ (by omega)
      obtain ⟨A', c', e0, _, _, hcl⟩ := hv.below hbw
      cases e0
      obtain ⟨blk, off, rfl, hbl, hcell⟩ := hcl (by omega)
      obtain ⟨p1, p2⟩ := pairsCs_at t i h1
      have x1 := hcell _ _ p1
      have x2 := hcell _ _ p2
      have HL := Lib.hid (less_any t[i].1 key wr (hks _ (List.getElem_mem ..)) hk)
      have hD := hl.out
      rw [aheadP_drop key h1] at hD
      have hQ := Lib.hid (isAtP_eq key t)
      cases hc : lessB t[i].1 key with
      | true =>
        rw [hc] at HL hD
        simp only [if_true] at hD
        have hD := Lib.hid hD
        clear hv hks hcell hl p1 p2 hcl
        go_wp2_with (fail)
        go_must (refine HL.out.mono ?_)
        rintro e w1 ⟨rfl, hb1⟩
        go_wp2_with (fail)
        go_roundg (gk - 1)
        case measure => omega
        case rel => exact ⟨i + 1, by simp, by omega, by show _ = _; rw [hD.out]; omega, hbw.trans (hb1.mono hbw.size)⟩
      | false =>
        rw [hc] at HL hD
        simp only [Bool.false_eq_true, if_false] at hD
        have hat : isAtP key t = (t[i].1 == key) := by
          rw [hQ.out, hD, Nat.add_zero, List.getElem?_eq_getElem h1]
        have x1' : ∀ W, Below wr.heap.size wr W → W.cell? ⟨blk, off + i * 2, none⟩ = some (strV t[i].1) := fun W hW => (hW.cell (p := ⟨blk, off + i * 2, none⟩) hbl).trans x1
        have hD := Lib.hid hD
        have HAT := Lib.hid hat
        have X1 := Lib.hid x1'
        clear hv hks hcell hl p1 p2 hcl hat x1'
        go_wp2_with (fail)
        go_must (refine HL.out.mono ?_)
        rintro e w1 ⟨rfl, hb1⟩
        have y1 := X1.out w1 hb1
        go_wp2_with (fail)
        refine wp_region_any (by kernel_rfl) ?_
        change wpAny _ _ _ _ _ _ _ (World.drew _)
        try simp only [Act.put, lT, l0, lS]
        refine tA 0 ?_; try simp only [Act.put, lT, l0, lS]
        refine tA 1 ?_; try simp only [Act.put, lT, l0, lS]
        refine tA 2 ?_; try simp only [Act.put, lT, l0, lS]
        refine tA 3 ?_; try simp only [Act.put, lT, l0, lS]
        refine tA 4 ?_; try simp only [Act.put, lT, l0, lS]
        refine tA 5 ?_; try simp only [Act.put, lT, l0, lS]
        refine tA 6 ?_; try simp only [Act.put, lT, l0, lS]
        refine tA 7 ?_; try simp only [Act.put, lT, l0, lS]
        refine tA 8 ?_; try simp only [Act.put, lT, l0, lS]
        refine tA 9 ?_; try simp only [Act.put, lT, l0, lS]
        try simp only [Act.put, lT, l0, lS]
        refine rA 10 (v := ?_) (hy := ?hy) ?_; case hy => (intro w hE; have q0 := hE.cell y1; go_simp; try with_reducible rfl)
        try simp only [Act.put, lT, l0, lS]
        try simp only [Act.put, lT, l0, lS]
        refine tA 11 ?_; try simp only [Act.put, lT, l0, lS]
        refine tA 12 ?_; try simp only [Act.put, lT, l0, lS]
        refine tA 13 ?_; try simp only [Act.put, lT, l0, lS]
        refine rd 14 (by kernel_rfl) rfl (fun K hK => ?_); go_simp; refine hK _ _ ?_; clear hK K
        refine rd 15 (by kernel_rfl) rfl (fun K hK => ?_); go_simp; refine hK _ _ ?_; clear hK K
        refine wpAny_done (by kernel_rfl) ?_ _
        go_wp2_with (fail)
        refine bodyPost_ret (v := .tuple #[.int .i64 (i : Int), .bool (t[i].1 == key)]) (by simp [results, Tryz.results17, go_sem]) rfl ?_
        exact ⟨by rw [hD.out, HAT.out]; simp, (hbw.trans (hb1.mono hbw.size)).drew⟩
    · have h1' : ¬ (i : Int) < (t.length : Int) := by omega
      have hii : i = t.length := by omega
      have hD := hl.out
      rw [hii, List.drop_length] at hD
      simp only [aheadP, Nat.add_zero] at hD
      have hat : isAtP key t = false := by rw [isAtP_eq, hD]; simp
      have hD := Lib.hid hD
      have HAT := Lib.hid hat
      have HII := Lib.hid hii
      clear hv hks hl hat hii
      go_wp2_with (fail)
      refine wp_region_any (by kernel_rfl) ?_
      change wpAny _ _ _ _ _ _ _ (World.drew _)
      try simp only [Act.put, lT, l0, lS]
      refine tA 0 ?_; try simp only [Act.put, lT, l0, lS]
      refine tA 1 ?_; try simp only [Act.put, lT, l0, lS]
      refine tA 2 ?_; try simp only [Act.put, lT, l0, lS]
      refine tA 3 ?_; try simp only [Act.put, lT, l0, lS]
      refine tA 4 ?_; try simp only [Act.put, lT, l0, lS]
      refine tA 5 ?_; try simp only [Act.put, lT, l0, lS]
      try simp only [Act.put, lT, l0, lS]
      refine sA 6 ?_; try simp only [Act.put, lT, l0, lS]
      refine sA 7 ?_; try simp only [Act.put, lT, l0, lS]
      refine sA 8 ?_; try simp only [Act.put, lT, l0, lS]
      refine sA 9 ?_; try simp only [Act.put, lT, l0, lS]
      refine sA 10 ?_; try simp only [Act.put, lT, l0, lS]
      refine sA 11 ?_; try simp only [Act.put, lT, l0, lS]
      refine sA 12 ?_; try simp only [Act.put, lT, l0, lS]
      try simp only [Act.put, lT, l0, lS]
      refine tA 13 ?_; try simp only [Act.put, lT, l0, lS]
      refine rd 14 (by kernel_rfl) rfl (fun K hK => ?_); go_simp; refine hK _ _ ?_; clear hK K
      refine rd 15 (by kernel_rfl) rfl (fun K hK => ?_); go_simp; refine hK _ _ ?_; clear hK K
      refine wpAny_done (by kernel_rfl) ?_ _
      go_wp2_with (fail)
      refine bodyPost_ret (v := .tuple #[.int .i64 (i : Int), .bool false]) (by simp [results, Tryz.results17, go_sem]) rfl ?_
      exact ⟨by rw [hD.out, HAT.out, HII.out], hbw.drew⟩
end Go.Ev

set_option linter.unusedVariables false
set_option linter.unusedSimpArgs false
namespace Go.Ev
open Go.Proofs Go.RowKit

theorem infoPair : (Tryz.prog.info? 44).map (fun i => (i.zero, i.size, i.bytes)) = some (some (.agg #[strV [], strV []]), 2, 32) := by kernel_rfl

theorem aheadAt_lt {k : Bytes} {l : List Pair} (h : isAtP k l = true) : aheadP k l < l.length := by
  rw [isAtP_eq] at h
  cases hq : l[aheadP k l]? with
  | none => rw [hq] at h; cases h
  | some q => exact (List.getElem?_eq_some_iff.1 hq).1

def RefPutP (key v : Bytes) (t : List Pair) (w : World) (e : Ending) (w' : World) : Prop :=
  ∃ u, e = .returned (.tuple #[u, .int .i64 0]) ∧ w'.ownsRow w.heap.size 44 2 u (insP key v t).length (pairsCs (insP key v t)) ∧ Below w.heap.size w w'

theorem refPut_bad (A : Option Addr) (n c : Nat) (key v : Bytes) (w : World) (hk : key.length ≤ 9223372036854775807) (hv : v.length ≤ 9223372036854775807) (hbad : ¬ (1 ≤ key.length ∧ key.length ≤ 40 ∧ v.length ≤ 2000)) :
    Calls Tryz.prog 29 #[.slice A n c, strV key, strV v] w fun e w' => e = .returned (.tuple #[.slice A n c, .int .i64 1]) ∧ w = w' := by
  have hG := good_any key w hk
  obtain ⟨m, hm⟩ : ∃ m, v.length = m := ⟨_, rfl⟩
  rw [hm] at hbad hv
  by_cases hg : 1 ≤ key.length ∧ key.length ≤ 40
  · have e1 : decide (1 ≤ key.length) = true := by simpa using hg.1
    have e2 : decide (key.length ≤ 40) = true := by simpa using hg.2
    rw [e1, e2] at hG
    have h2 : (2000 : Int) < (m : Int) := by omega
    have HG := Lib.hid hG
    clear hG e1 e2
    go_enter Tryz.func29, Tryz.ntmps29
    go_wp2_with (fail)
    go_must (refine HG.out.mono ?_)
    rintro e w1 ⟨rfl, rfl⟩
    go_wp2_with (fail)
    refine bodyPost_ret (v := .tuple #[.slice A n c, .int .i64 1]) (by simp [results, Tryz.results29, go_sem]) rfl ?_
    exact ⟨rfl, rfl⟩
  · have e1 : (decide (1 ≤ key.length) && decide (key.length ≤ 40)) = false := by
      rw [Bool.and_eq_false_iff]
      simp only [decide_eq_false_iff_not]
      omega
    rw [e1] at hG
    have HG := Lib.hid hG
    clear hG e1
    go_enter Tryz.func29, Tryz.ntmps29
    go_wp2_with (fail)
    go_must (refine HG.out.mono ?_)
    rintro e w1 ⟨rfl, rfl⟩
    go_wp2_with (fail)
    refine bodyPost_ret (v := .tuple #[.slice A n c, .int .i64 1]) (by simp [results, Tryz.results29, go_sem]) rfl ?_
    exact ⟨rfl, rfl⟩

theorem row_pair (w : World) (q : Pair) (T : TypeId) (B : Nat) (hB : B = w.heap.size) : ∀ j v, (pairsCs [q])[j]? = some v → (w.alloc (.cells #[strV q.1, strV q.2] T)).cell? ((⟨B, 0, none⟩ : Addr).add j) = some v := by
  intro j v h
  subst hB
  rw [addr_add]
  have hb := Blk.new w T #[strV q.1, strV q.2]
  match j with
  | 0 => cases h; exact hb.cell 0
  | 1 => cases h; exact hb.cell 1
  | j + 2 => simp [pairsCs, pairCs] at h

theorem sl_pair (w : World) (q : Pair) (T : TypeId) : Sl (w.alloc (.cells #[strV q.1, strV q.2] T)) 2 (.slice (some ⟨w.heap.size, 0, none⟩) 1 1) 1 (pairsCs [q]) := by
  refine ⟨_, _, rfl, Nat.le_refl _, rfl, fun _ => ⟨w.heap.size, 0, rfl, by simp, fun j u hu => ?_⟩⟩
  have := row_pair w q T _ rfl j u hu
  rw [addr_add] at this
  exact this

set_option maxHeartbeats 4000000 in
set_option maxRecDepth 100000 in
theorem refPut_any (B : Nat) (x : Value) (t : List Pair) (key v : Bytes) (w : World) (hx : w.ownsRow B 44 2 x t.length (pairsCs t)) (hn : t.length ≤ 10000) (hks : ∀ q ∈ t, q.1.length ≤ 100000) (hk1 : 1 ≤ key.length) (hk2 : key.length ≤ 40) (hv : v.length ≤ 2000) :
    Calls Tryz.prog 29 #[x, strV key, strV v] w (RefPutP key v t w) := by
  obtain ⟨i0, hi, q0, q1, q2⟩ := info_parts infoPair
  have hG := good_any key w (by omega)
  have e1 : decide (1 ≤ key.length) = true := by simpa using hk1
  have e2 : decide (key.length ≤ 40) = true := by simpa using hk2
  rw [e1, e2] at hG
  obtain ⟨m, hm⟩ : ∃ m, v.length = m := ⟨_, rfl⟩
  have hm2 : ¬ (2000 : Int) < (m : Int) := by omega
  obtain ⟨A, c, rfl, hnc⟩ : ∃ A c, x = .slice A t.length c ∧ t.length ≤ c := by obtain ⟨A, c, e, h, _⟩ := Sl.of_own hx; exact ⟨A, c, e, h⟩
  have hsl := Sl.of_own hx
  have hAc : A = none → c = 0 ∧ t = [] := by
    rintro rfl
    rcases hx.2 with ⟨e, h⟩ | ⟨g, cap, cur, e, _⟩
    · simp only [Value.slice.injEq] at e
      exact ⟨e.2.2, List.eq_nil_of_length_eq_zero e.2.1⟩
    · simp at e
  have hF := findP_any A t.length c t key w hsl (by omega) (by omega) hks
  obtain ⟨k, hk⟩ : ∃ k, k = aheadP key t := ⟨_, rfl⟩
  obtain ⟨is, his⟩ : ∃ is, is = isAtP key t := ⟨_, rfl⟩
  obtain ⟨d, hd⟩ : ∃ d, d = if is then k + 1 else k := ⟨_, rfl⟩
  have hins := insP_at key v t
  rw [← his, ← hk, ← hd] at hins
  unfold FindP at hF
  rw [← hk, ← his] at hF
  have hkt : k ≤ t.length := hk ▸ aheadP_le key t
  have hkd : is = true → k + 1 ≤ t.length := fun h => by have := aheadAt_lt (his ▸ h : isAtP key t = true); omega
  have hdt : d ≤ t.length := by rw [hd]; cases is with | true => simpa using hkd rfl | false => simpa using hkt
  -- the front and the rest
  obtain ⟨A1, c1, hA1, hs1, hn1⟩ : ∃ A1 c1, (Value.slice A k c = .slice A1 k c1) ∧ Sl w 2 (.slice A1 k c1) k (pairsCs (t.take k)) ∧ (A1 = none → c1 = 0) := by
    refine ⟨A, c, rfl, ?_, fun h => (hAc h).1⟩
    rw [← pairsCs_take]
    exact Sl.take hsl hkt
  cases hA1
  have hrest : ∀ j, j ≤ t.length → ∃ A3, (A = none → A3 = none ∧ c - j = 0) ∧ (∀ blk off, A = some ⟨blk, off, none⟩ → A3 = if c = j then some ⟨blk, off, none⟩ else some ⟨blk, off + j * 2, none⟩) ∧ Sl w 2 (.slice A3 (t.length - j) (c - j)) (t.length - j) (pairsCs (t.drop j)) ∧ (A3 = none → c - j = 0) := by
    intro j hj
    cases A with
    | none =>
      obtain ⟨rfl, rfl⟩ := hAc rfl
      exact ⟨none, fun _ => ⟨rfl, by omega⟩, fun blk off h => (by cases h), by simpa [pairsCs] using Sl.nil w 2 (0 - j) none, fun _ => by omega⟩
    | some a =>
      rcases hx.2 with ⟨e, _⟩ | ⟨g, cap, cur, e, _⟩
      · cases e
      · cases e
        by_cases hc : c = j
        · refine ⟨some ⟨g, 0, none⟩, fun h => (by cases h), fun blk off h => (by cases h; rw [if_pos hc]), ?_, fun h => by cases h⟩
          have : t.length - j = 0 := by omega
          rw [this, List.drop_of_length_le (by omega)]
          exact Sl.nil ..
        · refine ⟨some ⟨g, 0 + j * 2, none⟩, fun h => (by cases h), fun blk off h => (by cases h; rw [if_neg hc]), ?_, fun h => by cases h⟩
          rw [← pairsCs_drop]
          exact Sl.drop hsl hj
  have hins_len : (insP key v t).length ≤ 10001 := by have := (insP_len (k := key) (v := v) t).1; omega
  have hlen : (insP key v t).length = k + 1 + (t.length - d) := by
    rw [hins, List.length_append, List.length_cons, List.length_take, List.length_drop]
    omega
  have hcs : pairsCs (insP key v t) = pairsCs (t.take k) ++ pairsCs [(key, v)] ++ pairsCs (t.drop d) := by
    rw [hins, ← pairsCs_app, ← pairsCs_app]
    simp
  have hE : ∀ u W, W.ownsRow w.heap.size 44 2 u (k + 1 + (t.length - d)) (pairsCs (t.take k) ++ pairsCs [(key, v)] ++ pairsCs (t.drop d)) → Below w.heap.size w W → RefPutP key v t w (.returned (.tuple #[u, .int .i64 0])) W := fun u W h1 h2 => by
    refine ⟨u, rfl, ?_, h2⟩
    rw [hlen, hcs]
    exact h1
  have HE := Lib.hid hE
  have HF := Lib.hid hF
  have HG := Lib.hid hG
  have HRest := Lib.hid hrest
  have HS1 := Lib.hid hs1
  have HKD := Lib.hid hkd
  have HD := Lib.hid hd
  have hb := Lib.hid hx
  clear hE hF hG hrest hs1 hcs hlen hins hk his hsl hx e1 e2 hins_len hkd hd hk1 hk2 hv hks
  cases A with
  | none =>
    obtain ⟨rfl, rfl⟩ := hAc rfl
    have hk0 : k = 0 := by simpa using hkt
    have hd0 : d = 0 := by simpa using hdt
    subst hk0 hd0
    cases is with
    | true => exact absurd (HKD.out rfl) (by simp)
    | false =>
      clear hAc hn1 hdt hkt hnc hn
      go_enter Tryz.func29, Tryz.ntmps29
      go_wp2_with (fail)
      go_must (refine HG.out.mono ?_)
      rintro e w0 ⟨rfl, rfl⟩
      go_wp2_with (fail)
      go_must (refine HF.out.mono ?_)
      rintro e w1 ⟨rfl, hb1⟩
      have hz1 := hb1.size
      go_wp2_with (at_builtin; go_must (refine wpList_append_sl rfl _ _ 27 rfl w.heap.size 44 i0 _ 2 32 Tryz.underlying27 hi q0 q1 q2 rfl (by decide) (.slice none 0 0) 0 [] rfl (World.ownsRow_nil _ _ _ _) none 0 0 [] rfl (Sl.nil ..) (fun _ => rfl) (by simp) (by decide) (by omega) hz1 ?_))
      intro v1 w2 own1 gr1
      have hb2 : Below w.heap.size w w2 := hb1.grown gr1 hz1 (fun k hk => by cases hk)
      have hz2 := hb2.size
      obtain ⟨A1, c1, rfl, _⟩ := Sl.of_own own1
      go_wp2_with (at_builtin; go_must (refine wpList_append_sl rfl _ _ 27 rfl w.heap.size 44 i0 _ 2 32 Tryz.underlying27 hi q0 q1 q2 rfl (by decide) _ 0 [] rfl (own1.alloc _) (some ⟨w2.heap.size, 0, none⟩) 1 1 (pairsCs [(key, v)]) rfl (sl_pair w2 (key, v) _) (fun h => by cases h) (pairsCs_one _) (by decide) (by omega) (by simp; omega) ?_))
      intro v2 w3 own2 gr2
      have hb3 : Below w.heap.size w w3 := (hb2.alloc hz2 _).grown gr2 (by simp; omega) (fun k hk => (own1.lt k hk).1)
      have hz3 := hb3.size
      obtain ⟨A2, c2, rfl, _⟩ := Sl.of_own own2
      go_wp2_with (at_builtin; go_must (refine wpList_append_sl rfl _ _ 27 rfl w.heap.size 44 i0 _ 2 32 Tryz.underlying27 hi q0 q1 q2 rfl (by decide) _ 1 (pairsCs [(key, v)]) rfl own2 none 0 0 [] rfl (Sl.nil ..) (fun _ => rfl) (by simp) (by decide) (by omega) hz3 ?_))
      intro v3 w4 own3 gr3
      have hb4 : Below w.heap.size w w4 := hb3.grown gr3 hz3 (fun k hk => (own2.lt k hk).1)
      obtain ⟨A3, c3, rfl, _⟩ := Sl.of_own own3
      go_wp2_with (fail)
      refine bodyPost_ret (v := .tuple #[.slice A3 1 c3, .int .i64 0]) (by simp [results, Tryz.results29, go_sem]) rfl ?_
      exact HE.out _ _ (by simpa [pairsCs] using own3) hb4
  | some a =>
    obtain ⟨g, off, rfl⟩ : ∃ g off, a = ⟨g, off, none⟩ := by
      rcases hb.out.2 with ⟨e, _⟩ | ⟨g, cap, cur, e, _⟩
      · cases e
      · cases e; exact ⟨g, 0, rfl⟩
    obtain ⟨n, hn'⟩ : ∃ n, t.length = n := ⟨_, rfl⟩
    rw [hn'] at hkt hdt hnc hn HE HF HRest HKD hb ⊢
    obtain ⟨A3, _, hA3, hs3, hn3⟩ := HRest.out d hdt
    replace hA3 := (hA3 g off rfl).symm
    have hkn : (k : Int) ≤ (n : Int) := by omega
    have hkc : k ≤ c := by omega
    have hdn : d ≤ n := hdt
    have hML : 100000 ≤ maxLen := by unfold maxLen; omega
    have HS3 := Lib.hid (And.intro hs3 hn3)
    have HN := Lib.hid hn'
    clear hAc hn1 hs3 hn3 hn'
    go_enter Tryz.func29, Tryz.ntmps29
    go_wp2_with (fail)
    go_must (refine HG.out.mono ?_)
    rintro e w0 ⟨rfl, rfl⟩
    go_wp2_with (fail)
    go_must (refine HF.out.mono ?_)
    rintro e w1 ⟨rfl, hb1⟩
    have hz1 := hb1.size
    cases is with
    | true =>
      have hd1 : d = k + 1 := HD.out
      have hw1 : IntKind.i64.wrap ((k : Int) + 1) = (k : Int) + 1 := IntWalk.i64_in _ (by omega)
      have hk1n : (k : Int) + 1 ≤ (n : Int) := by omega
      have hk0 : (0 : Int) ≤ (k : Int) + 1 := by omega
      have htn : ((k : Int) + 1).toNat = k + 1 := by omega
      subst hd1
      go_wp2_with (at_builtin; go_must (refine wpList_append_sl rfl _ _ 27 rfl w.heap.size 44 i0 _ 2 32 Tryz.underlying27 hi q0 q1 q2 rfl (by decide) (.slice none 0 0) 0 [] rfl (World.ownsRow_nil _ _ _ _) (some ⟨g, off, none⟩) k c (pairsCs (t.take k)) rfl (HS1.out.below hb1) (fun h => by cases h) (pairsCs_one _) (by omega) (by omega) hz1 ?_))
      intro v1 w2 own1 gr1
      have hb2 : Below w.heap.size w w2 := hb1.grown gr1 hz1 (fun k hk => by cases hk)
      have hz2 := hb2.size
      obtain ⟨A1, c1, rfl, _⟩ := Sl.of_own own1
      go_wp2_with (at_builtin; go_must (refine wpList_append_sl rfl _ _ 27 rfl w.heap.size 44 i0 _ 2 32 Tryz.underlying27 hi q0 q1 q2 rfl (by decide) _ _ _ rfl (own1.alloc _) (some ⟨w2.heap.size, 0, none⟩) 1 1 (pairsCs [(key, v)]) rfl (sl_pair w2 (key, v) _) (fun h => by cases h) (pairsCs_one _) (by omega) (by omega) (by simp; omega) ?_))
      intro v2 w3 own2 gr2
      have hb3 : Below w.heap.size w w3 := (hb2.alloc hz2 _).grown gr2 (by simp; omega) (fun k hk => (own1.lt k hk).1)
      have hz3 := hb3.size
      obtain ⟨A2, c2, rfl, _⟩ := Sl.of_own own2
      go_wp2_with (at_builtin; go_must (refine wpList_append_sl rfl _ _ 27 rfl w.heap.size 44 i0 _ 2 32 Tryz.underlying27 hi q0 q1 q2 rfl (by decide) _ _ _ rfl own2 A3 _ _ (pairsCs (t.drop (k + 1))) rfl (HS3.out.1.below hb3) HS3.out.2 (pairsCs_one _) (by omega) (by omega) hz3 ?_))
      intro v3 w4 own3 gr3
      have hb4 : Below w.heap.size w w4 := hb3.grown gr3 hz3 (fun k hk => (own2.lt k hk).1)
      obtain ⟨A4, c4, rfl, _⟩ := Sl.of_own own3
      go_wp2_with (fail)
      refine bodyPost_ret (v := .tuple #[.slice A4 _ c4, .int .i64 0]) (by simp [results, Tryz.results29, go_sem]; rfl) rfl ?_
      have hkn2 : k + 1 + (n - (k + 1)) = n := by omega
      exact HE.out _ _ (by simpa [hkn2] using own3) hb4
    | false =>
      have hd1 : d = k := HD.out
      subst hd1
      go_wp2_with (at_builtin; go_must (refine wpList_append_sl rfl _ _ 27 rfl w.heap.size 44 i0 _ 2 32 Tryz.underlying27 hi q0 q1 q2 rfl (by decide) (.slice none 0 0) 0 [] rfl (World.ownsRow_nil _ _ _ _) (some ⟨g, off, none⟩) d c (pairsCs (t.take d)) rfl (HS1.out.below hb1) (fun h => by cases h) (pairsCs_one _) (by omega) (by omega) hz1 ?_))
      intro v1 w2 own1 gr1
      have hb2 : Below w.heap.size w w2 := hb1.grown gr1 hz1 (fun k hk => by cases hk)
      have hz2 := hb2.size
      obtain ⟨A1, c1, rfl, _⟩ := Sl.of_own own1
      go_wp2_with (at_builtin; go_must (refine wpList_append_sl rfl _ _ 27 rfl w.heap.size 44 i0 _ 2 32 Tryz.underlying27 hi q0 q1 q2 rfl (by decide) _ _ _ rfl (own1.alloc _) (some ⟨w2.heap.size, 0, none⟩) 1 1 (pairsCs [(key, v)]) rfl (sl_pair w2 (key, v) _) (fun h => by cases h) (pairsCs_one _) (by omega) (by omega) (by simp; omega) ?_))
      intro v2 w3 own2 gr2
      have hb3 : Below w.heap.size w w3 := (hb2.alloc hz2 _).grown gr2 (by simp; omega) (fun k hk => (own1.lt k hk).1)
      have hz3 := hb3.size
      obtain ⟨A2, c2, rfl, _⟩ := Sl.of_own own2
      go_wp2_with (at_builtin; go_must (refine wpList_append_sl rfl _ _ 27 rfl w.heap.size 44 i0 _ 2 32 Tryz.underlying27 hi q0 q1 q2 rfl (by decide) _ _ _ rfl own2 A3 _ _ (pairsCs (t.drop d)) rfl (HS3.out.1.below hb3) HS3.out.2 (pairsCs_one _) (by omega) (by omega) hz3 ?_))
      intro v3 w4 own3 gr3
      have hb4 : Below w.heap.size w w4 := hb3.grown gr3 hz3 (fun k hk => (own2.lt k hk).1)
      obtain ⟨A4, c4, rfl, _⟩ := Sl.of_own own3
      go_wp2_with (fail)
      refine bodyPost_ret (v := .tuple #[.slice A4 _ c4, .int .i64 0]) (by simp [results, Tryz.results29, go_sem]; rfl) rfl ?_
      exact HE.out _ _ (by simpa using own3) hb4
end Go.Ev

set_option linter.unusedVariables false
set_option linter.unusedSimpArgs false
namespace Go.Ev
open Go.Proofs Go.RowKit

theorem leftmost_any (v : Value) (w : World) : Calls Tryz.prog 42 #[v] w fun e w' => e = .returned (.int .i64 0) ∧ w = w' := by
  go_enter Tryz.func42, Tryz.ntmps42
  go_wp2
  go_ret
  exact ⟨rfl, rfl⟩

theorem rightmost_any (A : Option Addr) (n c : Nat) (w : World) (hn : 1 ≤ n) (hn2 : n ≤ 100000) : Calls Tryz.prog 44 #[.slice A n c] w fun e w' => e = .returned (.int .i64 ((n - 1 : Nat) : Int)) ∧ w = w' := by
  obtain ⟨m, rfl⟩ : ∃ m, n = m + 1 := ⟨n - 1, by omega⟩
  have hw : IntKind.i64.wrap ((m : Int) + 1 - 1) = (m : Int) := by rw [show (m : Int) + 1 - 1 = m by omega]; exact IntWalk.i64_in _ (by omega)
  have e0 : ((m + 1 : Nat) : Int) = (m : Int) + 1 := by omega
  go_enter Tryz.func44, Tryz.ntmps44
  go_wp2
  go_ret
  exact ⟨by simp, rfl⟩

theorem seekpick_any (A : Option Addr) (n c bx : Nat) (L : List Child) (key : Bytes) (w : World) (hb : w.cell? ⟨bx, 0, none⟩ = some (strV key)) (hv : Sl w 2 (.slice A n c) n (childrenCs L)) (hn : n ≤ 100000) (hr : rightC L = true) :
    Calls Tryz.prog 45 #[.slice A n c, .pointer (some ⟨bx, 0, none⟩)] w fun e w' => e = .returned (.int .i64 (findC key L : Int)) ∧ w = w' := by
  have HF := Lib.hid (findC_any A n c L key w hv hn hr)
  go_enter Tryz.func45, Tryz.ntmps45
  go_wp2_with (fail)

  go_must (refine HF.out.mono ?_)
  rintro e w1 ⟨rfl, rfl⟩
  go_wp2_with (fail)
  go_ret
  exact ⟨rfl, rfl⟩
end Go.Ev
