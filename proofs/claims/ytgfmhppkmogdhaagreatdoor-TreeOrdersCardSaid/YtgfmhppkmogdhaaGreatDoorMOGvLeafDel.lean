/-
  The document's own tree: its order, where a key is, a pair put in. The document's own tree: a pair put in. The pairs that steps make, put in one by one. Where a cursor stands: a way into a tree, and how many pairs lie ahead of it. slices.Sort at a row of integers that is one's own. leaf.Del: items without a key. A key is taken out of a leaf.
-/
import Derived.Test.YtgfmhppkmogdhaaGreatDoorMOEvInsert
import Derived.Test.YtgfmhppkmogdhaaGreatDoorMOGwReplace
import Derived.Test.YtgfmhppkmogdhaaGreatDoorMOGvClear
import Derived.Test.YtgfmhppkmogdhaaGreatDoorMOGvOrd
import Derived.Test.YtgfmhppkmogdhaaGreatDoorMOGvCount
import Derived.Test.YtgfmhppkmogdhaaGreatDoorMOGwSeal
import Derived.Lib.SortBridge
import Derived.Test.YtgfmhppkmogdhaaGreatDoorMOGwBranch2
import Derived.Test.YtgfmhppkmogdhaaGreatDoorMOGvBranch
set_option linter.unusedVariables false
set_option linter.unusedSimpArgs false
set_option linter.unusedVariables false
set_option linter.unusedSimpArgs false
namespace Go.Ev
open Go.Proofs Go.RowKit

theorem good_any (s : Bytes) (w : World) (hs : s.length ≤ 9223372036854775807) : Calls Tryz.prog 101 #[strV s] w fun e w' => e = .returned (.bool (decide (1 ≤ s.length) && decide (s.length ≤ 40))) ∧ w = w' := by
  obtain ⟨n, hn⟩ : ∃ n, s.length = n := ⟨_, rfl⟩
  rw [hn]
  by_cases h1 : 1 ≤ n
  · have h1' : (1 : Int) ≤ (n : Int) := by omega
    by_cases h40 : n ≤ 40
    · have h40' : (n : Int) ≤ 40 := by omega
      go_enter Tryz.func101, Tryz.ntmps101
      go_wp2
      go_ret
      exact ⟨by simp [h1, h40], rfl⟩
    · have h40' : ¬ (n : Int) ≤ 40 := by omega
      go_enter Tryz.func101, Tryz.ntmps101
      go_wp2
      go_ret
      exact ⟨by simp [h1, h40], rfl⟩
  · have h1' : ¬ (1 : Int) ≤ (n : Int) := by omega
    go_enter Tryz.func101, Tryz.ntmps101
    go_wp2
    go_ret
    exact ⟨by simp [h1], rfl⟩

theorem drop_cons_of {a : Bytes} {i : Nat} (h : i < a.length) : a.drop i = a[i] :: a.drop (i + 1) := List.drop_eq_getElem_cons h

set_option maxHeartbeats 1000000 in
theorem less_any (a b : Bytes) (w : World) (ha : a.length ≤ 100000) (hb : b.length ≤ 100000) : Calls Tryz.prog 26 #[strV a, strV b] w fun e w' => e = .returned (.bool (lessB a b)) ∧ Below w.heap.size w w' := by
  obtain ⟨na, hna⟩ : ∃ n, a.length = n := ⟨_, rfl⟩
  obtain ⟨nb, hnb⟩ : ∃ n, b.length = n := ⟨_, rfl⟩
  go_enter Tryz.func26, Tryz.ntmps26
  go_wp2
  go_loopg [5] na (fun gk s5 wr => ∃ i : Nat, s5 = .int .i64 (i : Int) ∧ i + gk = na ∧ i ≤ nb ∧ Hid (lessB a b = lessB (a.drop i) (b.drop i)) ∧ Below w.heap.size w wr)
  case atStart => exact ⟨0, rfl, by omega, by omega, rfl, Below.refl _ _⟩
  case round =>
    obtain ⟨i, rfl, hi, hib, hl, hbw⟩ := hrel
    by_cases h1 : i < na
    · by_cases h2 : i < nb
      · have h1' : (i : Int) < (na : Int) := by omega
        have h2' : (i : Int) < (nb : Int) := by omega
        have ea := drop_cons_of (a := a) (i := i) (by omega)
        have eb := drop_cons_of (a := b) (i := i) (by omega)
        have h0 : (0 : Int) ≤ (i : Int) := by omega
        have hw : IntKind.i64.wrap ((i : Int) + 1) = (i : Int) + 1 := IntWalk.i64_in _ (by omega)
        obtain ⟨x, hx⟩ : ∃ x, a[i]'(by omega) = x := ⟨_, rfl⟩
        obtain ⟨y, hy⟩ : ∃ y, b[i]'(by omega) = y := ⟨_, rfl⟩
        rw [hx] at ea
        rw [hy] at eb
        have gx : ({ data := List.toArray a } : ByteArray)[i]'(by show i < a.length; omega) = x := hx
        have gy : ({ data := List.toArray b } : ByteArray)[i]'(by show i < b.length; omega) = y := hy
        have HL := hl.out
        rw [ea, eb] at HL
        clear ea eb hl hx hy ha hb
        by_cases hxy : x = y
        · subst hxy
          have hc : lessB (x :: a.drop (i + 1)) (x :: b.drop (i + 1)) = lessB (a.drop (i + 1)) (b.drop (i + 1)) := by simp [lessB, Op.bytesLess]
          rw [hc] at HL
          have HL := Lib.hid HL
          clear hc
          go_wp2_with (fail)
          refine wp_region_any (by kernel_rfl) ?_
          change wpAny _ _ _ _ _ _ _ (World.drew _)
          try simp only [Act.put, lT, l0, lS]
          refine tk 0 (v := ?_) rfl (by kernel_rfl) (fun _ _ _ h => h) (by rfl) ?hy ?_
          case hy => intro w; go_simp; try with_reducible rfl
          try simp only [Act.put, lT, l0, lS]
          refine tk 1 (v := ?_) rfl (by kernel_rfl) (fun _ _ _ h => h) (by rfl) ?hy ?_
          case hy => intro w; go_simp; try with_reducible rfl
          try simp only [Act.put, lT, l0, lS]
          refine tk 2 (v := ?_) rfl (by kernel_rfl) (fun _ _ _ h => h) (by rfl) ?hy ?_
          case hy => intro w; go_simp; try with_reducible rfl
          try simp only [Act.put, lT, l0, lS]
          refine tk 3 (v := ?_) rfl (by kernel_rfl) (fun _ _ _ h => h) (by rfl) ?hy ?_
          case hy => intro w; go_simp; try with_reducible rfl
          try simp only [Act.put, lT, l0, lS]
          refine tk 4 (v := ?_) rfl (by kernel_rfl) (fun _ _ _ h => h) (by rfl) ?hy ?_
          case hy => intro w; go_simp; try with_reducible rfl
          try simp only [Act.put, lT, l0, lS]
          refine tk 5 (v := ?_) rfl (by kernel_rfl) (fun _ _ _ h => h) (by rfl) ?hy ?_
          case hy => intro w; go_simp; try with_reducible rfl
          try simp only [Act.put, lT, l0, lS]
          refine tk 6 (v := ?_) rfl (by kernel_rfl) (fun _ _ _ h => h) (by rfl) ?hy ?_
          case hy => intro w; go_simp; try with_reducible rfl
          try simp only [Act.put, lT, l0, lS]
          refine wpAny_done (by kernel_rfl) ?_ _
          go_wp2_with (fail)
          go_roundg (gk - 1)
          case measure => omega
          case rel => exact ⟨i + 1, by simp, by omega, by omega, HL.out, hbw.drew⟩
        · have hb1 : (((x.toNat : Nat) : Int) != ((y.toNat : Nat) : Int)) = true := by
            simp only [bne_iff_ne, ne_eq]
            intro e
            exact hxy (UInt8.toNat_inj.1 (by omega))
          have HL := Lib.hid HL
          have HXY := Lib.hid hxy
          clear hxy
          go_wp2_with (fail)
          refine wp_region_any (by kernel_rfl) ?_
          change wpAny _ _ _ _ _ _ _ (World.drew _)
          try simp only [Act.put, lT, l0, lS]
          refine tk 0 (v := ?_) rfl (by kernel_rfl) (fun _ _ _ h => h) (by rfl) ?hy ?_
          case hy => intro w; go_simp; try with_reducible rfl
          try simp only [Act.put, lT, l0, lS]
          refine tk 1 (v := ?_) rfl (by kernel_rfl) (fun _ _ _ h => h) (by rfl) ?hy ?_
          case hy => intro w; go_simp; try with_reducible rfl
          try simp only [Act.put, lT, l0, lS]
          refine tk 2 (v := ?_) rfl (by kernel_rfl) (fun _ _ _ h => h) (by rfl) ?hy ?_
          case hy => intro w; go_simp; try with_reducible rfl
          try simp only [Act.put, lT, l0, lS]
          refine tk 3 (v := ?_) rfl (by kernel_rfl) (fun _ _ _ h => h) (by rfl) ?hy ?_
          case hy => intro w; go_simp; try with_reducible rfl
          try simp only [Act.put, lT, l0, lS]
          refine tk 4 (v := ?_) rfl (by kernel_rfl) (fun _ _ _ h => h) (by rfl) ?hy ?_
          case hy => intro w; go_simp; try with_reducible rfl
          try simp only [Act.put, lT, l0, lS]
          refine tk 5 (v := ?_) rfl (by kernel_rfl) (fun _ _ _ h => h) (by rfl) ?hy ?_
          case hy => intro w; go_simp; try with_reducible rfl
          try simp only [Act.put, lT, l0, lS]
          refine tk 6 (v := ?_) rfl (by kernel_rfl) (fun _ _ _ h => h) (by rfl) ?hy ?_
          case hy => intro w; go_simp; try with_reducible rfl
          try simp only [Act.put, lT, l0, lS]
          refine wpAny_done (by kernel_rfl) ?_ _
          go_wp2_with (fail)
          refine wp_region_any (by kernel_rfl) ?_
          change wpAny _ _ _ _ _ _ _ (World.drew _)
          try simp only [Act.put, lT, l0, lS]
          refine tk 0 (v := ?_) rfl (by kernel_rfl) (fun _ _ _ h => h) (by rfl) ?hy ?_
          case hy => intro w; go_simp; try with_reducible rfl
          try simp only [Act.put, lT, l0, lS]
          refine tk 1 (v := ?_) rfl (by kernel_rfl) (fun _ _ _ h => h) (by rfl) ?hy ?_
          case hy => intro w; go_simp; try with_reducible rfl
          try simp only [Act.put, lT, l0, lS]
          refine tk 2 (v := ?_) rfl (by kernel_rfl) (fun _ _ _ h => h) (by rfl) ?hy ?_
          case hy => intro w; go_simp; try with_reducible rfl
          try simp only [Act.put, lT, l0, lS]
          refine tk 3 (v := ?_) rfl (by kernel_rfl) (fun _ _ _ h => h) (by rfl) ?hy ?_
          case hy => intro w; go_simp; try with_reducible rfl
          try simp only [Act.put, lT, l0, lS]
          refine tk 4 (v := ?_) rfl (by kernel_rfl) (fun _ _ _ h => h) (by rfl) ?hy ?_
          case hy => intro w; go_simp; try with_reducible rfl
          try simp only [Act.put, lT, l0, lS]
          refine tk 5 (v := ?_) rfl (by kernel_rfl) (fun _ _ _ h => h) (by rfl) ?hy ?_
          case hy => intro w; go_simp; try with_reducible rfl
          try simp only [Act.put, lT, l0, lS]
          refine tk 6 (v := ?_) rfl (by kernel_rfl) (fun _ _ _ h => h) (by rfl) ?hy ?_
          case hy => intro w; go_simp; try with_reducible rfl
          try simp only [Act.put, lT, l0, lS]
          refine rd 7 (by kernel_rfl) rfl (fun K hK => ?_)
          go_simp
          refine hK _ _ ?_
          clear hK K
          refine wpAny_done (by kernel_rfl) ?_ _
          go_wp2_with (fail)
          go_ret
          refine ⟨?_, hbw.drew.drew⟩
          try rw [HL.out]
          simp [lessB, Op.bytesLess, HXY.out, UInt8.lt_iff_toNat_lt]
      · have h2' : ¬ (i : Int) < (nb : Int) := by omega
        have h1' : (i : Int) < (na : Int) := by omega
        have HL := hl.out
        have ed : b.drop i = [] := List.drop_of_length_le (by omega)
        have ec := drop_cons_of (a := a) (i := i) (by omega)
        rw [ed, ec] at HL
        have HL := Lib.hid HL
        clear ed ec hl ha hb
        go_wp2_with (fail)
        go_ret
        refine ⟨?_, hbw⟩
        try rw [HL.out]
        simp [lessB, Op.bytesLess]
        omega
    · have h1' : ¬ (i : Int) < (na : Int) := by omega
      have HL := hl.out
      have ed : a.drop i = [] := List.drop_of_length_le (by omega)
      rw [ed] at HL
      by_cases hnn : na < nb
      · have hnn' : (na : Int) < (nb : Int) := by omega
        have e1 : b.drop i ≠ [] := by intro e; rw [List.drop_eq_nil_iff] at e; omega
        have HL := Lib.hid HL
        have HE := Lib.hid e1
        clear ed hl ha hb e1
        go_wp2_with (fail)
        go_ret
        refine ⟨?_, hbw⟩
        try rw [HL.out]
        cases hd : b.drop i with
        | nil => exact absurd hd HE.out
        | cons u l => simp [lessB, Op.bytesLess]
      · have hnn' : ¬ (na : Int) < (nb : Int) := by omega
        have e1 : b.drop i = [] := List.drop_of_length_le (by omega)
        rw [e1] at HL
        have HL := Lib.hid HL
        clear ed hl ha hb e1
        go_wp2_with (fail)
        go_ret
        refine ⟨?_, hbw⟩
        try rw [HL.out]
        simp [lessB, Op.bytesLess]

-- pairs in a row

def pairCs (q : Pair) : List Value := [strV q.1, strV q.2]
def pairsCs : List Pair → List Value
  | [] => []
  | q :: l => pairCs q ++ pairsCs l
theorem pairsCs_len : ∀ l : List Pair, (pairsCs l).length = l.length * 2
  | [] => rfl
  | q :: l => by simp [pairsCs, pairCs, pairsCs_len l]; omega
theorem pairsCs_app : ∀ a b : List Pair, pairsCs (a ++ b) = pairsCs a ++ pairsCs b
  | [], _ => rfl
  | q :: a, b => by simp [pairsCs, pairsCs_app a b]
theorem pairsCs_take : ∀ (l : List Pair) (k : Nat), (pairsCs l).take (k * 2) = pairsCs (l.take k)
  | [], k => by simp [pairsCs]
  | q :: l, 0 => rfl
  | q :: l, k + 1 => by
    rw [show (k + 1) * 2 = k * 2 + 1 + 1 by omega]
    simp [pairsCs, pairCs, pairsCs_take l k]
theorem pairsCs_drop : ∀ (l : List Pair) (k : Nat), (pairsCs l).drop (k * 2) = pairsCs (l.drop k)
  | [], k => by simp [pairsCs]
  | q :: l, 0 => rfl
  | q :: l, k + 1 => by
    rw [show (k + 1) * 2 = k * 2 + 1 + 1 by omega]
    simp [pairsCs, pairCs, pairsCs_drop l k]
theorem pairsCs_one : ∀ l : List Pair, ∀ u ∈ pairsCs l, u.oneCell' = true
  | [], u, h => by simp [pairsCs] at h
  | q :: l, u, h => by
    simp only [pairsCs, pairCs, List.cons_append, List.nil_append, List.mem_cons] at h
    rcases h with rfl | rfl | h
    · rfl
    · rfl
    · exact pairsCs_one l u h
theorem pairsCs_at : ∀ (l : List Pair) (k : Nat) (hk : k < l.length), (pairsCs l)[k * 2]? = some (strV l[k].1) ∧ (pairsCs l)[k * 2 + 1]? = some (strV l[k].2)
  | q :: l, 0, _ => ⟨rfl, rfl⟩
  | q :: l, k + 1, h => by
    have ih := pairsCs_at l k (by simpa using h)
    rw [show (k + 1) * 2 = k * 2 + 2 by omega]
    simpa [pairsCs, pairCs] using ih

/-- How many stand ahead of a key; is it there? -/
def aheadP (k : Bytes) : List Pair → Nat
  | [] => 0
  | q :: l => if lessB q.1 k then aheadP k l + 1 else 0
def isAtP (k : Bytes) : List Pair → Bool
  | [] => false
  | q :: l => if lessB q.1 k then isAtP k l else q.1 == k

theorem aheadP_le (k : Bytes) : ∀ l : List Pair, aheadP k l ≤ l.length
  | [] => Nat.le_refl _
  | q :: l => by
    have := aheadP_le k l
    simp only [aheadP, List.length_cons]
    split <;> omega
theorem aheadP_drop (k : Bytes) {l : List Pair} {i : Nat} (h : i < l.length) : aheadP k (l.drop i) = if lessB l[i].1 k then aheadP k (l.drop (i + 1)) + 1 else 0 := by
  rw [List.drop_eq_getElem_cons h]
  rfl
theorem isAtP_eq (k : Bytes) : ∀ l : List Pair, isAtP k l = match l[aheadP k l]? with | some q => q.1 == k | none => false
  | [] => rfl
  | q :: l => by
    have ih := isAtP_eq k l
    simp only [isAtP, aheadP]
    split
    · rw [ih]; simp
    · simp
theorem insP_at (k v : Bytes) : ∀ l : List Pair, insP k v l = l.take (aheadP k l) ++ (k, v) :: l.drop (if isAtP k l then aheadP k l + 1 else aheadP k l)
  | [] => rfl
  | q :: l => by
    have ih := insP_at k v l
    simp only [insP, aheadP, isAtP]
    by_cases h1 : lessB q.1 k = true
    · simp only [h1, if_true]
      rw [ih]
      split <;> simp
    · by_cases h2 : lessB k q.1 = true
      · have : (q.1 == k) = false := by
          simp only [beq_eq_false_iff_ne, ne_eq]
          exact (lessB_ne h2).symm
        simp [h1, h2, this]
      · have : (q.1 == k) = true := by
          simp only [beq_iff_eq]
          rcases lessB_total q.1 k with h | h | h
          · exact absurd h h1
          · exact h
          · exact absurd h h2
        simp [h1, h2, this]

def FindP (key : Bytes) (t : List Pair) (w : World) (e : Ending) (w' : World) : Prop :=
  e = .returned (.tuple #[.int .i64 (aheadP key t : Int), .bool (isAtP key t)]) ∧ Below w.heap.size w w'

set_option maxHeartbeats 1000000 in
theorem findP_any (A : Option Addr) (n c : Nat) (t : List Pair) (key : Bytes) (w : World) (hv : Sl w 2 (.slice A n c) n (pairsCs t)) (hn : n ≤ 100000) (hk : key.length ≤ 100000) (hks : ∀ q ∈ t, q.1.length ≤ 100000) :
    Calls Tryz.prog 17 #[.slice A n c, strV key] w (FindP key t w) := by
  have hl : t.length = n := by
    obtain ⟨_, _, _, _, h1, _⟩ := hv
    rw [pairsCs_len] at h1
    omega
  subst hl
  go_enter Tryz.func17, Tryz.ntmps17
  go_wp2
  go_loopg [6] t.length (fun gk s6 wr => ∃ i : Nat, s6 = .int .i64 (i : Int) ∧ i + gk = t.length ∧ Hid (aheadP key t = i + aheadP key (t.drop i)) ∧ Below w.heap.size w wr)
  case atStart => exact ⟨0, rfl, by omega, by show _ = 0 + _; rw [Nat.zero_add]; rfl, Below.refl _ _⟩
  case round =>
    obtain ⟨i, rfl, hi, hl, hbw⟩ := hrel
    by_cases h1 : i < t.length
    · have h1' : (i : Int) < (t.length : Int) := by omega
      have h0 : (0 : Int) ≤ (i : Int) := by omega
      have hw : IntKind.i64.wrap ((i : Int) + 1) = (i : Int) + 1 := IntWalk.i64_in _ (by omega)
      obtain ⟨A', c', e0, _, _, hcl⟩ := hv.below hbw
      cases e0
      obtain ⟨blk, off, rfl, hbl, hcell⟩ := hcl (by omega)
      obtain ⟨p1, p2⟩ := pairsCs_at t i h1
      have x1 := hcell _ _ p1
      have x2 := hcell _ _ p2
      have HL := Lib.hid (less_any t[i].1 key wr (hks _ (List.getElem_mem ..)) hk)
      have hD := hl.out
      rw [aheadP_drop key h1] at hD
      have hQ := Lib.hid (isAtP_eq key t)
      cases hc : lessB t[i].1 key with
      | true =>
        rw [hc] at HL hD
        simp only [if_true] at hD
        have hD := Lib.hid hD
        clear hv hks hcell hl p1 p2 hcl
        go_wp2_with (fail)
        go_must (refine HL.out.mono ?_)
        rintro e w1 ⟨rfl, hb1⟩
        go_wp2_with (fail)
        go_roundg (gk - 1)
        case measure => omega
        case rel => exact ⟨i + 1, by simp, by omega, by show _ = _; rw [hD.out]; omega, hbw.trans (hb1.mono hbw.size)⟩
      | false =>
        rw [hc] at HL hD
        simp only [Bool.false_eq_true, if_false] at hD
        have hat : isAtP key t = (t[i].1 == key) := by
          rw [hQ.out, hD, Nat.add_zero, List.getElem?_eq_getElem h1]
        have x1' : ∀ W, Below wr.heap.size wr W → W.cell? ⟨blk, off + i * 2, none⟩ = some (strV t[i].1) := fun W hW => (hW.cell (p := ⟨blk, off + i * 2, none⟩) hbl).trans x1
        have hD := Lib.hid hD
        have HAT := Lib.hid hat
        have X1 := Lib.hid x1'
        clear hv hks hcell hl p1 p2 hcl hat x1'
        go_wp2_with (fail)
        go_must (refine HL.out.mono ?_)
        rintro e w1 ⟨rfl, hb1⟩
        have y1 := X1.out w1 hb1
        go_wp2_with (fail)
        refine wp_region_any (by kernel_rfl) ?_
        change wpAny _ _ _ _ _ _ _ (World.drew _)
        try simp only [Act.put, lT, l0, lS]
        refine tk 0 (v := ?_) rfl (by kernel_rfl) (fun _ _ _ h => h) (by rfl) ?hy ?_
        case hy => intro w; go_simp; try with_reducible rfl
        try simp only [Act.put, lT, l0, lS]
        refine tk 1 (v := ?_) rfl (by kernel_rfl) (fun _ _ _ h => h) (by rfl) ?hy ?_
        case hy => intro w; go_simp; try with_reducible rfl
        try simp only [Act.put, lT, l0, lS]
        refine tk 2 (v := ?_) rfl (by kernel_rfl) (fun _ _ _ h => h) (by rfl) ?hy ?_
        case hy => intro w; go_simp; try with_reducible rfl
        try simp only [Act.put, lT, l0, lS]
        refine tk 3 (v := ?_) rfl (by kernel_rfl) (fun _ _ _ h => h) (by rfl) ?hy ?_
        case hy => intro w; go_simp; try with_reducible rfl
        try simp only [Act.put, lT, l0, lS]
        refine tk 4 (v := ?_) rfl (by kernel_rfl) (fun _ _ _ h => h) (by rfl) ?hy ?_
        case hy => intro w; go_simp; try with_reducible rfl
        try simp only [Act.put, lT, l0, lS]
        refine tk 5 (v := ?_) rfl (by kernel_rfl) (fun _ _ _ h => h) (by rfl) ?hy ?_
        case hy => intro w; go_simp; try with_reducible rfl
        try simp only [Act.put, lT, l0, lS]
        refine tk 6 (v := ?_) rfl (by kernel_rfl) (fun _ _ _ h => h) (by rfl) ?hy ?_
        case hy => intro w; go_simp; try with_reducible rfl
        try simp only [Act.put, lT, l0, lS]
        refine tk 7 (v := ?_) rfl (by kernel_rfl) (fun _ _ _ h => h) (by rfl) ?hy ?_
        case hy => intro w; go_simp; try with_reducible rfl
        try simp only [Act.put, lT, l0, lS]
        refine tk 8 (v := ?_) rfl (by kernel_rfl) (fun _ _ _ h => h) (by rfl) ?hy ?_
        case hy => intro w; go_simp; try with_reducible rfl
        try simp only [Act.put, lT, l0, lS]
        refine tk 9 (v := ?_) rfl (by kernel_rfl) (fun _ _ _ h => h) (by rfl) ?hy ?_
        case hy => intro w; go_simp; try with_reducible rfl
        try simp only [Act.put, lT, l0, lS]
        try simp only [Act.put, lT, l0, lS]
        refine tkR 10 (v := ?_) rfl (by kernel_rfl) (fun _ _ _ h => h) (by rfl) ?hy ?_
        case hy => intro w hE; have q0 := hE.cell y1; go_simp; try with_reducible rfl
        try simp only [Act.put, lT, l0, lS]
        try simp only [Act.put, lT, l0, lS]
        refine tk 11 (v := ?_) rfl (by kernel_rfl) (fun _ _ _ h => h) (by rfl) ?hy ?_
        case hy => intro w; go_simp; try with_reducible rfl
        try simp only [Act.put, lT, l0, lS]
        refine tk 12 (v := ?_) rfl (by kernel_rfl) (fun _ _ _ h => h) (by rfl) ?hy ?_
        case hy => intro w; go_simp; try with_reducible rfl
        try simp only [Act.put, lT, l0, lS]
        refine tk 13 (v := ?_) rfl (by kernel_rfl) (fun _ _ _ h => h) (by rfl) ?hy ?_
        case hy => intro w; go_simp; try with_reducible rfl
        try simp only [Act.put, lT, l0, lS]
        refine rd 14 (by kernel_rfl) rfl (fun K hK => ?_)
        go_simp
        refine hK _ _ ?_
        clear hK K
        refine rd 15 (by kernel_rfl) rfl (fun K hK => ?_)
        go_simp
        refine hK _ _ ?_
        clear hK K
        refine wpAny_done (by kernel_rfl) ?_ _
        go_wp2_with (fail)
        refine bodyPost_ret (v := .tuple #[.int .i64 (i : Int), .bool (t[i].1 == key)]) (by simp [results, Tryz.results17, go_sem]) rfl ?_
        exact ⟨by rw [hD.out, HAT.out]; simp, (hbw.trans (hb1.mono hbw.size)).drew⟩
    · have h1' : ¬ (i : Int) < (t.length : Int) := by omega
      have hii : i = t.length := by omega
      have hD := hl.out
      rw [hii, List.drop_length] at hD
      simp only [aheadP, Nat.add_zero] at hD
      have hat : isAtP key t = false := by rw [isAtP_eq, hD]; simp
      have hD := Lib.hid hD
      have HAT := Lib.hid hat
      have HII := Lib.hid hii
      clear hv hks hl hat hii
      go_wp2_with (fail)
      refine wp_region_any (by kernel_rfl) ?_
      change wpAny _ _ _ _ _ _ _ (World.drew _)
      try simp only [Act.put, lT, l0, lS]
      refine tk 0 (v := ?_) rfl (by kernel_rfl) (fun _ _ _ h => h) (by rfl) ?hy ?_
      case hy => intro w; go_simp; try with_reducible rfl
      try simp only [Act.put, lT, l0, lS]
      refine tk 1 (v := ?_) rfl (by kernel_rfl) (fun _ _ _ h => h) (by rfl) ?hy ?_
      case hy => intro w; go_simp; try with_reducible rfl
      try simp only [Act.put, lT, l0, lS]
      refine tk 2 (v := ?_) rfl (by kernel_rfl) (fun _ _ _ h => h) (by rfl) ?hy ?_
      case hy => intro w; go_simp; try with_reducible rfl
      try simp only [Act.put, lT, l0, lS]
      refine tk 3 (v := ?_) rfl (by kernel_rfl) (fun _ _ _ h => h) (by rfl) ?hy ?_
      case hy => intro w; go_simp; try with_reducible rfl
      try simp only [Act.put, lT, l0, lS]
      refine tk 4 (v := ?_) rfl (by kernel_rfl) (fun _ _ _ h => h) (by rfl) ?hy ?_
      case hy => intro w; go_simp; try with_reducible rfl
      try simp only [Act.put, lT, l0, lS]
      refine tk 5 (v := ?_) rfl (by kernel_rfl) (fun _ _ _ h => h) (by rfl) ?hy ?_
      case hy => intro w; go_simp; try with_reducible rfl
      try simp only [Act.put, lT, l0, lS]
      try simp only [Act.put, lT, l0, lS]
      refine sk 6 rfl (by kernel_rfl) (fun _ _ _ h => h) (by rfl) ?_
      try simp only [Act.put, lT, l0, lS]
      refine sk 7 rfl (by kernel_rfl) (fun _ _ _ h => h) (by rfl) ?_
      try simp only [Act.put, lT, l0, lS]
      refine sk 8 rfl (by kernel_rfl) (fun _ _ _ h => h) (by rfl) ?_
      try simp only [Act.put, lT, l0, lS]
      refine sk 9 rfl (by kernel_rfl) (fun _ _ _ h => h) (by rfl) ?_
      try simp only [Act.put, lT, l0, lS]
      refine sk 10 rfl (by kernel_rfl) (fun _ _ _ h => h) (by rfl) ?_
      try simp only [Act.put, lT, l0, lS]
      refine sk 11 rfl (by kernel_rfl) (fun _ _ _ h => h) (by rfl) ?_
      try simp only [Act.put, lT, l0, lS]
      refine sk 12 rfl (by kernel_rfl) (fun _ _ _ h => h) (by rfl) ?_
      try simp only [Act.put, lT, l0, lS]
      try simp only [Act.put, lT, l0, lS]
      refine tk 13 (v := ?_) rfl (by kernel_rfl) (fun _ _ _ h => h) (by rfl) ?hy ?_
      case hy => intro w; go_simp; try with_reducible rfl
      try simp only [Act.put, lT, l0, lS]
      refine rd 14 (by kernel_rfl) rfl (fun K hK => ?_)
      go_simp
      refine hK _ _ ?_
      clear hK K
      refine rd 15 (by kernel_rfl) rfl (fun K hK => ?_)
      go_simp
      refine hK _ _ ?_
      clear hK K
      refine wpAny_done (by kernel_rfl) ?_ _
      go_wp2_with (fail)
      refine bodyPost_ret (v := .tuple #[.int .i64 (i : Int), .bool false]) (by simp [results, Tryz.results17, go_sem]) rfl ?_
      exact ⟨by rw [hD.out, HAT.out, HII.out], hbw.drew⟩
end Go.Ev

set_option linter.unusedVariables false
set_option linter.unusedSimpArgs false
namespace Go.Ev
open Go.Proofs Go.RowKit

theorem infoPair : (Tryz.prog.info? 44).map (fun i => (i.zero, i.size, i.bytes)) = some (some (.agg #[strV [], strV []]), 2, 32) := by kernel_rfl

theorem aheadAt_lt {k : Bytes} {l : List Pair} (h : isAtP k l = true) : aheadP k l < l.length := by
  rw [isAtP_eq] at h
  cases hq : l[aheadP k l]? with
  | none => rw [hq] at h; cases h
  | some q => exact (List.getElem?_eq_some_iff.1 hq).1

def RefPutP (key v : Bytes) (t : List Pair) (w : World) (e : Ending) (w' : World) : Prop :=
  ∃ u, e = .returned (.tuple #[u, .int .i64 0]) ∧ w'.ownsRow w.heap.size 44 2 u (insP key v t).length (pairsCs (insP key v t)) ∧ Below w.heap.size w w'

theorem refPut_bad (A : Option Addr) (n c : Nat) (key v : Bytes) (w : World) (hk : key.length ≤ 9223372036854775807) (hv : v.length ≤ 9223372036854775807) (hbad : ¬ (1 ≤ key.length ∧ key.length ≤ 40 ∧ v.length ≤ 2000)) :
    Calls Tryz.prog 29 #[.slice A n c, strV key, strV v] w fun e w' => e = .returned (.tuple #[.slice A n c, .int .i64 1]) ∧ w = w' := by
  have hG := good_any key w hk
  obtain ⟨m, hm⟩ : ∃ m, v.length = m := ⟨_, rfl⟩
  rw [hm] at hbad hv
  by_cases hg : 1 ≤ key.length ∧ key.length ≤ 40
  · have e1 : decide (1 ≤ key.length) = true := by simpa using hg.1
    have e2 : decide (key.length ≤ 40) = true := by simpa using hg.2
    rw [e1, e2] at hG
    have h2 : (2000 : Int) < (m : Int) := by omega
    have HG := Lib.hid hG
    clear hG e1 e2
    go_enter Tryz.func29, Tryz.ntmps29
    go_wp2_with (fail)
    go_must (refine HG.out.mono ?_)
    rintro e w1 ⟨rfl, rfl⟩
    go_wp2_with (fail)
    refine bodyPost_ret (v := .tuple #[.slice A n c, .int .i64 1]) (by simp [results, Tryz.results29, go_sem]) rfl ?_
    exact ⟨rfl, rfl⟩
  · have e1 : (decide (1 ≤ key.length) && decide (key.length ≤ 40)) = false := by
      rw [Bool.and_eq_false_iff]
      simp only [decide_eq_false_iff_not]
      omega
    rw [e1] at hG
    have HG := Lib.hid hG
    clear hG e1
    go_enter Tryz.func29, Tryz.ntmps29
    go_wp2_with (fail)
    go_must (refine HG.out.mono ?_)
    rintro e w1 ⟨rfl, rfl⟩
    go_wp2_with (fail)
    refine bodyPost_ret (v := .tuple #[.slice A n c, .int .i64 1]) (by simp [results, Tryz.results29, go_sem]) rfl ?_
    exact ⟨rfl, rfl⟩

theorem row_pair (w : World) (q : Pair) (T : TypeId) (B : Nat) (hB : B = w.heap.size) : ∀ j v, (pairsCs [q])[j]? = some v → (w.alloc (.cells #[strV q.1, strV q.2] T)).cell? ((⟨B, 0, none⟩ : Addr).add j) = some v := by
  intro j v h
  subst hB
  rw [addr_add]
  have hb := Blk.new w T #[strV q.1, strV q.2]
  match j with
  | 0 => cases h; exact hb.cell 0
  | 1 => cases h; exact hb.cell 1
  | j + 2 => simp [pairsCs, pairCs] at h

theorem sl_pair (w : World) (q : Pair) (T : TypeId) : Sl (w.alloc (.cells #[strV q.1, strV q.2] T)) 2 (.slice (some ⟨w.heap.size, 0, none⟩) 1 1) 1 (pairsCs [q]) := by
  refine ⟨_, _, rfl, Nat.le_refl _, rfl, fun _ => ⟨w.heap.size, 0, rfl, by simp, fun j u hu => ?_⟩⟩
  have := row_pair w q T _ rfl j u hu
  rw [addr_add] at this
  exact this

set_option maxHeartbeats 4000000 in
set_option maxRecDepth 100000 in
theorem refPut_any (B : Nat) (x : Value) (t : List Pair) (key v : Bytes) (w : World) (hx : w.ownsRow B 44 2 x t.length (pairsCs t)) (hn : t.length ≤ 10000) (hks : ∀ q ∈ t, q.1.length ≤ 100000) (hk1 : 1 ≤ key.length) (hk2 : key.length ≤ 40) (hv : v.length ≤ 2000) :
    Calls Tryz.prog 29 #[x, strV key, strV v] w (RefPutP key v t w) := by
  obtain ⟨i0, hi, q0, q1, q2⟩ := info_parts infoPair
  have hG := good_any key w (by omega)
  have e1 : decide (1 ≤ key.length) = true := by simpa using hk1
  have e2 : decide (key.length ≤ 40) = true := by simpa using hk2
  rw [e1, e2] at hG
  obtain ⟨m, hm⟩ : ∃ m, v.length = m := ⟨_, rfl⟩
  have hm2 : ¬ (2000 : Int) < (m : Int) := by omega
  obtain ⟨A, c, rfl, hnc⟩ : ∃ A c, x = .slice A t.length c ∧ t.length ≤ c := by obtain ⟨A, c, e, h, _⟩ := Sl.of_own hx; exact ⟨A, c, e, h⟩
  have hsl := Sl.of_own hx
  have hAc : A = none → c = 0 ∧ t = [] := by
    rintro rfl
    rcases hx.2 with ⟨e, h⟩ | ⟨g, cap, cur, e, _⟩
    · simp only [Value.slice.injEq] at e
      exact ⟨e.2.2, List.eq_nil_of_length_eq_zero e.2.1⟩
    · simp at e
  have hF := findP_any A t.length c t key w hsl (by omega) (by omega) hks
  obtain ⟨k, hk⟩ : ∃ k, k = aheadP key t := ⟨_, rfl⟩
  obtain ⟨is, his⟩ : ∃ is, is = isAtP key t := ⟨_, rfl⟩
  obtain ⟨d, hd⟩ : ∃ d, d = if is then k + 1 else k := ⟨_, rfl⟩
  have hins := insP_at key v t
  rw [← his, ← hk, ← hd] at hins
  unfold FindP at hF
  rw [← hk, ← his] at hF
  have hkt : k ≤ t.length := hk ▸ aheadP_le key t
  have hkd : is = true → k + 1 ≤ t.length := fun h => by have := aheadAt_lt (his ▸ h : isAtP key t = true); omega
  have hdt : d ≤ t.length := by rw [hd]; cases is with | true => simpa using hkd rfl | false => simpa using hkt
  -- the front and the rest
  obtain ⟨A1, c1, hA1, hs1, hn1⟩ : ∃ A1 c1, (Value.slice A k c = .slice A1 k c1) ∧ Sl w 2 (.slice A1 k c1) k (pairsCs (t.take k)) ∧ (A1 = none → c1 = 0) := by
    refine ⟨A, c, rfl, ?_, fun h => (hAc h).1⟩
    rw [← pairsCs_take]
    exact Sl.take hsl hkt
  cases hA1
  have hrest : ∀ j, j ≤ t.length → ∃ A3, (A = none → A3 = none ∧ c - j = 0) ∧ (∀ blk off, A = some ⟨blk, off, none⟩ → A3 = if c = j then some ⟨blk, off, none⟩ else some ⟨blk, off + j * 2, none⟩) ∧ Sl w 2 (.slice A3 (t.length - j) (c - j)) (t.length - j) (pairsCs (t.drop j)) ∧ (A3 = none → c - j = 0) := by
    intro j hj
    cases A with
    | none =>
      obtain ⟨rfl, rfl⟩ := hAc rfl
      exact ⟨none, fun _ => ⟨rfl, by omega⟩, fun blk off h => (by cases h), by simpa [pairsCs] using Sl.nil w 2 (0 - j) none, fun _ => by omega⟩
    | some a =>
      rcases hx.2 with ⟨e, _⟩ | ⟨g, cap, cur, e, _⟩
      · cases e
      · cases e
        by_cases hc : c = j
        · refine ⟨some ⟨g, 0, none⟩, fun h => (by cases h), fun blk off h => (by cases h; rw [if_pos hc]), ?_, fun h => by cases h⟩
          have : t.length - j = 0 := by omega
          rw [this, List.drop_of_length_le (by omega)]
          exact Sl.nil ..
        · refine ⟨some ⟨g, 0 + j * 2, none⟩, fun h => (by cases h), fun blk off h => (by cases h; rw [if_neg hc]), ?_, fun h => by cases h⟩
          rw [← pairsCs_drop]
          exact Sl.drop hsl hj
  have hins_len : (insP key v t).length ≤ 10001 := by have := (insP_len (k := key) (v := v) t).1; omega
  have hlen : (insP key v t).length = k + 1 + (t.length - d) := by
    rw [hins, List.length_append, List.length_cons, List.length_take, List.length_drop]
    omega
  have hcs : pairsCs (insP key v t) = pairsCs (t.take k) ++ pairsCs [(key, v)] ++ pairsCs (t.drop d) := by
    rw [hins, ← pairsCs_app, ← pairsCs_app]
    simp
  have hE : ∀ u W, W.ownsRow w.heap.size 44 2 u (k + 1 + (t.length - d)) (pairsCs (t.take k) ++ pairsCs [(key, v)] ++ pairsCs (t.drop d)) → Below w.heap.size w W → RefPutP key v t w (.returned (.tuple #[u, .int .i64 0])) W := fun u W h1 h2 => by
    refine ⟨u, rfl, ?_, h2⟩
    rw [hlen, hcs]
    exact h1
  have HE := Lib.hid hE
  have HF := Lib.hid hF
  have HG := Lib.hid hG
  have HRest := Lib.hid hrest
  have HS1 := Lib.hid hs1
  have HKD := Lib.hid hkd
  have HD := Lib.hid hd
  have hb := Lib.hid hx
  clear hE hF hG hrest hs1 hcs hlen hins hk his hsl hx e1 e2 hins_len hkd hd hk1 hk2 hv hks
  cases A with
  | none =>
    obtain ⟨rfl, rfl⟩ := hAc rfl
    have hk0 : k = 0 := by simpa using hkt
    have hd0 : d = 0 := by simpa using hdt
    subst hk0 hd0
    cases is with
    | true => exact absurd (HKD.out rfl) (by simp)
    | false =>
      clear hAc hn1 hdt hkt hnc hn
      go_enter Tryz.func29, Tryz.ntmps29
      go_wp2_with (fail)
      go_must (refine HG.out.mono ?_)
      rintro e w0 ⟨rfl, rfl⟩
      go_wp2_with (fail)
      go_must (refine HF.out.mono ?_)
      rintro e w1 ⟨rfl, hb1⟩
      have hz1 := hb1.size
      go_wp2_with (at_builtin; go_must (refine wpList_append_sl rfl _ _ 27 rfl w.heap.size 44 i0 _ 2 32 Tryz.underlying27 hi q0 q1 q2 rfl (by decide) (.slice none 0 0) 0 [] rfl (World.ownsRow_nil _ _ _ _) none 0 0 [] rfl (Sl.nil ..) (fun _ => rfl) (by simp) (by decide) (by omega) hz1 ?_))
      intro v1 w2 own1 gr1
      have hb2 : Below w.heap.size w w2 := hb1.grown gr1 hz1 (fun k hk => by cases hk)
      have hz2 := hb2.size
      obtain ⟨A1, c1, rfl, _⟩ := Sl.of_own own1
      go_wp2_with (at_builtin; go_must (refine wpList_append_sl rfl _ _ 27 rfl w.heap.size 44 i0 _ 2 32 Tryz.underlying27 hi q0 q1 q2 rfl (by decide) _ 0 [] rfl (own1.alloc _) (some ⟨w2.heap.size, 0, none⟩) 1 1 (pairsCs [(key, v)]) rfl (sl_pair w2 (key, v) _) (fun h => by cases h) (pairsCs_one _) (by decide) (by omega) (by simp; omega) ?_))
      intro v2 w3 own2 gr2
      have hb3 : Below w.heap.size w w3 := (hb2.alloc hz2 _).grown gr2 (by simp; omega) (fun k hk => (own1.lt k hk).1)
      have hz3 := hb3.size
      obtain ⟨A2, c2, rfl, _⟩ := Sl.of_own own2
      go_wp2_with (at_builtin; go_must (refine wpList_append_sl rfl _ _ 27 rfl w.heap.size 44 i0 _ 2 32 Tryz.underlying27 hi q0 q1 q2 rfl (by decide) _ 1 (pairsCs [(key, v)]) rfl own2 none 0 0 [] rfl (Sl.nil ..) (fun _ => rfl) (by simp) (by decide) (by omega) hz3 ?_))
      intro v3 w4 own3 gr3
      have hb4 : Below w.heap.size w w4 := hb3.grown gr3 hz3 (fun k hk => (own2.lt k hk).1)
      obtain ⟨A3, c3, rfl, _⟩ := Sl.of_own own3
      go_wp2_with (fail)
      refine bodyPost_ret (v := .tuple #[.slice A3 1 c3, .int .i64 0]) (by simp [results, Tryz.results29, go_sem]) rfl ?_
      exact HE.out _ _ (by simpa [pairsCs] using own3) hb4
  | some a =>
    obtain ⟨g, off, rfl⟩ : ∃ g off, a = ⟨g, off, none⟩ := by
      rcases hb.out.2 with ⟨e, _⟩ | ⟨g, cap, cur, e, _⟩
      · cases e
      · cases e; exact ⟨g, 0, rfl⟩
    obtain ⟨n, hn'⟩ : ∃ n, t.length = n := ⟨_, rfl⟩
    rw [hn'] at hkt hdt hnc hn HE HF HRest HKD hb ⊢
    obtain ⟨A3, _, hA3, hs3, hn3⟩ := HRest.out d hdt
    replace hA3 := (hA3 g off rfl).symm
    have hkn : (k : Int) ≤ (n : Int) := by omega
    have hkc : k ≤ c := by omega
    have hdn : d ≤ n := hdt
    have hML : 100000 ≤ maxLen := by unfold maxLen; omega
    have HS3 := Lib.hid (And.intro hs3 hn3)
    have HN := Lib.hid hn'
    clear hAc hn1 hs3 hn3 hn'
    go_enter Tryz.func29, Tryz.ntmps29
    go_wp2_with (fail)
    go_must (refine HG.out.mono ?_)
    rintro e w0 ⟨rfl, rfl⟩
    go_wp2_with (fail)
    go_must (refine HF.out.mono ?_)
    rintro e w1 ⟨rfl, hb1⟩
    have hz1 := hb1.size
    cases is with
    | true =>
      have hd1 : d = k + 1 := HD.out
      have hw1 : IntKind.i64.wrap ((k : Int) + 1) = (k : Int) + 1 := IntWalk.i64_in _ (by omega)
      have hk1n : (k : Int) + 1 ≤ (n : Int) := by omega
      have hk0 : (0 : Int) ≤ (k : Int) + 1 := by omega
      have htn : ((k : Int) + 1).toNat = k + 1 := by omega
      subst hd1
      go_wp2_with (at_builtin; go_must (refine wpList_append_sl rfl _ _ 27 rfl w.heap.size 44 i0 _ 2 32 Tryz.underlying27 hi q0 q1 q2 rfl (by decide) (.slice none 0 0) 0 [] rfl (World.ownsRow_nil _ _ _ _) (some ⟨g, off, none⟩) k c (pairsCs (t.take k)) rfl (HS1.out.below hb1) (fun h => by cases h) (pairsCs_one _) (by omega) (by omega) hz1 ?_))
      intro v1 w2 own1 gr1
      have hb2 : Below w.heap.size w w2 := hb1.grown gr1 hz1 (fun k hk => by cases hk)
      have hz2 := hb2.size
      obtain ⟨A1, c1, rfl, _⟩ := Sl.of_own own1
      go_wp2_with (at_builtin; go_must (refine wpList_append_sl rfl _ _ 27 rfl w.heap.size 44 i0 _ 2 32 Tryz.underlying27 hi q0 q1 q2 rfl (by decide) _ _ _ rfl (own1.alloc _) (some ⟨w2.heap.size, 0, none⟩) 1 1 (pairsCs [(key, v)]) rfl (sl_pair w2 (key, v) _) (fun h => by cases h) (pairsCs_one _) (by omega) (by omega) (by simp; omega) ?_))
      intro v2 w3 own2 gr2
      have hb3 : Below w.heap.size w w3 := (hb2.alloc hz2 _).grown gr2 (by simp; omega) (fun k hk => (own1.lt k hk).1)
      have hz3 := hb3.size
      obtain ⟨A2, c2, rfl, _⟩ := Sl.of_own own2
      go_wp2_with (at_builtin; go_must (refine wpList_append_sl rfl _ _ 27 rfl w.heap.size 44 i0 _ 2 32 Tryz.underlying27 hi q0 q1 q2 rfl (by decide) _ _ _ rfl own2 A3 _ _ (pairsCs (t.drop (k + 1))) rfl (HS3.out.1.below hb3) HS3.out.2 (pairsCs_one _) (by omega) (by omega) hz3 ?_))
      intro v3 w4 own3 gr3
      have hb4 : Below w.heap.size w w4 := hb3.grown gr3 hz3 (fun k hk => (own2.lt k hk).1)
      obtain ⟨A4, c4, rfl, _⟩ := Sl.of_own own3
      go_wp2_with (fail)
      refine bodyPost_ret (v := .tuple #[.slice A4 _ c4, .int .i64 0]) (by simp [results, Tryz.results29, go_sem]; rfl) rfl ?_
      have hkn2 : k + 1 + (n - (k + 1)) = n := by omega
      exact HE.out _ _ (by simpa [hkn2] using own3) hb4
    | false =>
      have hd1 : d = k := HD.out
      subst hd1
      go_wp2_with (at_builtin; go_must (refine wpList_append_sl rfl _ _ 27 rfl w.heap.size 44 i0 _ 2 32 Tryz.underlying27 hi q0 q1 q2 rfl (by decide) (.slice none 0 0) 0 [] rfl (World.ownsRow_nil _ _ _ _) (some ⟨g, off, none⟩) d c (pairsCs (t.take d)) rfl (HS1.out.below hb1) (fun h => by cases h) (pairsCs_one _) (by omega) (by omega) hz1 ?_))
      intro v1 w2 own1 gr1
      have hb2 : Below w.heap.size w w2 := hb1.grown gr1 hz1 (fun k hk => by cases hk)
      have hz2 := hb2.size
      obtain ⟨A1, c1, rfl, _⟩ := Sl.of_own own1
      go_wp2_with (at_builtin; go_must (refine wpList_append_sl rfl _ _ 27 rfl w.heap.size 44 i0 _ 2 32 Tryz.underlying27 hi q0 q1 q2 rfl (by decide) _ _ _ rfl (own1.alloc _) (some ⟨w2.heap.size, 0, none⟩) 1 1 (pairsCs [(key, v)]) rfl (sl_pair w2 (key, v) _) (fun h => by cases h) (pairsCs_one _) (by omega) (by omega) (by simp; omega) ?_))
      intro v2 w3 own2 gr2
      have hb3 : Below w.heap.size w w3 := (hb2.alloc hz2 _).grown gr2 (by simp; omega) (fun k hk => (own1.lt k hk).1)
      have hz3 := hb3.size
      obtain ⟨A2, c2, rfl, _⟩ := Sl.of_own own2
      go_wp2_with (at_builtin; go_must (refine wpList_append_sl rfl _ _ 27 rfl w.heap.size 44 i0 _ 2 32 Tryz.underlying27 hi q0 q1 q2 rfl (by decide) _ _ _ rfl own2 A3 _ _ (pairsCs (t.drop d)) rfl (HS3.out.1.below hb3) HS3.out.2 (pairsCs_one _) (by omega) (by omega) hz3 ?_))
      intro v3 w4 own3 gr3
      have hb4 : Below w.heap.size w w4 := hb3.grown gr3 hz3 (fun k hk => (own2.lt k hk).1)
      obtain ⟨A4, c4, rfl, _⟩ := Sl.of_own own3
      go_wp2_with (fail)
      refine bodyPost_ret (v := .tuple #[.slice A4 _ c4, .int .i64 0]) (by simp [results, Tryz.results29, go_sem]; rfl) rfl ?_
      exact HE.out _ _ (by simpa using own3) hb4
end Go.Ev

namespace Go.Ev
open Go.Lib

def goodKV (k v : List UInt8) : Bool := decide (1 ≤ k.length) && decide (k.length ≤ 40) && decide (v.length ≤ 2000)
theorem goodKV_of {k v : List UInt8} (h : goodKV k v = true) : 1 ≤ k.length ∧ k.length ≤ 40 ∧ v.length ≤ 2000 := by
  unfold goodKV at h
  simp only [Bool.and_eq_true, decide_eq_true_eq] at h
  exact ⟨h.1.1, h.1.2, h.2⟩
theorem goodKV_not {k v : List UInt8} (h : goodKV k v = false) : ¬ (1 ≤ k.length ∧ k.length ≤ 40 ∧ v.length ≤ 2000) := by
  rintro ⟨h1, h2, h3⟩
  unfold goodKV at h
  simp [h1, h2, h3] at h

/-- Keys and values that a tree can have. -/
def GoodP (ps : List Pair) : Prop := ∀ q ∈ ps, goodKV q.1 q.2 = true

def growP : List (List UInt8 × List UInt8) → List Pair → List Pair
  | [], t => t
  | o :: l, t => growP l (if goodKV o.1 o.2 then insP o.1 o.2 t else t)

theorem growP_app : ∀ (a b : List (List UInt8 × List UInt8)) (t : List Pair), growP (a ++ b) t = growP b (growP a t)
  | [], _, _ => rfl
  | o :: a, b, t => by simp only [List.cons_append, growP]; exact growP_app a b _
theorem growP_good : ∀ {l : List (List UInt8 × List UInt8)} {t : List Pair}, GoodP t → GoodP (growP l t)
  | [], _, h => h
  | o :: l, t, h => by
    simp only [growP]
    split
    · rename_i hg
      exact growP_good fun q hq => by
        rcases insP_mem hq with rfl | hq
        · exact hg
        · exact h q hq
    · exact growP_good h
theorem growP_len : ∀ (l : List (List UInt8 × List UInt8)) (t : List Pair), (growP l t).length ≤ t.length + l.length
  | [], t => by simp [growP]
  | o :: l, t => by
    simp only [growP, List.length_cons]
    have := (insP_len (k := o.1) (v := o.2) t).1
    split
    · have h := growP_len l (insP o.1 o.2 t)
      omega
    · have h := growP_len l t
      omega
theorem growP_rising : ∀ {l : List (List UInt8 × List UInt8)} {t : List Pair}, Rising t → Rising (growP l t)
  | [], _, h => h
  | o :: l, t, h => by
    simp only [growP]
    split
    · exact growP_rising (insP_rising h)
    · exact growP_rising h
end Go.Ev

namespace Go.Ev
open Go.Lib

/-- A part of a tree, the way to it, and how many pairs lie ahead of it. -/
inductive Zip (M : Store) (d : Nat) (all : List Pair) : Nat → Int → Bytes → Option Bytes → List Pair → Nat → List (List Child × Nat) → Prop
  | root {h : Nat} {id : Int} {ids : List Int} : TreeAt M d h id [] none all ids → Zip M d all h id [] none all 0 []
  | down {k : Nat} {id : Int} {lo : Bytes} {hi : Option Bytes} {ps p1 p2 p3 : List Pair} {off : Nat} {path : List (List Child × Nat)} {c y : Child} {L A B : List Child} {i1 i2 i3 : List Int} : Zip M d all (k + 1) id lo hi ps off path →
      c.key = lo → c :: L = A ++ y :: B → Seg (Sub M d k) A (some y.key) p1 i1 → Sub M d k y.page y.key (nextB B hi) p2 i2 → Seg (Sub M d k) B hi p3 i3 → ps = p1 ++ (p2 ++ p3) →
      Zip M d all k y.page y.key (nextB B hi) p2 (off + p1.length) (path ++ [(headKey [] (c :: L), A.length)])

theorem headKey_pg (k : Bytes) : ∀ (L : List Child) (i : Nat) (x : Child), (headKey k L)[i]? = some x → ∃ y, L[i]? = some y ∧ y.page = x.page
  | [], i, x, h => by simp [headKey] at h
  | c :: L, 0, x, h => by
    simp only [headKey, List.getElem?_cons_zero, Option.some.injEq] at h
    subst h
    exact ⟨c, rfl, rfl⟩
  | c :: L, i + 1, x, h => ⟨x, by simpa [headKey] using h, rfl⟩

section
variable {M : Store} {d k off : Nat} {all ps : List Pair} {id : Int} {lo : Bytes} {hi : Option Bytes} {path : List (List Child × Nat)}

theorem Zip.tree (h : Zip M d all k id lo hi ps off path) : (∃ ids, TreeAt M d k id lo hi ps ids) ∧ (path ≠ [] → ps ≠ []) := by
  cases h with
  | root h => exact ⟨⟨_, h⟩, fun h => absurd rfl h⟩
  | down _ _ _ _ h _ _ => exact ⟨⟨_, h.1⟩, fun _ => h.2⟩

/-- What lies ahead is less than all here, what lies behind is not. -/
theorem Zip.pos (h : Zip M d all k id lo hi ps off path) : ∃ a b, all = a ++ (ps ++ b) ∧ a.length = off ∧ (∀ q ∈ a, lessB q.1 lo = true) ∧ ∀ q ∈ b, ∃ u, hi = some u ∧ lessB q.1 u = false := by
  induction h with
  | root h => exact ⟨[], [], by simp, rfl, fun q hq => by simp at hq, fun q hq => by simp at hq⟩
  | @down k id lo hi ps p1 p2 p3 off path c y L A B i1 i2 i3 hz hr hF s1 s2 s3 hps ih =>
    obtain ⟨a, b, h1, h2, h3, h4⟩ := ih
    subst hps
    -- the lower bound of the parent is not above the child's
    have hlo : ∀ q ∈ a, lessB q.1 y.key = true := by
      intro q hq
      have hq1 := h3 q hq
      cases hAA : A with
      | nil =>
        rw [hAA] at hF
        simp only [List.nil_append, List.cons.injEq] at hF
        rw [← hF.1, hr]
        exact hq1
      | cons x A' =>
        rw [hAA] at hF s1
        simp only [List.cons_append, List.cons.injEq] at hF
        obtain ⟨z, hz'⟩ := List.exists_mem_of_ne_nil _ (s1.ne (by simp))
        have hb := Seg.inR s1 z hz'
        rw [← hF.1, hr] at hb
        exact lessB_trans (lessB_of_lt_le hq1 hb.1) (hb.2 y.key rfl)
    exact ⟨a ++ p1, p3 ++ b, by rw [h1]; simp, by simp [h2], fun q hq => by
      rcases List.mem_append.1 hq with hq | hq
      · exact hlo q hq
      · cases hAA : A with
        | nil => rw [hAA] at s1; rw [s1.1] at hq; simp at hq
        | cons x A' => rw [hAA] at s1; exact (Seg.inR s1 q hq).2 y.key rfl, fun q hq => by
      rcases List.mem_append.1 hq with hq | hq
      · cases hBB : B with
        | nil => rw [hBB] at s3; rw [s3.1] at hq; simp at hq
        | cons b' B' => rw [hBB] at s3; exact ⟨b'.key, rfl, (Seg.inR s3 q hq).1⟩
      · obtain ⟨u, hu, hl⟩ := h4 q hq
        cases hBB : B with
        | nil => exact ⟨u, hu, hl⟩
        | cons b' B' =>
          rw [hBB] at s3
          refine ⟨b'.key, rfl, ?_⟩
          obtain ⟨x, hx⟩ := List.exists_mem_of_ne_nil _ (s3.ne (by simp))
          have hb := Seg.inR s3 x hx
          have h5 := hb.2 u hu
          -- b'.key <= x < u <= q
          exact lessB_le_trans hb.1 (lessB_asymm (lessB_of_lt_le h5 hl))⟩

/-- A branch's page, and its children. -/
theorem Zip.child (h : Zip M d all (k + 1) id lo hi ps off path) : ∃ L, M id = some ⟨3, 0, layC L⟩ ∧ rightC L = true ∧ (layC L).length ≤ 240 ∧ d ≤ L.length ∧ ∀ i x, L[i]? = some x → ∃ lo' hi' ps' off', Zip M d all k x.page lo' hi' ps' off' (path ++ [(L, i)]) ∧
    (i = 0 → off' = off) ∧ (i + 1 = L.length → off' + ps'.length = off + ps.length) ∧ ∀ key, inR lo hi key → i = findC key L → inR lo' hi' key := by
  obtain ⟨⟨ids, c, L, i2, h1, h2, h3, h4, h5, h6, h7⟩, _⟩ := h.tree
  refine ⟨headKey [] (c :: L), h1, h2, h3, by simpa [headKey] using h4, fun i x hx => ?_⟩
  obtain ⟨y, hy, hpg⟩ := headKey_pg _ _ _ _ hx
  have hil : i < (c :: L).length := (List.getElem?_eq_some_iff.1 hy).1
  have hF : c :: L = (c :: L).take i ++ y :: (c :: L).drop (i + 1) := by
    have e : (c :: L).drop i = y :: (c :: L).drop (i + 1) := by
      rw [List.drop_eq_getElem_cons hil]
      rw [List.getElem?_eq_getElem hil, Option.some.injEq] at hy
      rw [hy]
    rw [← e, List.take_append_drop]
  have hlen : ((c :: L).take i).length = i := by rw [List.length_take]; omega
  have hB0 : (c :: L).drop (i + 1) = L.drop i := by simp
  have hy0 : i = 0 → y = c := by rintro rfl; simpa using hy.symm
  have hyk : i ≠ 0 → L[i - 1]? = some y := by
    intro h0
    obtain ⟨j, rfl⟩ : ∃ j, i = j + 1 := ⟨i - 1, by omega⟩
    simpa using hy
  rw [← hpg]
  clear hpg hx hy
  generalize hA : (c :: L).take i = A at *
  generalize hB : (c :: L).drop (i + 1) = B at *
  have hs := h6
  rw [hF] at hs
  obtain ⟨p1, pr, j1, jr, rfl, rfl, s1, s2⟩ := Seg.append.1 hs
  obtain ⟨p2, p3, j2, j3, rfl, rfl, s3, s5⟩ := s2
  have hz := Zip.down h h5 hF s1 s3 s5 rfl
  rw [hlen] at hz
  refine ⟨_, _, _, _, hz, ?_, ?_, ?_⟩
  · rintro rfl
    have : A = [] := List.eq_nil_of_length_eq_zero hlen
    subst this
    rw [s1.1]
    simp
  · intro he
    have hBn : B = [] := by
      rw [← hB]
      exact List.drop_of_length_le (by simp [headKey] at he ⊢; omega)
    subst hBn
    rw [s5.1]
    simp only [List.length_append, List.append_nil]
    omega
  · intro key hin hi0
    have hri : riseC [] L = true := (rightC_cons.1 h2).2.2
    have hfc : findC key (headKey [] (c :: L)) = Go.Ev.below key L := rfl
    rw [hfc] at hi0
    refine ⟨?_, ?_⟩
    · by_cases h0 : i = 0
      · rw [hy0 h0, h5]; exact hin.1
      · obtain ⟨z, z1, z2⟩ := below_lt (k := key) (l := L) (i := i - 1) (by omega)
        rw [hyk h0] at z1
        cases z1
        exact z2
    · intro u hu
      cases hBB : B with
      | nil => rw [hBB] at hu; exact hin.2 u hu
      | cons b B' =>
        rw [hBB] at hu hB0
        simp only [nextB, Option.some.injEq] at hu
        subst hu
        have hlt : i < L.length := by
          rcases Nat.lt_or_ge i L.length with h | h
          · exact h
          · rw [List.drop_of_length_le h] at hB0; cases hB0
        rw [List.drop_eq_getElem_cons hlt] at hB0
        have hb1 := (List.cons.inj hB0).1
        exact below_ge hri (by omega : Go.Ev.below key L ≤ i) (by rw [List.getElem?_eq_getElem hlt, hb1])

/-- Back to the branch above, and to the parts beside. -/
theorem Zip.beside {L : List Child} {i : Nat} (h : Zip M d all k id lo hi ps off (path ++ [(L, i)])) : i < L.length ∧ (∃ id' lo' hi' ps' off', Zip M d all (k + 1) id' lo' hi' ps' off' path ∧ (i + 1 = L.length → off' + ps'.length = off + ps.length) ∧ (i = 0 → off' = off)) ∧
    (∀ x, L[i + 1]? = some x → ∃ lo' hi' ps', Zip M d all k x.page lo' hi' ps' (off + ps.length) (path ++ [(L, i + 1)])) ∧
    (∀ x, L[i - 1]? = some x → 0 < i → ∃ lo' hi' ps' off', Zip M d all k x.page lo' hi' ps' off' (path ++ [(L, i - 1)]) ∧ off' + ps'.length = off) := by
  generalize hG : path ++ [(L, i)] = G at h
  cases h with
  | root h => simp at hG
  | @down k id lo hi ps0 p1 _ p3 off path' c y L0 A B i1 i2 i3 hz hr hF s1 s2 s3 hps =>
    obtain ⟨e1, e2⟩ := List.append_inj' hG rfl
    simp only [List.cons.injEq, Prod.mk.injEq, and_true] at e2
    obtain ⟨rfl, rfl⟩ := e2
    subst e1
    subst hps
    have hlen : (headKey [] (c :: L0)).length = A.length + (B.length + 1) := by
      rw [headKey_len, hF, List.length_append]; rfl
    refine ⟨by omega, ⟨_, _, _, _, _, hz, fun he => ?_, fun h0 => ?_⟩, fun x hx => ?_, fun x hx h0 => ?_⟩
    · have : B = [] := List.eq_nil_of_length_eq_zero (by omega)
      subst this
      rw [s3.1]
      simp only [List.length_append, List.append_nil]
      omega
    · have : A = [] := List.eq_nil_of_length_eq_zero h0
      subst this
      rw [s1.1]
      simp
    · cases hBB : B with
      | nil => rw [hBB] at hlen; simp only [List.length_nil] at hlen; have := (List.getElem?_eq_some_iff.1 hx).1; omega
      | cons b B' =>
        subst hBB
        have hs3 := s3
        obtain ⟨q1, q2, j1, j2, rfl, rfl, t1, t2⟩ := hs3
        have hsA : Seg (Sub M d k) (A ++ [y]) (some b.key) (p1 ++ ps) (i1 ++ i2) := Seg.append.2 ⟨p1, ps, i1, i2, rfl, rfl, s1, ps, [], i2, [], by simp, by simp, s2, rfl, rfl⟩
        have hz' := Zip.down hz hr (by rw [hF]; simp : c :: L0 = (A ++ [y]) ++ b :: B') hsA t1 t2 (by simp)
        have e3 : (A ++ [y]).length = A.length + 1 := by simp
        have e4 : off + (p1 ++ ps).length = off + p1.length + ps.length := by simp; omega
        rw [e3, e4] at hz'
        have hg : x = b := by
          have : (c :: L0)[A.length + 1]? = some b := by rw [hF]; simp
          have e5 : (headKey [] (c :: L0))[A.length + 1]? = some b := by simpa [headKey] using this
          rw [e5] at hx
          exact (Option.some.inj hx).symm
        rw [hg]
        exact ⟨_, _, _, hz'⟩
    · obtain ⟨A', a, hA⟩ : ∃ A' a, A = A' ++ [a] := by
        rcases List.eq_nil_or_concat A with h | ⟨l, b, h⟩
        · rw [h] at h0; simp at h0
        · exact ⟨l, b, by simpa using h⟩
      subst hA
      obtain ⟨q1, q2, j1, j2, rfl, rfl, t1, t2⟩ := Seg.append.1 s1
      obtain ⟨r1, r2, k1, k2, rfl, rfl, u1, rfl, rfl⟩ := t2
      simp only [nextB] at u1
      have hsB : Seg (Sub M d k) (y :: B) hi (ps ++ p3) (i2 ++ i3) := ⟨ps, p3, i2, i3, rfl, rfl, s2, s3⟩
      have hz' := Zip.down hz hr (by rw [hF]; simp : c :: L0 = A' ++ a :: (y :: B)) t1 u1 hsB (by simp)
      have e3 : (A' ++ [a]).length - 1 = A'.length := by simp
      have hg : x.page = a.page := by
        obtain ⟨y', hy', hpg⟩ := headKey_pg _ _ _ _ hx
        have : (c :: L0)[(A' ++ [a]).length - 1]? = some a := by rw [hF]; simp
        rw [this] at hy'
        rw [← hpg, Option.some.inj hy']
      rw [hg, e3]
      exact ⟨_, _, _, _, hz', by simp; omega⟩

/-- A leaf's page, and its items. -/
theorem Zip.leaf (h : Zip M d all 0 id lo hi ps off path) : ∃ items i2, M id = some ⟨2, 0, layI items⟩ ∧ riseI items = true ∧ (layI items).length ≤ 240 ∧ LeafAt M items ps i2 ∧ (path ≠ [] → items ≠ []) := by
  obtain ⟨⟨ids, items, i2, h1, h2, h3, h4, h5, h6⟩, hne⟩ := h.tree
  refine ⟨items, i2, h1, h2, h3, h4, fun hp e => hne hp ?_⟩
  subst e
  exact h4.1

theorem LeafAt.item {l : List Item} {ids : List Int} (h : LeafAt M l ps ids) : l.length = ps.length ∧ ∀ j (hl : j < l.length) (hp : j < ps.length), l[j].key = ps[j].1 ∧ ∃ ii, ValAt M l[j] ps[j].2 ii := by
  induction l generalizing ps ids with
  | nil => obtain ⟨rfl, rfl⟩ := h; exact ⟨rfl, fun j hl => by simp at hl⟩
  | cons x l ih =>
    obtain ⟨v, ps', i1, i2, rfl, rfl, h3, h4⟩ := h
    obtain ⟨q1, q2⟩ := ih h4
    refine ⟨by simp [q1], fun j hl hp => ?_⟩
    cases j with
    | zero => exact ⟨rfl, _, h3⟩
    | succ j => exact q2 j (by simpa using hl) (by simpa using hp)

theorem Zip.high (h : Zip M d all k id lo hi ps off path) : ∃ id' ids', TreeAt M d (k + path.length) id' [] none all ids' := by
  induction h with
  | root h => exact ⟨_, _, h⟩
  | down hz _ _ _ _ _ _ ih =>
    obtain ⟨id', ids', h⟩ := ih
    refine ⟨id', ids', ?_⟩
    have e : ∀ a b : Nat, a + (b + 1) = a + 1 + b := by omega
    rw [List.length_append, List.length_cons, List.length_nil, e]
    exact h
end
end Go.Ev

set_option linter.unusedVariables false
set_option linter.unusedSimpArgs false
namespace Go.Ev
open Go.Proofs Go.RowKit Go.Sort

def sortZs (l : List Int) : List Int := l.mergeSort fun x y => decide (x ≤ y)
theorem sortZs_perm (l : List Int) : (sortZs l).Perm l := List.mergeSort_perm ..
theorem sortZs_len (l : List Int) : (sortZs l).length = l.length := (sortZs_perm l).length_eq

theorem setCells_row {g : Nat} {e : TypeId} : ∀ (vs : List Value) (o : Nat) (w : World) (cur : Array Value), w.heap[g]? = some (.cells cur e (0, 0)) → ∃ cur', (w.setCells g o vs).heap[g]? = some (.cells cur' e (0, 0)) ∧ cur'.size = cur.size
  | [], _, _, cur, h => ⟨cur, h, rfl⟩
  | v :: vs, o, w, cur, h => by
    have h1 : Blk w g e cur := h
    obtain ⟨cur', h2, h3⟩ := setCells_row vs (o + 1) (w.setCell ⟨g, o, none⟩ v) _ (h1.set o v)
    exact ⟨cur', h2, by rw [h3]; simp⟩

theorem setCells_keeps {g : Nat} : ∀ (vs : List Value) (o : Nat) (w : World), Keeps (fun k => k = g) w (w.setCells g o vs)
  | [], _, w => Keeps.refl _ w
  | v :: vs, o, w => ((Keeps.refl (fun k => k = g) w).setCell (p := ⟨g, o, none⟩) (fun _ => rfl) v).trans (setCells_keeps vs (o + 1) _) fun _ _ e => e

theorem keeps_grow (S : Nat → Prop) (w : World) (os : Array Obj) : Keeps S w (Sort.grow w os) :=
  ⟨rfl, rfl, rfl, by simp [Sort.grow], fun k hk _ => by simp [Sort.grow, Array.getElem?_append, hk]⟩

def SortP (v : Value) (l : List Int) (base : Nat) (w : World) (e : Ending) (w' : World) : Prop :=
  e = .returned (.tuple #[]) ∧ w'.ownsRow base 3 1 v l.length (intsV (sortZs l)) ∧ Keeps (fun k => v.ownBlock = some k) w w'

theorem sort_any (v : Value) (l : List Int) (base : Nat) (w : World) (h : w.ownsRow base 3 1 v l.length (intsV l)) (hl : l.length ≤ 1000000) :
    Calls Tryz.prog 168 #[v] w (SortP v l base w) := by
  have hs := Sl.of_own h
  rcases h.2 with ⟨rfl, h0⟩ | ⟨g, cap, cur, rfl, hb, hg, hn, hm, hcs, hx⟩
  · have hl0 : l = [] := List.eq_nil_of_length_eq_zero h0
    subst hl0
    refine (AnyM.slices_Sort_int_none Tryz.sortZ none 0 w).mono ?_
    rintro e w' ⟨rfl, rfl⟩
    have e0 : sortZs [] = [] := by simp [sortZs]
    refine ⟨rfl, ?_, Keeps.refl _ _⟩
    rw [e0]
    exact World.ownsRow_nil _ _ _ _
  · have hB : Blk w g 3 cur := hg
    have hcell : ∀ j, j < l.length → w.cell? ⟨g, 0 + j, none⟩ = some (.int .i64 (l.getD j 0)) := fun j hj => by
      obtain ⟨_, _, e0, _, _, hc⟩ := hs
      cases e0
      obtain ⟨g', o, e1, _, hc⟩ := hc (by omega)
      cases e1
      refine hc j _ ?_
      simp [intsV, hj, List.getD_eq_getElem?_getD]
    have hfr : ∀ j, j < l.length → w.frozen? ⟨g, 0 + j, none⟩ = false := fun j _ => hB.frozen _
    have hH := Lib.holds_of_ints (n := l.length) (Nat.le_refl _) hcell hfr
    rw [List.take_length] at hH
    refine (AnyM.slices_Sort_int Tryz.sortZ g 0 cap l w hH hB.lt (by omega)).mono ?_
    rintro e w' ⟨rfl, q, os, hw⟩
    rw [Lib.sorted_world (Value.int .i64) w g 0 q l.toArray (l.mergeSort fun x y => decide (x ≤ y)) os hH (by simp)] at hw
    replace hw : w' = Sort.grow ((w.drewN q).setCells g 0 ((sortZs l).map (Value.int .i64))) os := hw
    have hcs2 := Lib.cells_sorted_ints (q := q) (os := os) (n := l.length) (ys := sortZs l) (Nat.le_refl _) (sortZs_len l) hcell
    have hK : Keeps (fun k => k = g) w w' := by
      rw [hw]
      exact (((Keeps.refl (fun k => k = g) w).drewN q).trans (setCells_keeps _ 0 _) fun _ _ e => e).trans (keeps_grow _ _ os) fun _ _ e => e
    obtain ⟨cur', h2, h3⟩ := setCells_row (e := 3) ((sortZs l).map (Value.int .i64)) 0 (w.drewN q) cur (hB.drewN q)
    have h4 : w'.heap[g]? = some (.cells cur' 3 (0, 0)) := by
      rw [hw]
      exact ((keeps_grow (fun _ => False) ((w.drewN q).setCells g 0 ((sortZs l).map (Value.int .i64))) os).block g (Array.getElem?_eq_some_iff.1 h2).1 (fun h => h)).trans h2
    refine ⟨rfl, ⟨by simp [intsV, sortZs_len], .inr ⟨g, cap, cur', rfl, hb, h4, hn, hm, by rw [h3, hcs], ?_⟩⟩, hK.mono fun i _ e => by rw [e]; rfl⟩
    refine List.ext_getElem? fun j => ?_
    have hc' := fun j => cell_of_row w' g j cur' 3 (0, 0) h4
    rw [List.getElem?_take]
    by_cases hj : j < l.length
    · rw [if_pos (by omega), Array.getElem?_toList, ← hc' j]
      have := hcs2 j (by simp [sortZs_len, hj])
      rw [← hw, Nat.zero_add] at this
      rw [this]
      have hj2 : j < (sortZs l).length := by rw [sortZs_len]; exact hj
      simp [intsV, hj2, List.getD_eq_getElem?_getD]
    · rw [if_neg (by omega), List.getElem?_eq_none (by simp [intsV, sortZs_len]; omega)]
end Go.Ev

set_option linter.unusedVariables false
set_option linter.unusedSimpArgs false
namespace Go.Ev
open Go.Proofs Go.RowKit

set_option maxHeartbeats 4000000 in
set_option maxRecDepth 100000 in
/-- slices.Delete of one element, out of a row of one's own. -/
theorem sdelI_any (base g n cap i : Nat) (l : List Item) (w : World) (h : w.ownsRow base 107 4 (.slice (some ⟨g, 0, none⟩) n cap) n (itemsCs l)) (hi : i < n) (hn : n ≤ 10000) (hb : base ≤ w.heap.size) :
    Calls Tryz.prog 200 #[.slice (some ⟨g, 0, none⟩) n cap, .int .i64 (i : Int), .int .i64 ((i : Int) + 1)] w fun e w' =>
      ∃ v, e = .returned v ∧ w'.ownsRow base 107 4 v (n - 1) (itemsCs (l.take i ++ l.drop (i + 1))) ∧ Keeps (fun k => k = g) w w' := by
  obtain ⟨i0, hinf, hz0, hz1, hz2⟩ := info_parts (show (Tryz.prog.info? 107).map (fun i => (i.zero, i.size, i.bytes)) = some (some (.agg #[.string ⟨#[]⟩, .string ⟨#[]⟩, .int .i64 0, .int .i64 0]), 4, 48) by kernel_rfl)
  have hll : l.length = n := by have := h.1; rw [itemsCs_len] at this; omega
  have hcap : n ≤ cap := by
    rcases h.2 with ⟨e0, _⟩ | ⟨g', cap', cur, e0, _, _, hnc, _⟩
    · cases e0
    · simp only [Value.slice.injEq, Option.some.injEq, Addr.mk.injEq, and_true, true_and] at e0
      obtain ⟨rfl, rfl⟩ := e0
      exact hnc
  obtain ⟨j, hj⟩ : ∃ j, i + 1 = j := ⟨_, rfl⟩
  obtain ⟨m, hm⟩ : ∃ m, n - 1 = m := ⟨_, rfl⟩
  -- what is moved up
  obtain ⟨ad, had, hadj⟩ : ∃ ad : Addr, (if cap = j then some (⟨g, 0, none⟩ : Addr) else some ⟨g, j * 4, none⟩) = some ad ∧ (cap = j ∨ ad = ⟨g, j * 4, none⟩) := by
    by_cases hc : cap = j
    · exact ⟨_, by rw [if_pos hc], .inl hc⟩
    · exact ⟨_, by rw [if_neg hc], .inr rfl⟩
  have hnews : ∀ k u, (itemsCs (l.drop j))[k]? = some u → w.drew.cell? (ad.add k) = some u := fun k u hu => by
    rcases hadj with hc | rfl
    · rw [List.drop_eq_nil_of_le (by omega)] at hu
      simp [itemsCs] at hu
    rw [← itemsCs_drop, List.getElem?_drop] at hu
    have h1 := h.cells (g := g) rfl _ _ hu
    rw [addr_add] at h1 ⊢
    rw [Nat.zero_add] at h1
    exact h1
  have hfr := own_front h (Nat.le_of_lt hi)
  rw [itemsCs_take] at hfr
  obtain ⟨w1, hr, hown1, hg1⟩ := run_append_stays (P := Tryz.prog) (ty := 97) w.drew (i := i0) Tryz.underlying97 hinf hz0 hz1 hz2 rfl (by decide) (show w.drew.ownsRow base 107 4 (.slice (some ⟨g, 0, none⟩) i cap) i (itemsCs (l.take i)) from hfr) (a := ad) (m := n - j) (c := cap - j) (news := itemsCs (l.drop j)) (by rw [itemsCs_len, List.length_drop]; omega) hnews (itemsCs_one _) (by omega) (by unfold maxLen; omega) (by omega) hb
  have hmm : i + (n - j) = m := by omega
  rw [hmm, ← itemsCs_append] at hown1
  rw [hmm] at hr
  have hK1 : Keeps (fun k => k = g) w w1 := ((Keeps.refl (fun k => k = g) w).drew).grown hg1 fun k e _ => by cases e; rfl
  -- what is cleared
  obtain ⟨cur', hb1, hcs1⟩ : ∃ cur', w1.heap[g]? = some (.cells cur' 107 (0, 0)) ∧ n * 4 ≤ cur'.size := by
    rcases hown1.2 with ⟨e0, _⟩ | ⟨g', cap', cur, e0, _, hg', hnc, _, hcs, _⟩
    · cases e0
    · simp only [Value.slice.injEq, Option.some.injEq, Addr.mk.injEq, and_true, true_and] at e0
      obtain ⟨rfl, rfl⟩ := e0
      exact ⟨cur, hg', by omega⟩
  have hB1 : Blk w1 g 107 cur' := hb1
  have hcl := fun ty => run_clear_one (P := Tryz.prog) w1 97 107 ty (.agg #[.string ⟨#[]⟩, .string ⟨#[]⟩, .int .i64 0, .int .i64 0]) Tryz.underlying97 (fun W => by kernel_rfl) (by simp [Value.cells, Value.oneCell']) g (m * 4) (cap - m) (fun k hk => by
    rw [hB1.cell]
    have h4 : k < 4 := hk
    rw [Array.getElem?_eq_getElem (by omega)]
    rfl) (fun k _ => hB1.frozen _)
  have hown2 := own_beyond (vs := (Value.agg #[.string ⟨#[]⟩, .string ⟨#[]⟩, .int .i64 0, .int .i64 0]).cells.toList) hown1 (Nat.le_refl _)
  have hK2 := hK1.trans (setCells_frm ((Value.agg #[.string ⟨#[]⟩, .string ⟨#[]⟩, .int .i64 0, .int .i64 0]).cells.toList) (m * 4) w1) fun _ _ e => e
  obtain ⟨w2, hw2⟩ : ∃ w2, w1.setCells g (m * 4) (Value.agg #[.string ⟨#[]⟩, .string ⟨#[]⟩, .int .i64 0, .int .i64 0]).cells.toList = w2 := ⟨_, rfl⟩
  rw [hw2] at hown2 hK2 hcl
  have hne : ((i : Int) == (i : Int) + 1) = false := by simp; omega
  have hi0 : (0 : Int) ≤ (i : Int) := by omega
  have hi1 : (i : Int) ≤ (i : Int) + 1 := by omega
  have hi2 : (i : Int) + 1 ≤ (n : Int) := by omega
  have hnc : (n : Int) ≤ (cap : Int) := by omega
  have hic : (i : Int) ≤ (cap : Int) := by omega
  have hm0 : (0 : Int) ≤ (m : Int) := by omega
  have hmn : (m : Int) ≤ (n : Int) := by omega
  have hi01 : (0 : Int) ≤ (i : Int) + 1 := by omega
  have hcm : ¬ cap = m := by omega
  have hnm : n - m = 1 := by omega
  have HE := Lib.hid (And.intro hown2 hK2)
  have HJ := Lib.hid hj
  clear hadj hfr hnews hown1 hg1 hmm hK1 hb1 hcs1 hB1 hown2 hK2 hw2 h
  go_enter Tryz.func200, Tryz.ntmps200
  go_wp2_with (fail)
  refine wp_region_any (by kernel_rfl) ?_
  change wpAny _ _ _ _ _ _ _ (World.drew _)
  try simp only [Act.put, lT, l0, lS]
  refine tk 0 (v := ?_) rfl (by kernel_rfl) (fun _ _ _ h => h) (by rfl) ?hy ?_
  case hy => intro w; go_simp; try with_reducible rfl
  try simp only [Act.put, lT, l0, lS]
  refine tk 1 (v := ?_) rfl (by kernel_rfl) (fun _ _ _ h => h) (by rfl) ?hy ?_
  case hy => intro w; go_simp; try with_reducible rfl
  try simp only [Act.put, lT, l0, lS]
  refine tk 2 (v := ?_) rfl (by kernel_rfl) (fun _ _ _ h => h) (by rfl) ?hy ?_
  case hy => intro w; go_simp; try with_reducible rfl
  try simp only [Act.put, lT, l0, lS]
  refine tk 3 (v := ?_) rfl (by kernel_rfl) (fun _ _ _ h => h) (by rfl) ?hy ?_
  case hy => intro w; go_simp; try with_reducible rfl
  try simp only [Act.put, lT, l0, lS]
  refine tk 4 (v := ?_) rfl (by kernel_rfl) (fun _ _ _ h => h) (by rfl) ?hy ?_
  case hy => intro w; go_simp; try with_reducible rfl
  try simp only [Act.put, lT, l0, lS]
  refine tk 5 (v := ?_) rfl (by kernel_rfl) (fun _ _ _ h => h) (by rfl) ?hy ?_
  case hy => intro w; go_simp; try with_reducible rfl
  try simp only [Act.put, lT, l0, lS]
  refine rd 6 (by kernel_rfl) rfl (fun K hK => ?_)
  refine if_on rfl ?_
  go_must (refine wp_append_eq _ _ 97 rfl rfl rfl hr ?_)
  go_simp
  refine hK _ _ ?_
  clear hK K
  try simp only [Act.put, lT, l0, lS]
  refine tk 7 (v := ?_) rfl (by kernel_rfl) (fun _ _ _ h => h) (by rfl) ?hy ?_
  case hy => intro w; go_simp; try with_reducible rfl
  try simp only [Act.put, lT, l0, lS]
  refine wpAny_done (by kernel_rfl) ?_ _
  go_wp2_with (fail)
  go_ret
  refine ⟨_, rfl, ?_, HE.out.2⟩
  rw [HJ.out, hm]
  exact HE.out.1

set_option maxHeartbeats 2000000 in
set_option maxRecDepth 100000 in
theorem delI_any (A : Option Addr) (n c : Nat) (l : List Item) (key : Bytes) (w : World) (hv : Sl w 4 (.slice A n c) n (itemsCs l)) (hn : n ≤ 10000) (hr : riseI l = true) :
    Calls Tryz.prog 154 #[.slice A n c, strV key] w (OwnPost (delI l key) w) := by
  have hl := hv.len4
  subst hl
  have hale := ahead_le key l
  have HF := Lib.hid (findI_any A l.length c l key w hv (by omega) hr)
  have HC := Lib.hid (fun W (hb : Below w.heap.size w W) => cloneI_all A l.length c l W (hv.below hb) (by omega))
  have HDel : Hid (isAt key l = true → delI l key = l.take (ahead key l) ++ l.drop (ahead key l + 1)) := fun h => by unfold delI; rw [if_pos h]
  have HNot : Hid (isAt key l = false → delI l key = l) := fun h => by unfold delI; rw [if_neg (by rw [h]; decide)]
  have HLt : Hid (isAt key l = true → ahead key l < l.length) := fun h => by
    obtain ⟨x, hx, _⟩ := isAt_iff.1 h
    exact (List.getElem?_eq_some_iff.1 hx).1
  clear hv hr
  generalize ahead key l = i at *
  go_enter Tryz.func154, Tryz.ntmps154
  go_wp2_with (fail)
  go_must (refine HF.out.mono ?_)
  rintro e w1 ⟨rfl, hb1⟩
  have HC1 := Lib.hid (HC.out w1 hb1)
  have HB1 := Lib.hid hb1
  clear hb1
  go_wp2_with (fail)
  go_must (refine HC1.out.mono ?_)
  rintro e w2 ⟨v2, rfl, hown, hb2⟩
  have HB2 := Lib.hid (HB1.out.trans (hb2.mono HB1.out.size))
  have hown := own_base hown HB1.out.size
  clear hb2
  cases hat : isAt key l with
  | false =>
    have hd := HNot.out hat
    have HE : Hid (OwnPost (delI l key) w (.returned v2) w2) := by
      rw [hd]
      exact ⟨v2, rfl, hown, HB2.out⟩
    obtain ⟨A2, c2, rfl, _⟩ := Sl.of_own hown
    clear hown hd
    go_wp2_with (fail)
    go_ret
    exact HE.out
  | true =>
    have hlt := HLt.out hat
    have hd := HDel.out hat
    rcases hown.2 with ⟨_, h0⟩ | ⟨g, cap, cur, rfl, hbg, _⟩
    · omega
    have hDl := sdelI_any w.heap.size g l.length cap i l w2 hown hlt (by omega) HB2.out.size
    have hwi : IntKind.i64.wrap ((i : Int) + 1) = (i : Int) + 1 := IntWalk.i64_in _ (by omega)
    have HDl := Lib.hid hDl
    have HD := Lib.hid hd
    clear hDl hown hd
    go_wp2_with (fail)
    go_must (refine HDl.out.mono ?_)
    rintro e w3 ⟨v3, rfl, hown3, hk3⟩
    have hl3 : l.length - 1 = (delI l key).length := by
      rw [HD.out, List.length_append, List.length_take, List.length_drop]
      omega
    have HE : Hid (OwnPost (delI l key) w (.returned v3) w3) := by
      refine ⟨v3, rfl, ?_, HB2.out.trans (hk3.below HB2.out.size fun k hk e => by omega)⟩
      rw [← hl3, HD.out]
      exact hown3
    obtain ⟨A3, c3, rfl, _⟩ := Sl.of_own hown3
    clear hown3 hk3 hl3
    go_wp2_with (fail)
    go_ret
    exact HE.out
end Go.Ev

namespace Go.Ev
open Go.Lib

theorem delP_before {key : List UInt8} (a b : List Pair) (h : ∀ q ∈ a, lessB q.1 key = true) : delP key (a ++ b) = a ++ delP key b := delP_pre fun q hq => lessB_ne (h q hq)
theorem delP_behind {key : List UInt8} (a b : List Pair) (h : ∀ q ∈ b, lessB key q.1 = true) : delP key (a ++ b) = delP key a ++ b := delP_post fun q hq => (lessB_ne (h q hq)).symm

theorem delI_cons (y : Item) (l : List Item) (k : Bytes) : delI (y :: l) k = if lessB y.key k then y :: delI l k else if y.key = k then l else y :: l := by
  cases h1 : lessB y.key k with
  | true =>
    cases h2 : isAt k l with
    | true => simp [delI, isAt, ahead, h1, h2]
    | false => simp [delI, isAt, h1, h2]
  | false =>
    by_cases h2 : y.key = k
    · simp [delI, isAt, ahead, h1, h2]
      rw [← h2]
      simp [lessB_irrefl]
    · simp [delI, isAt, h1, h2]

theorem layI_del (k : Bytes) : ∀ l : List Item, (layI (delI l k)).length ≤ (layI l).length
  | [] => by simp [delI, isAt, layI]
  | y :: l => by
    have := layI_del k l
    rw [delI_cons]
    split
    · simp only [layI, List.length_append]; omega
    · split
      · simp only [layI, List.length_append]; omega
      · exact Nat.le_refl _

theorem leaf_del {M : Store} {key : Bytes} : ∀ {items : List Item} {ps : List Pair} {i2 : List Int}, riseI items = true → LeafAt M items ps i2 → ∃ old, OldAt M items key ps old ∧ ∃ i2', LeafAt M (delI items key) (delP key ps) i2' ∧ (i2' ++ old).Perm i2
  | [], ps, i2, hr, h => by
    obtain ⟨rfl, rfl⟩ := h
    exact ⟨[], .inl ⟨rfl, rfl⟩, [], ⟨rfl, rfl⟩, by simp⟩
  | y :: l, ps, i2, hr, h => by
    obtain ⟨v1, ps', j1, j2, rfl, rfl, h3, h4⟩ := h
    have hr1 := (riseI_tail hr).1
    have hr2 := (riseI_tail hr).2
    have hps : ∀ q ∈ ps', lessB y.key q.1 = true := by
      intro q hq
      have hm := (leaf_rising h4 hr1).2
      have : q.1 ∈ ps'.map (·.1) := List.mem_map_of_mem hq
      rw [hm] at this
      obtain ⟨it, hit, e⟩ := List.mem_map.1 this
      rw [← e]
      exact hr2 it hit
    simp only [OldAt, isAt, ahead]
    by_cases hlt : lessB y.key key = true
    · obtain ⟨old, q1, i2', q3, q4⟩ := leaf_del (key := key) hr1 h4
      refine ⟨old, ?_, j1 ++ i2', ?_, ?_⟩
      · simp only [hlt, if_true]
        rcases q1 with q1 | ⟨it, v', k1, k2, k3, k4⟩
        · exact .inl q1
        · exact .inr ⟨it, v', k1, by simpa using k2, k3, List.mem_cons_of_mem _ k4⟩
      · rw [delI_cons, if_pos hlt]
        have : delP key ((y.key, v1) :: ps') = (y.key, v1) :: delP key ps' := by
          have := delP_before (key := key) [(y.key, v1)] ps' (fun q hq => by rw [List.mem_singleton.1 hq]; exact hlt)
          exact this
        rw [this]
        exact ⟨v1, _, j1, i2', rfl, rfl, h3, q3⟩
      · rw [List.perm_iff_count] at q4 ⊢
        intro a
        have := q4 a
        simp only [List.count_append] at this ⊢
        omega
    · by_cases he : y.key = key
      · refine ⟨j1, ?_, j2, ?_, ?_⟩
        · refine .inr ⟨y, v1, ?_, ?_, h3, ?_⟩
          · rw [if_neg hlt]; simpa using he
          · rw [if_neg hlt]; rfl
          · rw [← he]; exact List.mem_cons_self ..
        · rw [delI_cons, if_neg hlt, if_pos he]
          have : delP key ((y.key, v1) :: ps') = ps' := by
            have h1 := delP_behind (key := key) [(y.key, v1)] ps' (fun q hq => by rw [← he]; exact hps q hq)
            have h2 : delP key [(y.key, v1)] = [] := by simp [delP, he]
            rw [h2] at h1
            exact h1
          rw [this]
          exact h4
        · rw [List.perm_iff_count]
          intro a
          simp only [List.count_append]
          omega
      · have hgt : lessB key y.key = true := by
          rcases lessB_total y.key key with h | h | h
          · exact absurd h hlt
          · exact absurd h he
          · exact h
        refine ⟨[], .inl ⟨by rw [if_neg hlt]; simpa using he, rfl⟩, j1 ++ j2, ?_, by simp⟩
        rw [delI_cons, if_neg hlt, if_neg he]
        have : delP key ((y.key, v1) :: ps') = (y.key, v1) :: ps' := delP_out fun q hq => by
          rcases List.mem_cons.1 hq with rfl | hq
          · exact he
          · exact (lessB_ne (lessB_trans hgt (hps q hq))).symm
        rw [this]
        exact ⟨v1, _, j1, j2, rfl, rfl, h3, h4⟩

end Go.Ev
