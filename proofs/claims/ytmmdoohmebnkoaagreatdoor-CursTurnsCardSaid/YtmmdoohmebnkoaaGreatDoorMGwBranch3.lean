/-
  Children laid, or refused; how many bytes they have; copied; parted in two.
-/
import Derived.Test.YtmmdoohmebnkoaaGreatDoorMGwBranch2
set_option linter.unusedVariables false
set_option linter.unusedSimpArgs false
namespace Go.Ev
open Go.Proofs Go.RowKit

/-- Children that can be laid. -/
structure ChildrenOk (l : List Child) : Prop where
  keys : ∀ x ∈ l, x.key.length ≤ 9223372036854775807
  nums : ∀ x ∈ l, I64 x.page
  len : (layC l).length ≤ 100000
  few : l.length ≤ 100000

def PutCPost (l : List Child) (w : World) (e : Ending) (w' : World) : Prop := e = .returned (.tuple #[strV (putC l).1, .int .i64 (putC l).2]) ∧ Below w.heap.size w w'

set_option maxHeartbeats 1000000 in
theorem putC_any (A : Option Addr) (n c : Nat) (l : List Child) (w : World) (hv : Sl w 2 (.slice A n c) n (childrenCs l)) (ho : ChildrenOk l) :
    Calls Tryz.prog 106 #[.slice A n c] w (PutCPost l w) := by
  have hn : n ≤ 100000 := by have := hv.len2; have := ho.few; omega
  have hR := fun W (h : Sl W 2 (.slice A n c) n (childrenCs l)) => rightC_any A n c l W h hn ho.keys
  have hLn := ho.len
  cases hr : rightC l
  · have hp := Lib.hid (show putC l = ([], 1) by unfold putC; rw [if_pos hr])
    simp only [hr] at hR
    have HR := Lib.hid hR
    clear hR hr hLn
    go_enter Tryz.func106, Tryz.ntmps106
    go_wp2_with (go_at_call 141; go_must (refine (HR.out _ hv).mono ?_); rintro e w1 ⟨rfl, hb1⟩)
    go_ret2
    exact ⟨by rw [hp.out] <;> rfl, hb1⟩
  · simp only [hr] at hR
    have HR := Lib.hid hR
    have hL := Lib.hid (fun W (h : Sl W 2 (.slice A n c) n (childrenCs l)) => layC_any A n c l W h ho.len hn ho.nums)
    by_cases h240 : 240 < (layC l).length
    · have hp := Lib.hid (show putC l = ([], 2) by unfold putC; rw [if_neg (by simp [hr]), if_pos h240])
      have h240' : (240 : Int) < ((layC l).length : Int) := by omega
      clear hR hr h240
      go_enter Tryz.func106, Tryz.ntmps106
      go_wp2_with (first
        | (go_at_call 141; go_must (refine (HR.out _ hv).mono ?_); rintro e w1 ⟨rfl, hb1⟩)
        | (go_at_call 142; go_must (refine (hL.out _ (hv.below hb1)).mono ?_); rintro e w2 ⟨rfl, hb2⟩))
      go_ret2
      exact ⟨by rw [hp.out] <;> rfl, hb1.trans (hb2.mono hb1.size)⟩
    · have hp := Lib.hid (show putC l = (layC l, 0) by unfold putC; rw [if_neg (by simp [hr]), if_neg h240])
      have h240' : ¬ (240 : Int) < ((layC l).length : Int) := by omega
      clear hR hr h240
      go_enter Tryz.func106, Tryz.ntmps106
      go_wp2_with (first
        | (go_at_call 141; go_must (refine (HR.out _ hv).mono ?_); rintro e w1 ⟨rfl, hb1⟩)
        | (go_at_call 142; go_must (refine (hL.out _ (hv.below hb1)).mono ?_); rintro e w2 ⟨rfl, hb2⟩))
      go_ret2
      exact ⟨by rw [hp.out] <;> rfl, hb1.trans (hb2.mono hb1.size)⟩

theorem sizeC_any (A : Option Addr) (n c : Nat) (l : List Child) (w : World) (hv : Sl w 2 (.slice A n c) n (childrenCs l)) (ho : ChildrenOk l) :
    Calls Tryz.prog 143 #[.slice A n c] w fun e w' => e = .returned (.int .i64 (layC l).length) ∧ Below w.heap.size w w' := by
  have hn : n ≤ 100000 := by have := hv.len2; have := ho.few; omega
  have hL := Lib.hid (layC_any A n c l w hv ho.len hn ho.nums)
  have hLn := ho.len
  go_enter Tryz.func143, Tryz.ntmps143
  go_wp2_with (go_at_call 142; go_must (refine hL.out.mono ?_); rintro e w2 ⟨rfl, hb2⟩)
  go_ret
  exact ⟨rfl, hb2⟩
set_option maxHeartbeats 2000000 in
theorem cloneC_any (A : Addr) (n c : Nat) (l : List Child) (w : World) (hv : Sl w 2 (.slice (some A) n c) n (childrenCs l)) (hn : n ≤ 100000) :
    Calls Tryz.prog 104 #[.slice (some A) n c] w fun e w' =>
      ∃ v', e = .returned v' ∧ w'.ownsRow w.heap.size 98 2 v' n (childrenCs l) ∧ Below w.heap.size w w' := by
  obtain ⟨i0, hi, hz0, hz1, hz2⟩ := info_parts (show (Tryz.prog.info? 98).map (fun i => (i.zero, i.size, i.bytes)) = some (some (.agg #[.string ⟨#[]⟩, .int .i64 0]), 2, 24) by kernel_rfl)
  have q22 : ∀ (w : World) (a : Option Addr) (n c n' c' : Nat), (binOp .eql 57 (.slice a n c) (.slice none n' c')).run Tryz.prog w = .ok (.bool a.isNone) w := fun w a n c n' c' => Lib.run_eql_slice_nil w _ 98 a n c n' c' Tryz.underlying57
  go_enter Tryz.func104, Tryz.ntmps104
  go_wp2_with (at_builtin; go_must (refine wpList_append_own _ rfl _ _ 57 rfl w.heap.size 98 i0 _ 2 24 Tryz.underlying57 hi hz0 hz1 hz2 rfl (by decide) _ _ _ rfl (World.ownsRow_made w #[] 0 (Nat.le_refl _) (Nat.zero_le _) rfl) A n c (childrenCs l) rfl ?c0 ?c1 ?c2 ?c3 ?c4 ?c5 ?_))
  case c0 =>
    obtain ⟨_, _, e0, h0, h1, h2⟩ := hv
    simpa using h1
  case c1 =>
    obtain ⟨_, _, e0, h0, h1, h2⟩ := hv
    intro j u hu
    have hj := (List.getElem?_eq_some_iff.1 hu).1
    obtain ⟨b, o, eA, h4, h5⟩ := h2 (by omega)
    simp only [Value.slice.injEq] at e0
    rw [← e0.1] at eA
    cases eA
    rw [Addr.add_lit]
    exact Lib.cell?_alloc_some _ (h5 j u hu)
  case c2 => exact childrenCs_one l
  case c3 => unfold maxLen; omega
  case c4 => omega
  case c5 => simp
  intro v' w1 hown hgrow hnil
  go_wp2
  go_ret
  exact ⟨v', rfl, by simpa using hown, ((Below.refl _ w).alloc (Nat.le_refl _) _).grown hgrow (by simp) (by intro k hk; simp [Value.ownBlock] at hk; omega)⟩
theorem cloneC_nil (c : Nat) (w : World) :
    Calls Tryz.prog 104 #[.slice none 0 c] w fun e w' => e = .returned (.slice none 0 0) ∧ Below w.heap.size w w' := by
  have q22 : ∀ (w : World) (a : Option Addr) (n c n' c' : Nat), (binOp .eql 57 (.slice a n c) (.slice none n' c')).run Tryz.prog w = .ok (.bool a.isNone) w := fun w a n c n' c' => Lib.run_eql_slice_nil w _ 98 a n c n' c' Tryz.underlying57
  go_enter Tryz.func104, Tryz.ntmps104
  go_wp2
  go_ret
  exact ⟨rfl, Below.refl _ _⟩

def OwnCPost (l : List Child) (w : World) (e : Ending) (w' : World) : Prop := ∃ v', e = .returned v' ∧ w'.ownsRow w.heap.size 98 2 v' l.length (childrenCs l) ∧ Below w.heap.size w w'

theorem cloneC_all (A : Option Addr) (n c : Nat) (l : List Child) (w : World) (hv : Sl w 2 (.slice A n c) n (childrenCs l)) (hn : n ≤ 100000) :
    Calls Tryz.prog 104 #[.slice A n c] w (OwnCPost l w) := by
  have hl := hv.len2
  cases A with
  | none =>
    obtain ⟨A', c', e0, h0, h1, h2⟩ := hv
    cases e0
    have h0 : n = 0 := by
      by_cases h : 0 < n
      · obtain ⟨_, _, e, _⟩ := h2 h; cases e
      · omega
    subst h0
    have : l = [] := List.eq_nil_of_length_eq_zero hl
    subst this
    exact (cloneC_nil c w).mono fun e w' ⟨he, hb⟩ => ⟨_, he, World.ownsRow_nil _ _ _ _, hb⟩
  | some A => exact (cloneC_any A n c l w hv hn).mono fun e w' ⟨v', he, ho, hb⟩ => ⟨v', he, by rw [hl]; exact ho, hb⟩

theorem ChildrenOk.take {l : List Child} (h : ChildrenOk l) (i : Nat) : ChildrenOk (l.take i) :=
  ⟨fun x hx => h.keys x (List.mem_of_mem_take hx), fun x hx => h.nums x (List.mem_of_mem_take hx), Nat.le_trans (layC_le l i) h.len, by have := h.few; rw [List.length_take]; omega⟩
theorem ChildrenOk.drop {l : List Child} (h : ChildrenOk l) (i : Nat) : ChildrenOk (l.drop i) := by
  refine ⟨fun x hx => h.keys x (List.mem_of_mem_drop hx), fun x hx => h.nums x (List.mem_of_mem_drop hx), ?_, by have := h.few; rw [List.length_drop]; omega⟩
  have := h.len
  rw [← List.take_append_drop i l, layC_append, List.length_append] at this
  omega

def SplitCPost (l : List Child) (w : World) (e : Ending) (w' : World) : Prop :=
  ∃ v1 v2, e = .returned (.tuple #[v1, v2]) ∧ w'.ownsRow w.heap.size 98 2 v1 (splitC l).1.length (childrenCs (splitC l).1) ∧ w'.ownsRow w.heap.size 98 2 v2 (splitC l).2.length (childrenCs (splitC l).2) ∧ Below w.heap.size w w'

set_option maxHeartbeats 1000000 in
set_option maxRecDepth 100000 in
theorem splitC_any (A : Option Addr) (n c : Nat) (l : List Child) (w : World) (hv : Sl w 2 (.slice A n c) n (childrenCs l)) (ho : ChildrenOk l) (hn : n ≤ 90000) :
    Calls Tryz.prog 107 #[.slice A n c] w (SplitCPost l w) := by
  have hl := hv.len2
  subst hl
  by_cases h2 : l.length < 2
  · have hC := Lib.hid (cloneC_all A _ c l w hv (by omega))
    have hS := Lib.hid (show splitC l = (l, []) by unfold splitC; rw [if_pos h2])
    go_enter Tryz.func107, Tryz.ntmps107
    go_wp2_with (fail)
    go_must (refine hC.out.mono ?_)
    rintro e w1 ⟨v', rfl, hown, hb1⟩
    go_wp2_with (fail)
    go_ret2
    exact ⟨v', _, rfl, by rw [hS.out]; exact hown, by rw [hS.out]; exact World.ownsRow_nil _ _ _ _, hb1⟩
  · have hS := Lib.hid (show splitC l = (l.take (bestAt (costC l) l.length), l.drop (bestAt (costC l) l.length)) by unfold splitC; rw [if_neg h2])
    have h2' : ¬ (l.length : Int) < 2 := by omega
    obtain ⟨A', c', e0, h0, h1, hA⟩ := id hv
    cases e0
    obtain ⟨blk, off, rfl, hbl, hcell⟩ := hA (by omega)
    clear hA h1 hcell
    have hbest := Lib.hid (bestAt_spec (costC l) (show 2 ≤ l.length by omega))
    have hZ1 := Lib.hid (fun i W h => sizeC_any (some ⟨blk, off, none⟩) i c (l.take i) W h (ho.take i))
    have hZ2 := Lib.hid (fun i W h => sizeC_any (some ⟨blk, off + i * 2, none⟩) (l.length - i) (c - i) (l.drop i) W h (ho.drop i))
    go_enter Tryz.func107, Tryz.ntmps107
    go_wp2_with (fail)
    go_loopg [4, 5, 6] l.length (fun g s4 s5 s6 wr => ∃ best k sz : Nat, s4 = .int .i64 best ∧ s5 = .int .i64 sz ∧ s6 = .int .i64 k ∧ 1 ≤ k ∧ k ≤ l.length ∧ l.length - k ≤ g ∧ best < k ∧ (best ≠ 0 → sz = costC l best) ∧ sz ≤ 100000 ∧ Hid (bestFrom (costC l) (l.length - k) k best = bestAt (costC l) l.length) ∧ Below w.heap.size w wr)
    case atStart => exact ⟨0, 1, 0, rfl, rfl, rfl, by omega, by omega, by omega, by omega, by simp, by omega, rfl, Below.refl _ _⟩
    case round =>
      obtain ⟨best, k, sz, rfl, rfl, rfl, hk1, hk2, hg, hbk, hsz, hszb, hI, hb⟩ := hrel
      have hz := hb.size
      by_cases hlt : k < l.length
      · have hst := Lib.hid (bestFrom_step (costC l) (best := best) hlt)
        have hvw := hv.below (hb.mono (Nat.le_refl _))
        have q1 := hZ1.out k _ (by rw [← childrenCs_take]; exact Sl.take hvw.drew (by omega))
        have q2 := fun W (h : Below wr.heap.size wr.drew W) => hZ2.out k W (by rw [← childrenCs_drop]; exact Sl.drop (Sl.below hvw.drew h) (by omega))
        have Q1 := Lib.hid q1
        have Q2 := Lib.hid q2
        clear q1 q2
        have hci1 : ¬ (c = k) := by omega
        have hkc : k ≤ c := by omega
        have hkl : k ≤ l.length := by omega
        have hkk : (0 : Int) ≤ (k : Int) ∧ (k : Int) ≤ (l.length : Int) := by omega
        obtain ⟨hkk1, hkk2⟩ := hkk
        go_wp2
        refine wp_region_any (by kernel_rfl) ?_
        change wpAny _ _ _ _ _ _ _ (World.drew _)
        try simp only [Act.put, List.setIfInBounds_toArray, List.set_cons_zero, List.set_cons_succ]
        refine wpAny_take (oi := { dst := _, op := _, type := _, pos := _, after := _, guard := _ }) (i := 0) (v := ?_) rfl (by kernel_rfl) (by kernel_rfl) (by kernel_rfl) (fun _ _ _ h => h) (Or.inl ⟨by rfl, ?hy⟩) ?_
        case hy => (intro w; go_simp; try with_reducible rfl)
        try simp only [Act.put, List.setIfInBounds_toArray, List.set_cons_zero, List.set_cons_succ]
        try simp only [Act.put, List.setIfInBounds_toArray, List.set_cons_zero, List.set_cons_succ]
        refine wpAny_take (oi := { dst := _, op := _, type := _, pos := _, after := _, guard := _ }) (i := 1) (v := ?_) rfl (by kernel_rfl) (by kernel_rfl) (by kernel_rfl) (fun _ _ _ h => h) (Or.inl ⟨by rfl, ?hy⟩) ?_
        case hy => (intro w; go_simp; try with_reducible rfl)
        try simp only [Act.put, List.setIfInBounds_toArray, List.set_cons_zero, List.set_cons_succ]
        try simp only [Act.put, List.setIfInBounds_toArray, List.set_cons_zero, List.set_cons_succ]
        refine wpAny_take (oi := { dst := _, op := _, type := _, pos := _, after := _, guard := _ }) (i := 2) (v := ?_) rfl (by kernel_rfl) (by kernel_rfl) (by kernel_rfl) (fun _ _ _ h => h) (Or.inl ⟨by rfl, ?hy⟩) ?_
        case hy => (intro w; go_simp; try with_reducible rfl)
        try simp only [Act.put, List.setIfInBounds_toArray, List.set_cons_zero, List.set_cons_succ]
        try simp only [Act.put, List.setIfInBounds_toArray, List.set_cons_zero, List.set_cons_succ]
        refine wpAny_take (oi := { dst := _, op := _, type := _, pos := _, after := _, guard := _ }) (i := 4) (v := ?_) rfl (by kernel_rfl) (by kernel_rfl) (by kernel_rfl) (fun _ _ _ h => h) (Or.inl ⟨by rfl, ?hy⟩) ?_
        case hy => (intro w; go_simp; try with_reducible rfl)
        try simp only [Act.put, List.setIfInBounds_toArray, List.set_cons_zero, List.set_cons_succ]
        try simp only [Act.put, List.setIfInBounds_toArray, List.set_cons_zero, List.set_cons_succ]
        refine wpAny_take (oi := { dst := _, op := _, type := _, pos := _, after := _, guard := _ }) (i := 5) (v := ?_) rfl (by kernel_rfl) (by kernel_rfl) (by kernel_rfl) (fun _ _ _ h => h) (Or.inl ⟨by rfl, ?hy⟩) ?_
        case hy => (intro w; go_simp; try with_reducible rfl)
        try simp only [Act.put, List.setIfInBounds_toArray, List.set_cons_zero, List.set_cons_succ]
        try simp only [Act.put, List.setIfInBounds_toArray, List.set_cons_zero, List.set_cons_succ]
        refine wpAny_take (oi := { dst := _, op := _, type := _, pos := _, after := _, guard := _ }) (i := 6) (v := ?_) rfl (by kernel_rfl) (by kernel_rfl) (by kernel_rfl) (fun _ _ _ h => h) (Or.inl ⟨by rfl, ?hy⟩) ?_
        case hy => (intro w; go_simp; try with_reducible rfl)
        try simp only [Act.put, List.setIfInBounds_toArray, List.set_cons_zero, List.set_cons_succ]
        refine wpAny_ready (rs := [3]) (by kernel_rfl) (by simp) (AllReady.cons (o := { dst := _, op := _, type := _, pos := _, after := _, guard := _ }) rfl (fun K hK => ?_) AllReady.nil)
        go_simp
        (go_must (refine Q1.out.mono ?_); rintro e w1 ⟨rfl, hb1⟩)
        go_simp
        refine hK _ _ ?_
        clear hK K
        refine wpAny_ready (rs := [7]) (by kernel_rfl) (by simp) (AllReady.cons (o := { dst := _, op := _, type := _, pos := _, after := _, guard := _ }) rfl (fun K hK => ?_) AllReady.nil)
        go_simp
        (go_must (refine (Q2.out _ hb1).mono ?_); rintro e w2 ⟨rfl, hb2⟩)
        go_simp
        refine hK _ _ ?_
        clear hK K
        refine wpAny_ready (rs := [8]) (by kernel_rfl) (by simp) (AllReady.cons (o := { dst := _, op := _, type := _, pos := _, after := _, guard := _ }) rfl (fun K hK => ?_) AllReady.nil)
        go_simp
        refine hK _ _ ?_
        clear hK K
        refine wpAny_ready (rs := [9]) (by kernel_rfl) (by simp) (AllReady.cons (o := { dst := _, op := _, type := _, pos := _, after := _, guard := _ }) rfl (fun K hK => ?_) AllReady.nil)
        go_simp
        refine hK _ _ ?_
        clear hK K
        refine wpAny_done (by kernel_rfl) ?_ _
        have hmx : max ((List.length (layC (List.take k l)) : Nat) : Int) (List.length (layC (List.drop k l)) : Nat) = ((costC l k : Nat) : Int) := by unfold costC; omega
        have hcb : costC l k ≤ 100000 := by
          have h1 := (ho.take k).len
          have h2 := (ho.drop k).len
          unfold costC
          omega
        rw [hmx]
        have hbw : Below w.heap.size w w2 := hb.drew.trans ((hb1.mono (by simp; omega)).trans (hb2.mono (by have := hb1.size; simp at this; omega)))
        clear hmx Q1 Q2 hZ1 hZ2
        by_cases hb0 : best = 0
        · have e1 : ((best : Int) == 0) = true := by simp [hb0]
          have hI2 := Lib.hid (hst.out.symm.trans hI)
          rw [if_pos (.inl hb0)] at hI2
          clear hst hI hsz hb0
          go_wp2
          go_roundg (l.length - (k + 1))
          case measure => omega
          case rel => exact ⟨k, k + 1, costC l k, rfl, rfl, by go_num, by omega, by omega, by omega, by omega, fun _ => rfl, hcb, hI2, hbw⟩
        · have e1 : ((best : Int) == 0) = false := by simpa using hb0
          have hs0 := hsz hb0
          by_cases hcl : costC l k < sz
          · have hI2 := Lib.hid (hst.out.symm.trans hI)
            rw [if_pos (.inr (by omega))] at hI2
            have hcl' : ((costC l k : Nat) : Int) < (sz : Int) := by omega
            clear hst hI hsz hb0 hs0 hcl
            go_wp2
            go_roundg (l.length - (k + 1))
            case measure => omega
            case rel => exact ⟨k, k + 1, costC l k, rfl, rfl, by go_num, by omega, by omega, by omega, by omega, fun _ => rfl, hcb, hI2, hbw⟩
          · have hI2 := Lib.hid (hst.out.symm.trans hI)
            rw [if_neg (by rw [← hs0]; intro h; rcases h with h | h; exact hb0 h; exact hcl h)] at hI2
            have hcl' : ¬ ((costC l k : Nat) : Int) < (sz : Int) := by omega
            have HS0 := Lib.hid hsz
            clear hst hI hsz hb0 hs0 hcl
            go_wp2
            go_roundg (l.length - (k + 1))
            case measure => omega
            case rel => exact ⟨best, k + 1, sz, rfl, rfl, by go_num, by omega, by omega, by omega, by omega, HS0.out, hszb, hI2, hbw⟩
      · obtain rfl : k = l.length := by omega
        have hbe : best = bestAt (costC l) l.length := (bestFrom_end _ _ _).symm.trans hI.out
        have hbs := hbest.out
        rw [← hbe] at hS hbs
        obtain ⟨hb1', hb2', _⟩ := hbs
        clear hbe hI hsz hbest hg
        have hvw := hv.below hb
        have hC1 := Lib.hid (cloneC_all (some ⟨blk, off, none⟩) best c (l.take best) wr.drew (by rw [← childrenCs_take]; exact Sl.take hvw.drew (by omega)) (by omega))
        have hC2 := Lib.hid (fun W (h : Below wr.heap.size wr.drew W) => cloneC_all (some ⟨blk, off + best * 2, none⟩) (l.length - best) (c - best) (l.drop best) W (by rw [← childrenCs_drop]; exact Sl.drop (Sl.below hvw.drew h) (by omega)) (by omega))
        have hci1 : ¬ (c = best) := by omega
        have hkc : best ≤ c := by omega
        have hkl : best ≤ l.length := by omega
        clear hZ1 hZ2
        go_wp2
        refine wp_region_any (by kernel_rfl) ?_
        change wpAny _ _ _ _ _ _ _ (World.drew _)
        try simp only [Act.put, List.setIfInBounds_toArray, List.set_cons_zero, List.set_cons_succ]
        refine wpAny_take (oi := { dst := _, op := _, type := _, pos := _, after := _, guard := _ }) (i := 0) (v := ?_) rfl (by kernel_rfl) (by kernel_rfl) (by kernel_rfl) (fun _ _ _ h => h) (Or.inl ⟨by rfl, ?hy⟩) ?_
        case hy => (intro w; go_simp; try with_reducible rfl)
        try simp only [Act.put, List.setIfInBounds_toArray, List.set_cons_zero, List.set_cons_succ]
        try simp only [Act.put, List.setIfInBounds_toArray, List.set_cons_zero, List.set_cons_succ]
        refine wpAny_take (oi := { dst := _, op := _, type := _, pos := _, after := _, guard := _ }) (i := 1) (v := ?_) rfl (by kernel_rfl) (by kernel_rfl) (by kernel_rfl) (fun _ _ _ h => h) (Or.inl ⟨by rfl, ?hy⟩) ?_
        case hy => (intro w; go_simp; try with_reducible rfl)
        try simp only [Act.put, List.setIfInBounds_toArray, List.set_cons_zero, List.set_cons_succ]
        try simp only [Act.put, List.setIfInBounds_toArray, List.set_cons_zero, List.set_cons_succ]
        refine wpAny_take (oi := { dst := _, op := _, type := _, pos := _, after := _, guard := _ }) (i := 2) (v := ?_) rfl (by kernel_rfl) (by kernel_rfl) (by kernel_rfl) (fun _ _ _ h => h) (Or.inl ⟨by rfl, ?hy⟩) ?_
        case hy => (intro w; go_simp; try with_reducible rfl)
        try simp only [Act.put, List.setIfInBounds_toArray, List.set_cons_zero, List.set_cons_succ]
        try simp only [Act.put, List.setIfInBounds_toArray, List.set_cons_zero, List.set_cons_succ]
        refine wpAny_take (oi := { dst := _, op := _, type := _, pos := _, after := _, guard := _ }) (i := 4) (v := ?_) rfl (by kernel_rfl) (by kernel_rfl) (by kernel_rfl) (fun _ _ _ h => h) (Or.inl ⟨by rfl, ?hy⟩) ?_
        case hy => (intro w; go_simp; try with_reducible rfl)
        try simp only [Act.put, List.setIfInBounds_toArray, List.set_cons_zero, List.set_cons_succ]
        try simp only [Act.put, List.setIfInBounds_toArray, List.set_cons_zero, List.set_cons_succ]
        refine wpAny_take (oi := { dst := _, op := _, type := _, pos := _, after := _, guard := _ }) (i := 5) (v := ?_) rfl (by kernel_rfl) (by kernel_rfl) (by kernel_rfl) (fun _ _ _ h => h) (Or.inl ⟨by rfl, ?hy⟩) ?_
        case hy => (intro w; go_simp; try with_reducible rfl)
        try simp only [Act.put, List.setIfInBounds_toArray, List.set_cons_zero, List.set_cons_succ]
        try simp only [Act.put, List.setIfInBounds_toArray, List.set_cons_zero, List.set_cons_succ]
        refine wpAny_take (oi := { dst := _, op := _, type := _, pos := _, after := _, guard := _ }) (i := 6) (v := ?_) rfl (by kernel_rfl) (by kernel_rfl) (by kernel_rfl) (fun _ _ _ h => h) (Or.inl ⟨by rfl, ?hy⟩) ?_
        case hy => (intro w; go_simp; try with_reducible rfl)
        try simp only [Act.put, List.setIfInBounds_toArray, List.set_cons_zero, List.set_cons_succ]
        refine wpAny_ready (rs := [3]) (by kernel_rfl) (by simp) (AllReady.cons (o := { dst := _, op := _, type := _, pos := _, after := _, guard := _ }) rfl (fun K hK => ?_) AllReady.nil)
        go_simp
        (go_must (refine hC1.out.mono ?_); rintro e w1 ⟨v1, rfl, hown1, hb1⟩)
        go_simp
        refine hK _ _ ?_
        clear hK K
        refine wpAny_ready (rs := [7]) (by kernel_rfl) (by simp) (AllReady.cons (o := { dst := _, op := _, type := _, pos := _, after := _, guard := _ }) rfl (fun K hK => ?_) AllReady.nil)
        go_simp
        (go_must (refine (hC2.out _ hb1).mono ?_); rintro e w2 ⟨v2, rfl, hown2, hb2⟩)
        go_simp
        refine hK _ _ ?_
        clear hK K
        refine wpAny_ready (rs := [8]) (by kernel_rfl) (by simp) (AllReady.cons (o := { dst := _, op := _, type := _, pos := _, after := _, guard := _ }) rfl (fun K hK => ?_) AllReady.nil)
        go_simp
        refine hK _ _ ?_
        clear hK K
        refine wpAny_ready (rs := [9]) (by kernel_rfl) (by simp) (AllReady.cons (o := { dst := _, op := _, type := _, pos := _, after := _, guard := _ }) rfl (fun K hK => ?_) AllReady.nil)
        go_simp
        refine hK _ _ ?_
        clear hK K
        refine wpAny_done (by kernel_rfl) ?_ _
        have hz1 := hb1.size
        simp at hz1
        have hbw : Below w.heap.size w w2 := hb.drew.trans ((hb1.mono (by simp; omega)).trans (hb2.mono (by omega)))
        go_wp2
        go_ret2
        exact ⟨v1, v2, rfl, by rw [hS.out]; exact own_base (own_below hown1 hb2) (by simp; omega), by rw [hS.out]; exact own_base hown2 (by omega), hbw⟩
end Go.Ev
