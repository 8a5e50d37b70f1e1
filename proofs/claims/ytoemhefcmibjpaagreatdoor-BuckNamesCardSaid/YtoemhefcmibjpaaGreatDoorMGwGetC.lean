/-
  Children laid, or refused; how many bytes they have; copied; parted in two. Children are read from a branch's bytes, whatever they are.
-/
import Derived.Test.YtoemhefcmibjpaaGreatDoorMEvInsert
import Derived.Test.YtoemhefcmibjpaaGreatDoorMGwBranch2
import Derived.Test.YtoemhefcmibjpaaGreatDoorMGvGetC
set_option linter.unusedVariables false
set_option linter.unusedSimpArgs false
set_option linter.unusedVariables false
set_option linter.unusedSimpArgs false
namespace Go.Ev
open Go.Proofs Go.RowKit
structure ChildrenOk (l : List Child) : Prop where
 keys : ∀ x ∈ l, x.key.length ≤ 9223372036854775807
 nums : ∀ x ∈ l, I64 x.page
 len : (layC l).length ≤ 100000
 few : l.length ≤ 100000
def PutCPost (l : List Child) (w : World) (e : Ending) (w' : World) : Prop := e = .returned (.tuple #[strV (putC l).1, .int .i64 (putC l).2]) ∧ Below w.heap.size w w'
set_option maxHeartbeats 1000000 in
theorem putC_any (A : Option Addr) (n c : Nat) (l : List Child) (w : World) (hv : Sl w 2 (.slice A n c) n (childrenCs l)) (ho : ChildrenOk l) :
  Calls Tryz.prog 139 #[.slice A n c] w (PutCPost l w) := by
 have hn : n ≤ 100000 := by have := hv.len2; have := ho.few; omega
 have hR := fun W (h : Sl W 2 (.slice A n c) n (childrenCs l)) => rightC_any A n c l W h hn ho.keys
 have hLn := ho.len
 cases hr : rightC l
 ·have hp := Lib.hid (show putC l = ([], 1) by unfold putC; rw [if_pos hr])
  simp only [hr] at hR
  have HR := Lib.hid hR
  clear hR hr hLn
  go_enter Tryz.func139, Tryz.ntmps139
  go_wp2_with (go_at_call 177; go_must (refine (HR.out _ hv).mono ?_); rintro e w1 ⟨rfl, hb1⟩)
  go_ret2
  exact ⟨by rw [hp.out] <;> rfl, hb1⟩
 ·simp only [hr] at hR
  have HR := Lib.hid hR
  have hL := Lib.hid (fun W (h : Sl W 2 (.slice A n c) n (childrenCs l)) => layC_any A n c l W h ho.len hn ho.nums)
  by_cases h240 : 240 < (layC l).length
  ·have hp := Lib.hid (show putC l = ([], 2) by unfold putC; rw [if_neg (by simp [hr]), if_pos h240])
   have h240' : (240 : Int) < ((layC l).length : Int) := by omega
   clear hR hr h240
   go_enter Tryz.func139, Tryz.ntmps139
   go_wp2_with (first
    | (go_at_call 177; go_must (refine (HR.out _ hv).mono ?_); rintro e w1 ⟨rfl, hb1⟩)
    | (go_at_call 178; go_must (refine (hL.out _ (hv.below hb1)).mono ?_); rintro e w2 ⟨rfl, hb2⟩))
   go_ret2
   exact ⟨by rw [hp.out] <;> rfl, hb1.trans (hb2.mono hb1.size)⟩
  ·have hp := Lib.hid (show putC l = (layC l, 0) by unfold putC; rw [if_neg (by simp [hr]), if_neg h240])
   have h240' : ¬ (240 : Int) < ((layC l).length : Int) := by omega
   clear hR hr h240
   go_enter Tryz.func139, Tryz.ntmps139
   go_wp2_with (first
    | (go_at_call 177; go_must (refine (HR.out _ hv).mono ?_); rintro e w1 ⟨rfl, hb1⟩)
    | (go_at_call 178; go_must (refine (hL.out _ (hv.below hb1)).mono ?_); rintro e w2 ⟨rfl, hb2⟩))
   go_ret2
   exact ⟨by rw [hp.out] <;> rfl, hb1.trans (hb2.mono hb1.size)⟩
theorem sizeC_any (A : Option Addr) (n c : Nat) (l : List Child) (w : World) (hv : Sl w 2 (.slice A n c) n (childrenCs l)) (ho : ChildrenOk l) :
  Calls Tryz.prog 179 #[.slice A n c] w fun e w' => e = .returned (.int .i64 (layC l).length) ∧ Below w.heap.size w w' := by
 have hn : n ≤ 100000 := by have := hv.len2; have := ho.few; omega
 have hL := Lib.hid (layC_any A n c l w hv ho.len hn ho.nums)
 have hLn := ho.len
 go_enter Tryz.func179, Tryz.ntmps179
 go_wp2_with (go_at_call 178; go_must (refine hL.out.mono ?_); rintro e w2 ⟨rfl, hb2⟩)
 go_ret
 exact ⟨rfl, hb2⟩
set_option maxHeartbeats 2000000 in
theorem cloneC_any (A : Addr) (n c : Nat) (l : List Child) (w : World) (hv : Sl w 2 (.slice (some A) n c) n (childrenCs l)) (hn : n ≤ 100000) :
  Calls Tryz.prog 137 #[.slice (some A) n c] w fun e w' =>
   ∃ v', e = .returned v' ∧ w'.ownsRow w.heap.size 157 2 v' n (childrenCs l) ∧ Below w.heap.size w w' := by
 obtain ⟨i0, hi, hz0, hz1, hz2⟩ := info_parts (show (Tryz.prog.info? 157).map (fun i => (i.zero, i.size, i.bytes)) = some (some (.agg #[.string ⟨#[]⟩, .int .i64 0]), 2, 24) by kernel_rfl)
 have q22 : ∀ (w : World) (a : Option Addr) (n c n' c' : Nat), (binOp .eql 100 (.slice a n c) (.slice none n' c')).run Tryz.prog w = .ok (.bool a.isNone) w := fun w a n c n' c' => Lib.run_eql_slice_nil w _ 157 a n c n' c' Tryz.underlying100
 go_enter Tryz.func137, Tryz.ntmps137
 go_wp2_with (at_builtin; go_must (refine wpList_append_own _ rfl _ _ 100 rfl w.heap.size 157 i0 _ 2 24 Tryz.underlying100 hi hz0 hz1 hz2 rfl (by decide) _ _ _ rfl (World.ownsRow_made w #[] 0 (Nat.le_refl _) (Nat.zero_le _) rfl) A n c (childrenCs l) rfl ?c0 ?c1 ?c2 ?c3 ?c4 ?c5 ?_))
 case c0 =>
  obtain ⟨_, _, e0, h0, h1, h2⟩ := hv
  simpa using h1
 case c1 =>
  obtain ⟨_, _, e0, h0, h1, h2⟩ := hv
  intro j u hu
  have hj := (List.getElem?_eq_some_iff.1 hu).1
  obtain ⟨b, o, eA, h4, h5⟩ := h2 (by omega)
  simp only [Value.slice.injEq] at e0
  rw [← e0.1] at eA
  cases eA
  rw [Addr.add_lit]
  exact Lib.cell?_alloc_some _ (h5 j u hu)
 case c2 => exact childrenCs_one l
 case c3 => unfold maxLen; omega
 case c4 => omega
 case c5 => simp
 intro v' w1 hown hgrow hnil
 go_wp2
 go_ret
 exact ⟨v', rfl, by simpa using hown, ((Below.refl _ w).alloc (Nat.le_refl _) _).grown hgrow (by simp) (by intro k hk; simp [Value.ownBlock] at hk; omega)⟩
theorem cloneC_nil (c : Nat) (w : World) :
  Calls Tryz.prog 137 #[.slice none 0 c] w fun e w' => e = .returned (.slice none 0 0) ∧ Below w.heap.size w w' := by
 have q22 : ∀ (w : World) (a : Option Addr) (n c n' c' : Nat), (binOp .eql 100 (.slice a n c) (.slice none n' c')).run Tryz.prog w = .ok (.bool a.isNone) w := fun w a n c n' c' => Lib.run_eql_slice_nil w _ 157 a n c n' c' Tryz.underlying100
 go_enter Tryz.func137, Tryz.ntmps137
 go_wp2
 go_ret
 exact ⟨rfl, Below.refl _ _⟩
def OwnCPost (l : List Child) (w : World) (e : Ending) (w' : World) : Prop := ∃ v', e = .returned v' ∧ w'.ownsRow w.heap.size 157 2 v' l.length (childrenCs l) ∧ Below w.heap.size w w'
theorem cloneC_all (A : Option Addr) (n c : Nat) (l : List Child) (w : World) (hv : Sl w 2 (.slice A n c) n (childrenCs l)) (hn : n ≤ 100000) :
  Calls Tryz.prog 137 #[.slice A n c] w (OwnCPost l w) := by
 have hl := hv.len2
 cases A with
 | none =>
  obtain ⟨A', c', e0, h0, h1, h2⟩ := hv
  cases e0
  have h0 : n = 0 := by
   by_cases h : 0 < n
   ·obtain ⟨_, _, e, _⟩ := h2 h; cases e
   ·omega
  subst h0
  have : l = [] := List.eq_nil_of_length_eq_zero hl
  subst this
  exact (cloneC_nil c w).mono fun e w' ⟨he, hb⟩ => ⟨_, he, World.ownsRow_nil _ _ _ _, hb⟩
 | some A => exact (cloneC_any A n c l w hv hn).mono fun e w' ⟨v', he, ho, hb⟩ => ⟨v', he, by rw [hl]; exact ho, hb⟩
theorem ChildrenOk.take {l : List Child} (h : ChildrenOk l) (i : Nat) : ChildrenOk (l.take i) :=
 ⟨fun x hx => h.keys x (List.mem_of_mem_take hx), fun x hx => h.nums x (List.mem_of_mem_take hx), Nat.le_trans (layC_le l i) h.len, by have := h.few; rw [List.length_take]; omega⟩
theorem ChildrenOk.drop {l : List Child} (h : ChildrenOk l) (i : Nat) : ChildrenOk (l.drop i) := by
 refine ⟨fun x hx => h.keys x (List.mem_of_mem_drop hx), fun x hx => h.nums x (List.mem_of_mem_drop hx), ?_, by have := h.few; rw [List.length_drop]; omega⟩
 have := h.len
 rw [← List.take_append_drop i l, layC_append, List.length_append] at this
 omega
def SplitCPost (l : List Child) (w : World) (e : Ending) (w' : World) : Prop :=
 ∃ v1 v2, e = .returned (.tuple #[v1, v2]) ∧ w'.ownsRow w.heap.size 157 2 v1 (splitC l).1.length (childrenCs (splitC l).1) ∧ w'.ownsRow w.heap.size 157 2 v2 (splitC l).2.length (childrenCs (splitC l).2) ∧ Below w.heap.size w w'
set_option maxHeartbeats 1000000 in
set_option maxRecDepth 100000 in
theorem splitC_any (A : Option Addr) (n c : Nat) (l : List Child) (w : World) (hv : Sl w 2 (.slice A n c) n (childrenCs l)) (ho : ChildrenOk l) (hn : n ≤ 90000) :
  Calls Tryz.prog 140 #[.slice A n c] w (SplitCPost l w) := by
 have hl := hv.len2
 subst hl
 by_cases h2 : l.length < 2
 ·have hC := Lib.hid (cloneC_all A _ c l w hv (by omega))
  have hS := Lib.hid (show splitC l = (l, []) by unfold splitC; rw [if_pos h2])
  go_enter Tryz.func140, Tryz.ntmps140
  go_wp2_with (fail)
  go_must (refine hC.out.mono ?_)
  rintro e w1 ⟨v', rfl, hown, hb1⟩
  go_wp2_with (fail)
  go_ret2
  exact ⟨v', _, rfl, by rw [hS.out]; exact hown, by rw [hS.out]; exact World.ownsRow_nil _ _ _ _, hb1⟩
 ·have hS := Lib.hid (show splitC l = (l.take (bestAt (costC l) l.length), l.drop (bestAt (costC l) l.length)) by unfold splitC; rw [if_neg h2])
  have h2' : ¬ (l.length : Int) < 2 := by omega
  obtain ⟨A', c', e0, h0, h1, hA⟩ := id hv
  cases e0
  obtain ⟨blk, off, rfl, hbl, hcell⟩ := hA (by omega)
  clear hA h1 hcell
  have hbest := Lib.hid (bestAt_spec (costC l) (show 2 ≤ l.length by omega))
  have hZ1 := Lib.hid (fun i W h => sizeC_any (some ⟨blk, off, none⟩) i c (l.take i) W h (ho.take i))
  have hZ2 := Lib.hid (fun i W h => sizeC_any (some ⟨blk, off + i * 2, none⟩) (l.length - i) (c - i) (l.drop i) W h (ho.drop i))
  go_enter Tryz.func140, Tryz.ntmps140
  go_wp2_with (fail)
  go_loopg [4, 5, 6] l.length (fun g s4 s5 s6 wr => ∃ best k sz : Nat, s4 = .int .i64 best ∧ s5 = .int .i64 sz ∧ s6 = .int .i64 k ∧ 1 ≤ k ∧ k ≤ l.length ∧ l.length - k ≤ g ∧ best < k ∧ (best ≠ 0 → sz = costC l best) ∧ sz ≤ 100000 ∧ Hid (bestFrom (costC l) (l.length - k) k best = bestAt (costC l) l.length) ∧ Below w.heap.size w wr)
  case atStart => exact ⟨0, 1, 0, rfl, rfl, rfl, by omega, by omega, by omega, by omega, by simp, by omega, rfl, Below.refl _ _⟩
  case round =>
   obtain ⟨best, k, sz, rfl, rfl, rfl, hk1, hk2, hg, hbk, hsz, hszb, hI, hb⟩ := hrel
   have hz := hb.size
   by_cases hlt : k < l.length
   ·have hst := Lib.hid (bestFrom_step (costC l) (best := best) hlt)
    have hvw := hv.below (hb.mono (Nat.le_refl _))
    have q1 := hZ1.out k _ (by rw [← childrenCs_take]; exact Sl.take hvw.drew (by omega))
    have q2 := fun W (h : Below wr.heap.size wr.drew W) => hZ2.out k W (by rw [← childrenCs_drop]; exact Sl.drop (Sl.below hvw.drew h) (by omega))
    have Q1 := Lib.hid q1
    have Q2 := Lib.hid q2
    clear q1 q2
    have hci1 : ¬ (c = k) := by omega
    have hkc : k ≤ c := by omega
    have hkl : k ≤ l.length := by omega
    have hkk : (0 : Int) ≤ (k : Int) ∧ (k : Int) ≤ (l.length : Int) := by omega
    obtain ⟨hkk1, hkk2⟩ := hkk
    go_wp2
    refine wp_region_any (by kernel_rfl) ?_
    change wpAny _ _ _ _ _ _ _ (World.drew _)
    try simp only [Act.put, lT, l0, lS]
    refine tA 0 ?_; try simp only [Act.put, lT, l0, lS]
    refine tA 1 ?_; try simp only [Act.put, lT, l0, lS]
    refine tA 2 ?_; try simp only [Act.put, lT, l0, lS]
    refine tA 4 ?_; try simp only [Act.put, lT, l0, lS]
    refine tA 5 ?_; try simp only [Act.put, lT, l0, lS]
    refine tA 6 ?_; try simp only [Act.put, lT, l0, lS]
    refine rd 3 (by kernel_rfl) rfl (fun K hK => ?_); go_simp
    (go_must (refine Q1.out.mono ?_); rintro e w1 ⟨rfl, hb1⟩)
    go_simp
    refine hK _ _ ?_
    clear hK K
    refine rd 7 (by kernel_rfl) rfl (fun K hK => ?_); go_simp
    (go_must (refine (Q2.out _ hb1).mono ?_); rintro e w2 ⟨rfl, hb2⟩)
    go_simp
    refine hK _ _ ?_
    clear hK K
    refine rd 8 (by kernel_rfl) rfl (fun K hK => ?_); go_simp; refine hK _ _ ?_; clear hK K
    refine rd 9 (by kernel_rfl) rfl (fun K hK => ?_); go_simp; refine hK _ _ ?_; clear hK K
    refine wpAny_done (by kernel_rfl) ?_ _
    have hmx : max ((List.length (layC (List.take k l)) : Nat) : Int) (List.length (layC (List.drop k l)) : Nat) = ((costC l k : Nat) : Int) := by unfold costC; omega
    have hcb : costC l k ≤ 100000 := by
     have h1 := (ho.take k).len
     have h2 := (ho.drop k).len
     unfold costC
     omega
    rw [hmx]
    have hbw : Below w.heap.size w w2 := hb.drew.trans ((hb1.mono (by simp; omega)).trans (hb2.mono (by have := hb1.size; simp at this; omega)))
    clear hmx Q1 Q2 hZ1 hZ2
    by_cases hb0 : best = 0
    ·have e1 : ((best : Int) == 0) = true := by simp [hb0]
     have hI2 := Lib.hid (hst.out.symm.trans hI)
     rw [if_pos (.inl hb0)] at hI2
     clear hst hI hsz hb0
     go_wp2
     go_roundg (l.length - (k + 1))
     case measure => omega
     case rel => exact ⟨k, k + 1, costC l k, rfl, rfl, by go_num, by omega, by omega, by omega, by omega, fun _ => rfl, hcb, hI2, hbw⟩
    ·have e1 : ((best : Int) == 0) = false := by simpa using hb0
     have hs0 := hsz hb0
     by_cases hcl : costC l k < sz
     ·have hI2 := Lib.hid (hst.out.symm.trans hI)
      rw [if_pos (.inr (by omega))] at hI2
      have hcl' : ((costC l k : Nat) : Int) < (sz : Int) := by omega
      clear hst hI hsz hb0 hs0 hcl
      go_wp2
      go_roundg (l.length - (k + 1))
      case measure => omega
      case rel => exact ⟨k, k + 1, costC l k, rfl, rfl, by go_num, by omega, by omega, by omega, by omega, fun _ => rfl, hcb, hI2, hbw⟩
     ·have hI2 := Lib.hid (hst.out.symm.trans hI)
      rw [if_neg (by rw [← hs0]; intro h; rcases h with h | h; exact hb0 h; exact hcl h)] at hI2
      have hcl' : ¬ ((costC l k : Nat) : Int) < (sz : Int) := by omega
      have HS0 := Lib.hid hsz
      clear hst hI hsz hb0 hs0 hcl
      go_wp2
      go_roundg (l.length - (k + 1))
      case measure => omega
      case rel => exact ⟨best, k + 1, sz, rfl, rfl, by go_num, by omega, by omega, by omega, by omega, HS0.out, hszb, hI2, hbw⟩
   ·obtain rfl : k = l.length := by omega
    have hbe : best = bestAt (costC l) l.length := (bestFrom_end _ _ _).symm.trans hI.out
    have hbs := hbest.out
    rw [← hbe] at hS hbs
    obtain ⟨hb1', hb2', _⟩ := hbs
    clear hbe hI hsz hbest hg
    have hvw := hv.below hb
    have hC1 := Lib.hid (cloneC_all (some ⟨blk, off, none⟩) best c (l.take best) wr.drew (by rw [← childrenCs_take]; exact Sl.take hvw.drew (by omega)) (by omega))
    have hC2 := Lib.hid (fun W (h : Below wr.heap.size wr.drew W) => cloneC_all (some ⟨blk, off + best * 2, none⟩) (l.length - best) (c - best) (l.drop best) W (by rw [← childrenCs_drop]; exact Sl.drop (Sl.below hvw.drew h) (by omega)) (by omega))
    have hci1 : ¬ (c = best) := by omega
    have hkc : best ≤ c := by omega
    have hkl : best ≤ l.length := by omega
    clear hZ1 hZ2
    go_wp2
    refine wp_region_any (by kernel_rfl) ?_
    change wpAny _ _ _ _ _ _ _ (World.drew _)
    try simp only [Act.put, lT, l0, lS]
    refine tA 0 ?_; try simp only [Act.put, lT, l0, lS]
    refine tA 1 ?_; try simp only [Act.put, lT, l0, lS]
    refine tA 2 ?_; try simp only [Act.put, lT, l0, lS]
    refine tA 4 ?_; try simp only [Act.put, lT, l0, lS]
    refine tA 5 ?_; try simp only [Act.put, lT, l0, lS]
    refine tA 6 ?_; try simp only [Act.put, lT, l0, lS]
    refine rd 3 (by kernel_rfl) rfl (fun K hK => ?_); go_simp
    (go_must (refine hC1.out.mono ?_); rintro e w1 ⟨v1, rfl, hown1, hb1⟩)
    go_simp
    refine hK _ _ ?_
    clear hK K
    refine rd 7 (by kernel_rfl) rfl (fun K hK => ?_); go_simp
    (go_must (refine (hC2.out _ hb1).mono ?_); rintro e w2 ⟨v2, rfl, hown2, hb2⟩)
    go_simp
    refine hK _ _ ?_
    clear hK K
    refine rd 8 (by kernel_rfl) rfl (fun K hK => ?_); go_simp; refine hK _ _ ?_; clear hK K
    refine rd 9 (by kernel_rfl) rfl (fun K hK => ?_); go_simp; refine hK _ _ ?_; clear hK K
    refine wpAny_done (by kernel_rfl) ?_ _
    have hz1 := hb1.size
    simp at hz1
    have hbw : Below w.heap.size w w2 := hb.drew.trans ((hb1.mono (by simp; omega)).trans (hb2.mono (by omega)))
    go_wp2
    go_ret2
    exact ⟨v1, v2, rfl, by rw [hS.out]; exact own_base (own_below hown1 hb2) (by simp; omega), by rw [hS.out]; exact own_base hown2 (by omega), hbw⟩
end Go.Ev

set_option linter.unusedVariables false
set_option linter.unusedSimpArgs false
namespace Go.Ev
open Go.Proofs Go.RowKit
def GetCRel (b : Bytes) (w : World) (r : Nat) (g : Nat) (v : Value) (wr : World) : Prop := ∃ (R : Rd) (acc : List Child),
 Rd.children ⟨b, 0⟩ = (acc ++ R.children.1, R.children.2) ∧ RdAt wr r R ∧ wr.ownsRow w.heap.size 157 2 v acc.length (childrenCs acc) ∧ Below w.heap.size w wr ∧
 (if R.e = 0 then R.b.length + 1 else 0) ≤ g ∧ (∀ x ∈ acc, x.short) ∧ acc.length + (if R.e = 0 then R.b.length + 1 else 0) ≤ b.length + 1
def GetCPost (b : Bytes) (w : World) (e : Ending) (w' : World) : Prop := ∃ v, e = .returned (.tuple #[v, .int .i64 (getC b).2]) ∧ w'.ownsRow w.heap.size 157 2 v (getC b).1.length (childrenCs (getC b).1) ∧ Below w.heap.size w w'
theorem childrenOk_short {l : List Child} (h : ∀ x ∈ l, x.short) (hl : l.length ≤ 400) : ChildrenOk l := by
 have := layC_short h
 exact ⟨fun x hx => by have := (h x hx).1; omega, fun x hx => (h x hx).2, by omega, by omega⟩
theorem getCRel_step {b : Bytes} {w : World} {r : Nat} {R R3 : Rd} {acc : List Child} {x : Child} {v : Value} {w7 : World}
  (hI : Rd.children ⟨b, 0⟩ = (acc ++ R.children.1, R.children.2)) (hS : R.children = (R.child.1 :: R.child.2.children.1, R.child.2.children.2)) (hx : R.child = (x, R3))
  (hsh : ∀ y ∈ acc, y.short) (hs : R.child.1.short) (hle : R.child.2.b.length ≤ R.b.length) (hst : R.child.2.e = 0 → R.child.2.b.length < R.b.length)
  (hlen : acc.length + (R.b.length + 1) ≤ b.length + 1) (hR : RdAt w7 r R3)
  (hown : w7.ownsRow w.heap.size 157 2 v (acc ++ [x]).length (childrenCs (acc ++ [x]))) (hbw : Below w.heap.size w w7) :
  (if R3.e = 0 then R3.b.length + 1 else 0) < R.b.length + 1 ∧ GetCRel b w r (if R3.e = 0 then R3.b.length + 1 else 0) v w7 := by
 rw [hx] at hS hs hle hst
 dsimp only at hS hs hle hst
 have hlt : (if R3.e = 0 then R3.b.length + 1 else 0) < R.b.length + 1 := by
  split
  ·have := hst (by assumption); omega
  ·omega
 refine ⟨hlt, R3, acc ++ [x], ?_, hR, hown, hbw, Nat.le_refl _, ?_, ?_⟩
 ·rw [hI, hS]; simp
 ·intro y hy
  rcases List.mem_append.1 hy with h | h
  ·exact hsh y h
  ·rw [List.mem_singleton.1 h]; exact hs
 ·rw [List.length_append, List.length_singleton]; omega
set_option maxHeartbeats 2000000 in
set_option maxRecDepth 100000 in
theorem getC_any (b : Bytes) (w : World) (hb : b.length ≤ 300) :
  Calls Tryz.prog 168 #[.string ⟨b.toArray⟩] w (GetCPost b w) := by
 obtain ⟨i0, hi, hz0, hz1, hz2⟩ := info_parts (show (Tryz.prog.info? 157).map (fun i => (i.zero, i.size, i.bytes)) = some (some (.agg #[.string ⟨#[]⟩, .int .i64 0]), 2, 24) by kernel_rfl)
 go_enter Tryz.func168, Tryz.ntmps168
 go_wp2_with (go_at_call 199; go_must (refine (newReader_any b _ (by omega)).mono ?_); rintro e w1 ⟨r, rfl, hr, hrw, hb1⟩)
 go_loopg [4] (b.length + 1) (fun g v wr => GetCRel b w r g v wr)
 case atStart => exact ⟨⟨b, 0⟩, [], rfl, hr, World.ownsRow_nil _ _ _ _, hb1, by simp, by simp, by simp⟩
 case round =>
  obtain ⟨R, acc, hI, hR, hown, hbw, hg, hsh, hlen⟩ := hrel
  have HI := Lib.hid hI
  clear hI
  by_cases hc : R.e = 0 ∧ R.b ≠ []
  ·have hE1 : (R.end != 0) = true := by simp [Rd.end, hc.1, hc.2]
   have hE2 : (R.e == 0) = true := by simp [hc.1]
   have HS := Lib.hid (Rd.children_step hc)
   have hsz : R.b.length + 1 ≤ gk ∧ acc.length + (R.b.length + 1) ≤ b.length + 1 := by rw [if_pos hc.1] at hg hlen; exact ⟨hg, hlen⟩
   have hshort := Rd.child_ok R
   have hle := Lib.hid (Rd.child_le R)
   have hst := Lib.hid (@Rd.child_short R)
   have hun : Hid (R.child = ({ key := (R.text 40).1, page := (R.text 40).2.var.1 }, (R.text 40).2.var.2)) := by
    show _ = _
    unfold Rd.child
    rfl
   clear hc hg hlen
   have hT := fun W h => text_any r R 40 W h
   generalize R.text 40 = q1 at hun hT
   obtain ⟨key, R1⟩ := q1
   dsimp only at hun hT
   have hV1 := fun W h => var_any r R1 W h
   generalize R1.var = q3 at hun hV1
   obtain ⟨pg, R3⟩ := q3
   dsimp only at hun hV1
   have HT := Lib.hid hT
   have HV1 := Lib.hid hV1
   clear hT hV1
   have hx := hun
   clear hun
   go_wp2_with (first
    | (go_at_call 200; go_must (refine (end_any _ _ _ hR).mono ?_); rintro e w2 ⟨rfl, rfl⟩)
    | (go_at_call 201; go_must (refine (err_any _ _ _ hR).mono ?_); rintro e w2 ⟨rfl, rfl⟩))
   go_must (refine (HT.out _ hR).mono ?_)
   rintro e w3 ⟨rfl, hR1, K3⟩
   have hown3 := own_keeps hown K3 (own_ne hown hR.1 (by decide))
   have hbw3 : Below w.heap.size w w3 := hbw.trans (K3.below hbw.size (fun i hi h => by omega))
   go_wp2_with (fail)
   go_must (refine (HV1.out _ hR1).mono ?_)
   rintro e w4 ⟨rfl, hR3, K4⟩
   have hown4 := own_keeps hown3 K4 (own_ne hown3 hR1.1 (by decide))
   have hbw4 : Below w.heap.size w w4 := hbw3.trans (K4.below hbw3.size (fun i hi h => by omega))
   have hl4 := hbw4.size
   go_wp2_with (at_builtin; go_must (refine wpList_append_own _ rfl _ _ 100 rfl w.heap.size 157 i0 _ 2 24 Tryz.underlying100 hi hz0 hz1 hz2 rfl (by decide) _ _ _ rfl (hown4.alloc _) ⟨w4.heap.size, 0, none⟩ 1 1 (childCs { key := key, page := pg }) rfl rfl ?c1 ?c2 ?c3 ?c4 ?c5 ?_))
   case c1 => exact row_newI _ (childCs { key := key, page := pg }) _ _ rfl
   case c2 => simp [childCs, Value.oneCell', strV]
   case c3 => unfold maxLen; omega
   case c4 => omega
   case c5 => simp; omega
   intro v' w7 hown7 hgrow _
   have hown7' : w7.ownsRow w.heap.size 157 2 v' (acc ++ [({ key := key, page := pg } : Child)]).length (childrenCs (acc ++ [{ key := key, page := pg }])) := by
    rw [childrenCs_snoc, List.length_append]
    exact hown7
   have K7 : Keeps (fun k => _ = some k) _ w7 := (Keeps.refl (fun k => _ = some k) _).grown hgrow (fun k hk _ => hk)
   have hR7 : RdAt w7 r R3 := ⟨(hR3.1.alloc _).keeps K7 (fun hk => own_ne hown4 hR3.1 (by decide) r hk rfl), hR3.2⟩
   have hbw7 : Below w.heap.size w w7 := (hbw4.alloc hbw4.size _).trans (K7.below (by simp; omega) (fun i hi hk => by have := (hown4.lt i hk).1; omega))
   have hend := getCRel_step HI.out HS.out hx.out hsh hshort hle.out hst.out hsz.2 hR7 hown7' hbw7
   go_wp2_with (fail)
   go_roundg (if R3.e = 0 then R3.b.length + 1 else 0)
   case measure => exact Nat.lt_of_lt_of_le hend.1 hsz.1
   case rel => exact hend.2
  ·have hI' : Rd.children ⟨b, 0⟩ = (acc, R) := by rw [HI.out, Rd.children_end hc]; simp
   clear HI
   have HI := Lib.hid hI'
   clear hI'
   have hIt : ChildrenOk acc := childrenOk_short hsh (by omega)
   have hSl := Sl.of_own hown
   obtain ⟨A, c, hv, _⟩ := hSl
   subst hv
   have hSl := Sl.of_own hown
   have hP := fun W h => putC_any A acc.length c acc W h hIt
   have hG := Lib.hid (show getC b = if R.e ≠ 0 ∨ (putC acc).2 ≠ 0 ∨ (putC acc).1 ≠ b then ([], 4) else (acc, 0) by unfold getC; rw [HI.out])
   unfold PutCPost at hP
   generalize putC acc = q at hP hG
   obtain ⟨back, pe⟩ := q
   dsimp only at hP hG
   have HP := Lib.hid hP
   clear hP HI hIt hlen hg hsh
   by_cases he : R.e = 0
   ·have hE1 : (R.end != 0) = false := by have : R.b = [] := Classical.byContradiction fun h => hc ⟨he, h⟩; simp [Rd.end, he, this]
    have hE3 : (R.e != 0) = false := by simp [he]
    clear he hc
    go_wp2_with (go_at_call 200; go_must (refine (end_any _ _ _ hR).mono ?_); rintro e w2 ⟨rfl, rfl⟩)
    go_must (refine (HP.out _ hSl).mono ?_)
    rintro e w3 ⟨rfl, hb3⟩
    have hR3 : RdAt w3 r R := ⟨hR.1.below' hb3, hR.2⟩
    have hown3 := own_keeps hown (Keeps.of_below (S := fun _ => False) hb3) (fun _ _ h => h)
    have hbw3 := hbw.trans ((Keeps.of_below (S := fun _ => False) hb3).below hbw.size (fun _ _ h => h))
    cases hp : (pe != 0)
    ·have hp0 : pe = 0 := by simpa using hp
     by_cases hk : back = b
     ·have hG' : getC b = (acc, 0) := hG.out.trans (if_neg (by simp [hp0, hk]; simpa using hE3))
      have hkb : (!back == b) = false := by simp [hk]
      clear hk hp0
      go_wp2_with (go_at_call 201; go_must (refine (err_any _ _ _ hR3).mono ?_); rintro e w4 ⟨rfl, rfl⟩)
      go_ret2
      exact ⟨_, by rw [hG'] <;> rfl, by rw [hG']; exact hown3, hbw3⟩
     ·have hG' : getC b = ([], 4) := hG.out.trans (if_pos (.inr (.inr hk)))
      have hkb : (!back == b) = true := by simp [hk]
      clear hk hp0
      go_wp2_with (go_at_call 201; go_must (refine (err_any _ _ _ hR3).mono ?_); rintro e w4 ⟨rfl, rfl⟩)
      go_ret2
      exact ⟨_, by rw [hG'] <;> rfl, by rw [hG']; exact World.ownsRow_nil _ _ _ _, hbw3⟩
    ·have hG' : getC b = ([], 4) := hG.out.trans (if_pos (.inr (.inl (by simpa using hp))))
     go_wp2_with (go_at_call 201; go_must (refine (err_any _ _ _ hR3).mono ?_); rintro e w4 ⟨rfl, rfl⟩)
     go_ret2
     exact ⟨_, by rw [hG'] <;> rfl, by rw [hG']; exact World.ownsRow_nil _ _ _ _, hbw3⟩
   ·have hE1 : (R.end != 0) = true := by simp [Rd.end, he]
    have hE2 : (R.e == 0) = false := by simp [he]
    have hE3 : (R.e != 0) = true := by simp [he]
    have hG' : getC b = ([], 4) := hG.out.trans (if_pos (.inl he))
    clear he hc
    go_wp2_with (first
     | (go_at_call 200; go_must (refine (end_any _ _ _ hR).mono ?_); rintro e w2 ⟨rfl, rfl⟩)
     | (go_at_call 201; go_must (refine (err_any _ _ _ hR).mono ?_); rintro e w2 ⟨rfl, rfl⟩))
    go_must (refine (HP.out _ hSl).mono ?_)
    rintro e w3 ⟨rfl, hb3⟩
    have hR3 : RdAt w3 r R := ⟨hR.1.below' hb3, hR.2⟩
    have hbw3 := hbw.trans ((Keeps.of_below (S := fun _ => False) hb3).below hbw.size (fun _ _ h => h))
    go_wp2_with (go_at_call 201; go_must (refine (err_any _ _ _ hR3).mono ?_); rintro e w4 ⟨rfl, rfl⟩)
    go_ret2
    exact ⟨_, by rw [hG'] <;> rfl, by rw [hG']; exact World.ownsRow_nil _ _ _ _, hbw3⟩
end Go.Ev
