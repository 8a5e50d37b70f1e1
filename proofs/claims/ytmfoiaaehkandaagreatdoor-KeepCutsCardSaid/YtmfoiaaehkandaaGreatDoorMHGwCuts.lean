/-
  Texts of this claim.
-/
import Derived.Test.YtmfoiaaehkandaaGreatDoorMHGwAlive19
import Derived.Test.YtmfoiaaehkandaaGreatDoorMHGwSameE
import Derived.Test.YtmfoiaaehkandaaGreatDoorMHGwSmall16
set_option linter.unusedVariables false
set_option linter.unusedSimpArgs false
namespace Go.Ev
open Go.Proofs Go.RowKit
def numE : Nat → List LogE
 | 0 => []
 | i + 1 => numE i ++ [⟨((i + 1 : Nat) : Int), 1, 0, []⟩]
def moreE (k : Nat) (l : List LogE) : Nat → List LogE
 | 0 => []
 | i + 1 => moreE k l i ++ [⟨((k + i + 1 : Nat) : Int), 2, (l.getD i ⟨0, 0, 0, []⟩).kind, (l.getD i ⟨0, 0, 0, []⟩).data⟩]
theorem i64_one : I64 1 := ⟨by omega, by omega⟩
theorem i64_two : I64 2 := ⟨by omega, by omega⟩
theorem numE_len : ∀ i, (numE i).length = i
 | 0 => rfl
 | i + 1 => by simp [numE, numE_len i]
theorem moreE_len (k : Nat) (l : List LogE) : ∀ i, (moreE k l i).length = i
 | 0 => rfl
 | i + 1 => by simp [moreE, moreE_len k l i]
theorem numE_take : ∀ {i k : Nat}, k ≤ i → (numE i).take k = numE k
 | 0, k, h => by
  have : k = 0 := by omega
  subst this
  rfl
 | i + 1, k, h => by
  rcases Nat.lt_or_ge i k with h1 | h1
  ·have : k = i + 1 := by omega
   subst this
   exact List.take_of_length_le (by rw [numE_len]; omega)
  ·rw [show numE (i + 1) = numE i ++ [⟨((i + 1 : Nat) : Int), 1, 0, []⟩] from rfl, List.take_append_of_le_length (by rw [numE_len]; exact h1)]
   exact numE_take h1
theorem numE_follow : ∀ i, Follow 0 (numE i)
 | 0 => trivial
 | i + 1 => (numE_follow i).app (by rw [numE_len]; exact ⟨by simp, trivial⟩)
theorem moreE_follow (k : Nat) (l : List LogE) : ∀ i, Follow k (moreE k l i)
 | 0 => trivial
 | i + 1 => (moreE_follow k l i).app (by rw [moreE_len]; exact ⟨rfl, trivial⟩)
theorem numE_mem : ∀ {i : Nat} {o : LogE}, i ≤ 1000 → o ∈ numE i → EntOk o ∧ o.data.length ≤ 1000 ∧ o.term = 1
 | 0, o, _, h => by cases h
 | i + 1, o, hi, h => by
  rcases List.mem_append.1 h with h | h
  ·exact numE_mem (by omega) h
  ·simp only [List.mem_cons, List.not_mem_nil, or_false] at h
   subst h
   exact ⟨⟨⟨by show _ ≤ ((i + 1 : Nat) : Int); omega, by show ((i + 1 : Nat) : Int) ≤ _; omega⟩, i64_one, i64_zero, Nat.zero_le _⟩, Nat.zero_le _, rfl⟩
theorem moreE_mem {k : Nat} {l : List LogE} (hk : k ≤ 1000) (hl : ∀ o ∈ l, I64 o.kind) : ∀ {i : Nat} {o : LogE}, i ≤ 1000 → (∀ j, j < i → (l.getD j ⟨0, 0, 0, []⟩).data.length ≤ 900) → o ∈ moreE k l i → EntOk o ∧ o.data.length ≤ 1000 ∧ o.term = 2
 | 0, o, _, _, h => by cases h
 | i + 1, o, hi, hd, h => by
  rcases List.mem_append.1 h with h | h
  ·exact moreE_mem hk hl (by omega) (fun j hj => hd j (by omega)) h
  ·simp only [List.mem_cons, List.not_mem_nil, or_false] at h
   subst h
   have h1 := hd i (by omega)
   refine ⟨⟨⟨by show _ ≤ ((k + i + 1 : Nat) : Int); omega, by show ((k + i + 1 : Nat) : Int) ≤ _; omega⟩, i64_two, ?_, Nat.le_trans h1 (by omega)⟩, Nat.le_trans h1 (by omega), rfl⟩
   show I64 (l.getD i ⟨0, 0, 0, []⟩).kind
   rw [List.getD_eq_getElem?_getD]
   cases hg : l[i]? with
   | none => exact i64_zero
   | some x => exact hl x (List.mem_of_getElem? hg)
def TermsUp : Int → List LogE → Prop
 | _, [] => True
 | u, o :: l => u ≤ o.term ∧ TermsUp o.term l
theorem followT_of : ∀ {es : List LogE} {b : Nat} {u : Int}, Follow b es → TermsUp u es → FollowT (b : Int) u es
 | [], _, _, _, _ => trivial
 | o :: l, b, u, h, h2 => ⟨by rw [h.1]; simp, h2.1, by rw [h.1]; exact followT_of h.2 h2.2⟩
theorem termsUp_const {t : Int} : ∀ {B : List LogE} {u : Int}, (∀ o ∈ B, o.term = t) → u ≤ t → TermsUp u B
 | [], _, _, _ => trivial
 | o :: l, u, h, hu => by
  have h1 := h o (List.mem_cons_self ..)
  exact ⟨by omega, termsUp_const (t := t) (fun x hx => h x (List.mem_cons_of_mem _ hx)) (by omega)⟩
theorem termsUp_app {s t : Int} (hst : s ≤ t) : ∀ {A B : List LogE} {u : Int}, (∀ o ∈ A, o.term = s) → (∀ o ∈ B, o.term = t) → u ≤ s → TermsUp u (A ++ B)
 | [], B, u, _, h, hu => termsUp_const h (by omega)
 | o :: l, B, u, h1, h2, hu => by
  have h3 := h1 o (List.mem_cons_self ..)
  exact ⟨by omega, termsUp_app hst (fun x hx => h1 x (List.mem_cons_of_mem _ hx)) h2 (by omega)⟩
theorem batchC1 {N : Nat} (hN : N ≤ 30) : BatchOk 0 0 [] 0 0 0 (some 0) (numE N) none 0 := by
 have hz : I64 0 := ⟨by omega, by omega⟩
 refine ⟨⟨hz, hz, hz⟩, hz, lg_few trivial (by simp) (fun o h => by cases h) (by omega) (by omega), (fun s e => by cases e), (fun k e => by cases e; exact Nat.le_refl _), ?_, fun o h => (numE_mem (by omega) h).1⟩
 exact lg_few (numE_follow N) (by show (numE N).length ≤ 70; rw [numE_len]; omega) (fun o h => ⟨(numE_mem (by omega) h).1, (numE_mem (by omega) h).2.1⟩) (by decide) (by rw [numE_len]; omega)
theorem cutC {N k M : Nat} {l : List LogE} (hN : N ≤ 30) (hk : k ≤ N) (hM : M ≤ 10) (hl : ∀ o ∈ l, I64 o.kind) (hd : ∀ j, j < M → (l.getD j ⟨0, 0, 0, []⟩).data.length ≤ 900) : (∀ o ∈ numE k ++ moreE k l M, EntOk o ∧ o.data.length ≤ 1000) ∧ Follow 0 (numE k ++ moreE k l M) ∧ (numE k ++ moreE k l M).length = k + M ∧ TermsUp 0 (numE k ++ moreE k l M) := by
 refine ⟨fun o ho => ?_, (numE_follow k).app (by rw [numE_len, Nat.zero_add]; exact moreE_follow k l M), by simp [numE_len, moreE_len], termsUp_app (s := 1) (t := 2) (by omega) (fun o ho => (numE_mem (by omega) ho).2.2) (fun o ho => (moreE_mem (by omega) hl (by omega) hd ho).2.2) (by omega)⟩
 rcases List.mem_append.1 ho with h | h
 ·exact ⟨(numE_mem (by omega) h).1, (numE_mem (by omega) h).2.1⟩
 ·exact ⟨(moreE_mem (by omega) hl (by omega) hd h).1, (moreE_mem (by omega) hl (by omega) hd h).2.1⟩
theorem batchC2 {N k M : Nat} {l : List LogE} (hN : N ≤ 30) (hk : k ≤ N) (hM : M ≤ 10) (hl : ∀ o ∈ l, I64 o.kind) (hd : ∀ j, j < M → (l.getD j ⟨0, 0, 0, []⟩).data.length ≤ 900) : BatchOk 0 N (numE N) 0 0 0 (some k) (moreE k l M) none 0 := by
 have hz : I64 0 := ⟨by omega, by omega⟩
 obtain ⟨c1, c2, c3, c4⟩ := cutC hN hk hM hl hd
 refine ⟨⟨hz, hz, hz⟩, hz, lg_few (numE_follow N) (by rw [numE_len]; omega) (fun o h => ⟨(numE_mem (by omega) h).1, (numE_mem (by omega) h).2.1⟩) (by omega) (by omega), (fun s e => by cases e), (fun k e => by cases e; show k ≤ (numE N).length; rw [numE_len]; exact hk), ?_, fun o h => (moreE_mem (by omega) hl (by omega) hd h).1⟩
 show Lg 0 _ ((numE N).take k ++ moreE k l M)
 rw [numE_take hk]
 exact lg_few c2 (by omega) c1 (by omega) (by rw [moreE_len]; omega)
theorem keptC {k M : Nat} {es : List LogE} (hk : k ≤ 30) (hM : M ≤ 10) (h1 : ∀ o ∈ es, EntOk o ∧ o.data.length ≤ 1000) (h2 : Follow 0 es) (h3 : es.length = k + M) (h4 : TermsUp 0 es) : Kept 0 0 0 0 0 [1] 0 es := by
 have hz : I64 0 := ⟨by omega, by omega⟩
 refine ⟨⟨hz, hz, hz⟩, ⟨⟨by omega, hz⟩, by omega, hz⟩, validM_one (by omega) (by omega), hz, ⟨fun o h => ?_, by omega⟩, followT_of (b := 0) h2 h4⟩
 obtain ⟨i, hi, rfl⟩ := List.getElem_of_mem h
 have e := h2.at i hi
 have h5 := entB_len (h1 _ h).1
 have h6 := (h1 _ h).2
 exact ⟨(h1 _ h).1, by omega, by omega, by omega⟩
structure EntsAt (w : World) (v : Value) (l : List LogE) : Prop where
 sl : Sl w 4 v l.length (l.flatMap entCs)
 len : l.length ≤ maxLen
 ok : ∀ o ∈ l, I64 o.idx ∧ I64 o.term ∧ I64 o.kind ∧ o.data.length ≤ maxLen
theorem flat_take {α : Type} {f : α → List Value} {z : Nat} (hf : ∀ a, (f a).length = z) : ∀ (l : List α) (k : Nat), (l.flatMap f).take (k * z) = (l.take k).flatMap f
 | [], k => by simp
 | a :: l, 0 => by simp
 | a :: l, k + 1 => by
  rw [List.flatMap_cons, List.take_succ_cons, List.flatMap_cons, List.take_append, hf, List.take_of_length_le (by rw [hf, Nat.succ_mul]; omega), show (k + 1) * z - z = k * z by rw [Nat.succ_mul]; omega, flat_take hf l k]
theorem row_none {w : World} {B : Nat} {T : TypeId} {z n c : Nat} {A : Option Addr} {xs : List Value} (h : w.ownsRow B T z (.slice A n c) n xs) : A = none → c = 0 := by
 rintro rfl
 rcases h.2 with ⟨e, _⟩ | ⟨g, cap, cur, e, _⟩
 ·cases e; rfl
 ·cases e
theorem row_block {w : World} {B : Nat} {T : TypeId} {z n c : Nat} {A : Option Addr} {xs : List Value} (h : w.ownsRow B T z (.slice A n c) n xs) : ∀ b o, A = some ⟨b, o, none⟩ → B ≤ b ∧ b < w.heap.size := by
 rintro b o rfl
 exact h.lt b rfl
set_option maxHeartbeats 32000000 in
set_option maxRecDepth 100000 in
theorem cuts_walk (n fr : Int) (A : Option Addr) (m c : Nat) (l : List LogE) (w : World) (hn : I64 n) (hfr : I64 fr) (h : EntsAt w (.slice A m c) l) :
  Calls Tryz.prog 4 #[.int .i64 n, .int .i64 fr, .slice A m c] w (TrueB w) := by
 obtain ⟨j0, hj, hz0, hz1, hz2⟩ := info_parts infoEnt
 have HAl : Hid (∀ W, Calls Tryz.prog 8 #[] W (TrueB W)) := fun W => alive19 W
 have hlm : l.length = m := by obtain ⟨_, _, e, _⟩ := h.sl; cases e; rfl
 have hml : m ≤ 9223372036854775807 := by have := h.len; unfold maxLen at this; omega
 have hsl : Sl w 4 (.slice A m c) m (l.flatMap entCs) := by have := h.sl; rw [hlm] at this; exact this
 have HSm := Hdz (small16_any A m c l w hsl hlm hml)
 have HV := Hdz hsl
 have HOk := Hdz h.ok
 have HLm := Hdz hlm
 clear h hlm hsl
 go_enter Tryz.func4, Tryz.ntmps4
 go_upto_region 1 with fail
 go_cut [40] from 15 to 41 (fun s40 wx => ∃ q : Bool, s40 = .bool q ∧ Hid (q = false → 0 ≤ n ∧ n ≤ 30 ∧ 1 ≤ fr ∧ fr ≤ n + 1 ∧ m ≤ 10) ∧ Hid (Below w.heap.size w wx))
 case first =>
  have hcs : n < 0 ∨ (¬ n < 0 ∧ n > 30) ∨ (¬ n < 0 ∧ ¬ n > 30 ∧ IntKind.i64.wrap (n + 1) = n + 1 ∧ fr < 1) ∨ (¬ n < 0 ∧ ¬ n > 30 ∧ IntKind.i64.wrap (n + 1) = n + 1 ∧ ¬ fr < 1 ∧ fr > n + 1) ∨ (¬ n < 0 ∧ ¬ n > 30 ∧ IntKind.i64.wrap (n + 1) = n + 1 ∧ ¬ fr < 1 ∧ ¬ fr > n + 1 ∧ (m : Int) > 10) ∨ (¬ n < 0 ∧ ¬ n > 30 ∧ IntKind.i64.wrap (n + 1) = n + 1 ∧ ¬ fr < 1 ∧ ¬ fr > n + 1 ∧ ¬ (m : Int) > 10) := by
   by_cases h1 : n < 0
   ·exact .inl h1
   ·by_cases h2 : n > 30
    ·exact .inr (.inl ⟨h1, h2⟩)
    ·have hw : IntKind.i64.wrap (n + 1) = n + 1 := IntWalk.i64_in _ (by omega)
     by_cases h3 : fr < 1
     ·exact .inr (.inr (.inl ⟨h1, h2, hw, h3⟩))
     ·by_cases h4 : fr > n + 1
      ·exact .inr (.inr (.inr (.inl ⟨h1, h2, hw, h3, h4⟩)))
      ·by_cases h5 : (m : Int) > 10
       ·exact .inr (.inr (.inr (.inr (.inl ⟨h1, h2, hw, h3, h4, h5⟩))))
       ·exact .inr (.inr (.inr (.inr (.inr ⟨h1, h2, hw, h3, h4, h5⟩))))
  clear hn hfr
  rcases hcs with d0 | ⟨d0, d1⟩ | ⟨d0, d1, d2, d3⟩ | ⟨d0, d1, d2, d3, d4⟩ | ⟨d0, d1, d2, d3, d4, d5⟩ | ⟨d0, d1, d2, d3, d4, d5⟩
  case inr.inr.inr.inr.inr =>
   go_wp2_with (fail)
   go_must (refine HSm.out.mono ?_)
   rintro e w1 ⟨⟨b, rfl⟩, hb1⟩
   have HB1 := Hdz hb1
   clear hb1
   cases b
   ·go_wp2_with (fail)
    go_meet
    exact ⟨true, rfl, (fun e => by cases e), HB1.out⟩
   ·go_wp2_with (fail)
    go_meet
    exact ⟨false, rfl, (fun _ => ⟨by omega, by omega, by omega, by omega, by omega⟩), HB1.out⟩
  all_goals
   go_wp2_with (fail)
   go_meet
   exact ⟨true, rfl, (fun e => by cases e), Below.refl _ _⟩
 case rest =>
 obtain ⟨q, rfl, hq, HB1⟩ := hcut
 obtain ⟨w1, rfl⟩ : ∃ we, we = wc := ⟨_, rfl⟩
 cases q
 case true =>
  go_wp2_with (fail)
  go_must (refine (HAl.out _).mono ?_)
  rintro e w2 ⟨rfl, hb2⟩
  have HB2 := Hdz (HB1.out.trans (hb2.mono HB1.out.size))
  clear hb2
  go_wp2_with (fail)
  go_ret
  exact ⟨rfl, HB2.out⟩
 case false =>
 obtain ⟨g1, g2, g3, g4, g5⟩ := hq.out rfl
 obtain ⟨N, rfl⟩ : ∃ N : Nat, n = (N : Int) := ⟨n.toNat, by omega⟩
 obtain ⟨k, hk⟩ : ∃ k : Nat, fr = ((0 + 1 + k : Nat) : Int) := ⟨(fr - 1).toNat, by omega⟩
 have hkN : k ≤ N := by omega
 have hN30 : N ≤ 30 := by omega
 have HFr : Hid (fr = ((0 + 1 + k : Nat) : Int)) := hk
 clear hn hfr hq g1 g2 g3 g4 hk HSm
 go_wp2_with (fail)
 go_must (refine (begin19 _).mono ?_)
 rintro e w2 ⟨bb, p, rfl, hHb, hb2⟩
 have HB2 : Hid (Below w.heap.size w w2) := HB1.out.trans (hb2.mono HB1.out.size)
 have HSz : Hid (w.heap.size ≤ w1.heap.size) := HB1.out.size
 have HI := Hdz (hHb.hf.initAt (W' := w2.alloc (.cells #[.int .i64 1] 3)) ((Below.refl _ _).alloc (Nat.le_refl _) _) (some ⟨w2.heap.size, 0, none⟩) 1 1 [1] (sl_rows 1 1 [.int .i64 1] (Blk.new _ _ _) rfl) rfl (fun b o e => .inr (by cases e; exact ⟨Nat.le_refl _, by simp⟩)) (validM_one (by omega) (by omega)))
 clear hHb hb2
 go_wp2_with (fail)
 go_must (refine HI.out.mono ?_)
 rintro e w3 ⟨rfl, hk3, hkk3⟩
 have HB3 : Hid (Below w.heap.size w w3) := HB2.out.trans (hkk3.base HB2.out.size fun k e => Nat.le_trans HSz.out e)
 have HK3 := Hdz hk3
 clear hk3 hkk3
 go_wp2_with (fail)
 go_loopg [9, 10] N (fun gk s9 s10 wr => ∃ (i j : Nat) (A9 : Option Addr) (c9 : Nat), s9 = .slice A9 i c9 ∧ s10 = .int .i64 (j : Int) ∧ i + gk = N ∧ Hid (j = i + 1) ∧ Hid (wr.ownsRow w3.heap.size 62 4 (.slice A9 i c9) i ((numE i).flatMap entCs)) ∧ Hid (Below w3.heap.size w3 wr))
 case atStart => exact ⟨0, 1, none, 0, rfl, rfl, by omega, rfl, World.ownsRow_nil _ _ _ _, Below.refl _ _⟩
 case round =>
  obtain ⟨i, j, A9, c9, rfl, rfl, hi, hji, hO, hB⟩ := hrel
  obtain ⟨wo, rfl⟩ : ∃ wo, wo = wr := ⟨_, rfl⟩
  by_cases hin : i < N
  ·have d : (j : Int) ≤ (N : Int) := by have := hji.out; omega
   have hw : IntKind.i64.wrap ((j : Int) + 1) = ((j + 1 : Nat) : Int) := by rw [IntWalk.i64_in _ (by omega)]; omega
   have hb4 : Below wo.heap.size wo (wo.alloc (.cells #[.int .i64 (j : Int), .int .i64 1, .int .i64 0, strV []] 62)) := (Below.refl _ _).alloc (Nat.le_refl _) _
   have hown := own_below hO.out hb4
   have HBT : Hid (Below w3.heap.size w3 (wo.alloc (.cells #[.int .i64 (j : Int), .int .i64 1, .int .i64 0, strV []] 62))) := hB.out.trans (hb4.mono hB.out.size)
   have HOw := Hdz hown
   have hsz := HBT.out.size
   clear hb4
   go_wp2_with (at_builtin; go_must (refine wpList_append_at rfl _ _ 24 rfl w3.heap.size 62 j0 _ 4 40 Tryz.underlying24 hj hz0 hz1 hz2 rfl (by decide) _ i _ rfl hown ⟨wo.heap.size, 0, none⟩ 1 1 (entCs ⟨(j : Int), 1, 0, []⟩) rfl rfl (row_ent wo ⟨(j : Int), 1, 0, []⟩ _ _ rfl) (by simp [entCs, Value.oneCell']) (by unfold maxLen; omega) (by omega) hsz ?_))
   intro v8 w8 own8 hg8 hat8
   obtain ⟨A8, c8, rfl, -⟩ := Sl.of_own own8
   have HB8 : Hid (Below w3.heap.size w3 w8) := HBT.out.trans (((Keeps.refl (fun k2 => (Value.slice A9 i c9).ownBlock = some k2) _).grown hg8 fun k e _ => e).below HBT.out.size fun k hk e => by have := (HOw.out.lt k e).1; omega)
   have HO8 : Hid (w8.ownsRow w3.heap.size 62 4 (.slice A8 (i + 1) c8) (i + 1) ((numE (i + 1)).flatMap entCs)) := by
    show World.ownsRow _ _ _ _ _ _ _
    have hjj : ((i + 1 : Nat) : Int) = (j : Int) := by rw [hji.out]
    rw [show numE (i + 1) = numE i ++ [⟨((i + 1 : Nat) : Int), 1, 0, []⟩] from rfl, List.flatMap_append, hjj]
    simpa using own8
   clear own8 hg8 hat8 hown hsz
   go_wp2_with (fail)
   go_roundg (gk - 1)
   case measure => omega
   case rel => exact ⟨i + 1, j + 1, A8, c8, rfl, rfl, by omega, by have := hji.out; show _ = _; omega, HO8.out, HB8.out⟩
  ·have d : ¬ (j : Int) ≤ (N : Int) := by have := hji.out; omega
   have he : i = N := by omega
   subst he
   obtain ⟨F, hF⟩ : ∃ F : Nat → Prop, (fun k => w1.heap.size ≤ k ∧ ¬ (w3.heap.size ≤ k ∧ k < wo.heap.size)) = F := ⟨_, rfl⟩
   have hkg := HK3.out.gap hB.out
   rw [hF] at hkg
   have HF : Hid ((∀ k, F k → w1.heap.size ≤ k) ∧ ∀ k, w3.heap.size ≤ k → k < wo.heap.size → ¬ F k) := by
    rw [← hF]
    exact ⟨fun k e => e.1, fun k h1 h2 e => e.2 ⟨h1, h2⟩⟩
   have hz := hard0_len
   have hsn := snB_len (i := 0) (u := 0) (l := [1]) ⟨by omega, by omega⟩ ⟨by omega, by omega⟩ (by simp) (validM_one (a := 1) (by omega) (by omega)).i64
   have hsv := Kn.saveN (es := []) (n := 0) (b := 0) (more := numE i) hkg (by omega) 0 0 0 false (some 0) A9 i c9 0 (batchC1 hN30) (Sl.of_own hO.out) (numE_len i) (fun b o e => by have := row_block hO.out b o e; exact HF.out.2 b this.1 this.2) hz.1 hsn hz.2
   have HS := Hdz hsv
   have HRow1 : Hid (∀ W, Keeps F wo W → Sl W 4 (.slice A9 i c9) i ((numE i).flatMap entCs)) := fun W hk => (Sl.of_own hO.out).keeps hk fun A1 m1 c1 b o e1 e2 e => by
    cases e1
    have := row_block hO.out b o e2
    exact HF.out.2 b this.1 this.2 e
   have HNil9 : Hid (A9 = none → c9 = 0) := row_none hO.out
   have HCap9 : Hid (i ≤ c9) := by obtain ⟨_, _, e, h1, _⟩ := Sl.of_own hO.out; cases e; exact h1
   have HB4 : Hid (Below w.heap.size w wo) := HB3.out.trans (hB.out.mono HB3.out.size)
   clear hz hsn hsv hkg hF HK3 hO
   go_wp2_with (fail)
   go_must (refine HS.out.mono ?_)
   rintro e w4 ⟨rfl, hk4, hkk4⟩
   have HK4 : Hid (Kn F bb 1005 (keptP (varsB [0, 0, 0]) (snB 0 0 [1]) (varsB [0])) (i, logP (numE i)) w4) := by
    have := hk4
    rw [Nat.zero_add] at this
    exact this
   have HKK4 := Hdz hkk4
   have HB5 : Hid (Below w.heap.size w w4) := HB4.out.trans (hkk4.base HB4.out.size fun k e => Nat.le_trans HSz.out (HF.out.1 k e))
   clear hk4 hkk4 HS
   go_wp2_with (fail)
   go_loopg [11, 12] m (fun gk s11 s12 wr => ∃ (t : Nat) (A11 : Option Addr) (c11 : Nat), s11 = .slice A11 t c11 ∧ s12 = .int .i64 (t : Int) ∧ t + gk = m ∧ Hid (∀ j, j < t → (l.getD j ⟨0, 0, 0, []⟩).data.length ≤ 900) ∧ Hid (wr.ownsRow w4.heap.size 62 4 (.slice A11 t c11) t ((moreE k l t).flatMap entCs)) ∧ Hid (Below w4.heap.size w4 wr))
   case atStart => exact ⟨0, none, 0, rfl, rfl, by omega, (fun j hj => by omega), World.ownsRow_nil _ _ _ _, Below.refl _ _⟩
   case round =>
    obtain ⟨t, A11, c11, rfl, rfl, ht, hd, hO, hB⟩ := hrel
    obtain ⟨wp, rfl⟩ : ∃ wo, wo = wr := ⟨_, rfl⟩
    by_cases htm : t < m
    ·have d1 : (t : Int) < (m : Int) := by omega
     have d0 : (0 : Int) ≤ (t : Int) := by omega
     have htL : t < l.length := by have := HLm.out; omega
     have hbw : Below w.heap.size w wp := HB5.out.trans (hB.out.mono HB5.out.size)
     obtain ⟨blk, off, rfl, hbl, x0, x1, x2, x3⟩ := ent_cells (HV.out.below hbw) htm htL
     obtain ⟨o, ho⟩ := nmz (l[t])
     rw [ho] at x0 x1 x2 x3
     have hgd : l.getD t ⟨0, 0, 0, []⟩ = o := by rw [List.getD_eq_getElem?_getD, List.getElem?_eq_getElem htL, ho]; rfl
     have HGd := Hdz hgd
     clear ho htL hgd x0 x1
     by_cases hlong : (o.data.length : Int) > 900
     ·have HBw := Hdz hbw
      clear hbw
      go_wp2_with (fail)
      go_must (refine (HAl.out _).mono ?_)
      rintro e w5 ⟨rfl, hb5⟩
      have HB6 := Hdz (HBw.out.trans (hb5.mono HBw.out.size))
      clear hb5
      go_wp2_with (fail)
      go_ret
      exact ⟨rfl, HB6.out⟩
     ·have hw1 : IntKind.i64.wrap ((t : Int) + 1) = ((t + 1 : Nat) : Int) := by rw [IntWalk.i64_in _ (by omega)]; omega
      have hfi : IntKind.i64.wrap (fr + (t : Int)) = ((k + t + 1 : Nat) : Int) := by have := HFr.out; rw [IntWalk.i64_in _ (by omega)]; omega
      have HLong := Hdz hlong
      have hdr : Below wp.heap.size wp (wp.drew.alloc (.cells #[.int .i64 ((k + t + 1 : Nat) : Int), .int .i64 2, .int .i64 o.kind, strV o.data] 62)) := (Below.refl _ wp).drew.alloc (Nat.le_refl _) _
      have hown := own_below hO.out hdr
      have HBT : Hid (Below w4.heap.size w4 (wp.drew.alloc (.cells #[.int .i64 ((k + t + 1 : Nat) : Int), .int .i64 2, .int .i64 o.kind, strV o.data] 62))) := hB.out.trans (hdr.mono hB.out.size)
      have HOw := Hdz hown
      have hsz := HBT.out.size
      obtain ⟨ki, hki⟩ : ∃ x : Int, ((k + t + 1 : Nat) : Int) = x := ⟨_, rfl⟩
      rw [hki] at hfi HBT HOw hown hsz
      have HKi := Hdz hki
      clear hdr hbw hki
      go_wp2_with (fail)
      refine wRz ?_
      try simp only [lAz]
      refine tA 0 ?_; try simp only [lAz]
      refine tA 1 ?_; try simp only [lAz]
      refine tA 2 ?_; try simp only [lAz]
      refine tA 3 ?_; try simp only [lAz]
      refine tA 4 ?_; try simp only [lAz]
      refine tA 5 ?_; try simp only [lAz]
      refine tA 6 ?_; try simp only [lAz]
      refine tA 7 ?_; try simp only [lAz]
      refine tA 9 ?_; try simp only [lAz]
      refine tA 10 ?_; try simp only [lAz]
      refine tA 11 ?_; try simp only [lAz]
      refine tA 12 ?_; try simp only [lAz]
      refine rA 8 (v := ?_) (hy := ?hy) ?_; case hy => (intro w hE; have q0 := hE.cell x2; go_simp; try with_reducible rfl)
      try simp only [lAz]
      refine rA 13 (v := ?_) (hy := ?hy) ?_; case hy => (intro w hE; have q0 := hE.cell x3; go_simp; try with_reducible rfl)
      try simp only [lAz]
      refine rZz 14 fun K hK => ?_; go_simp; apply hK; clear hK K
      refine rZz 15 fun K hK => ?_; go_simp; apply hK; clear hK K
      refine rZz 16 fun K hK => ?_; refine if_on rfl ?_
      go_must (refine wp_append_at _ _ 24 rfl w4.heap.size 62 j0 _ 4 40 Tryz.underlying24 hj hz0 hz1 hz2 rfl (by decide) _ t _ rfl hown ⟨wp.heap.size, 0, none⟩ 1 1 (entCs ⟨ki, 2, o.kind, o.data⟩) rfl rfl (row_ent wp.drew ⟨ki, 2, o.kind, o.data⟩ _ _ rfl) (by simp [entCs, Value.oneCell']) (by unfold maxLen; omega) (by omega) hsz ?_)
      intro v8 w8 own8 hg8 hat8
      obtain ⟨A8, c8, rfl, -⟩ := Sl.of_own own8
      have HB8 : Hid (Below w4.heap.size w4 w8) := HBT.out.trans (((Keeps.refl (fun k2 => (Value.slice A11 t c11).ownBlock = some k2) _).grown hg8 fun k e _ => e).below HBT.out.size fun k hk e => by have := (HOw.out.lt k e).1; omega)
      have HO8 : Hid (w8.ownsRow w4.heap.size 62 4 (.slice A8 (t + 1) c8) (t + 1) ((moreE k l (t + 1)).flatMap entCs)) := by
       show World.ownsRow _ _ _ _ _ _ _
       rw [show moreE k l (t + 1) = moreE k l t ++ [⟨((k + t + 1 : Nat) : Int), 2, (l.getD t ⟨0, 0, 0, []⟩).kind, (l.getD t ⟨0, 0, 0, []⟩).data⟩] from rfl, List.flatMap_append, HGd.out, HKi.out]
       simpa using own8
      clear own8 hg8 hat8 hown hsz
      go_simp
      apply hK
      clear hK K
      refine rZz 17 fun K hK => ?_; go_simp; apply hK; clear hK K
      refine wDz ?_
      go_wp2_with (fail)
      go_roundg (gk - 1)
      case measure => omega
      case rel => exact ⟨t + 1, A8, c8, rfl, rfl, by omega, (fun j hj => by
       rcases Nat.lt_or_ge j t with h1 | h1
       ·exact hd.out j h1
       ·have : j = t := by omega
        subst this
        rw [HGd.out]
        have := HLong.out
        omega), HO8.out, HB8.out⟩
    ·have d1 : ¬ (t : Int) < (m : Int) := by omega
     have he : t = m := by omega
     subst he
     obtain ⟨G, hG⟩ : ∃ G : Nat → Prop, (fun k => F k ∧ ¬ (w4.heap.size ≤ k ∧ k < wp.heap.size)) = G := ⟨_, rfl⟩
     have hkg := HK4.out.gap hB.out
     rw [hG] at hkg
     have HG : Hid ((∀ k, G k → F k) ∧ ∀ k, w4.heap.size ≤ k → k < wp.heap.size → ¬ G k) := by
      rw [← hG]
      exact ⟨fun k e => e.1, fun k h1 h2 e => e.2 ⟨h1, h2⟩⟩
     have hz := hard0_len
     have hsn := snB_len (i := 0) (u := 0) (l := [1]) ⟨by omega, by omega⟩ ⟨by omega, by omega⟩ (by simp) (validM_one (a := 1) (by omega) (by omega)).i64
     have hok : ∀ o ∈ l, I64 o.kind := fun o ho => (HOk.out o ho).2.2.1
     have hsv := Kn.saveN (es := numE i) (n := i) (b := 0) (more := moreE k l t) hkg (by omega) 0 0 0 false (some k) A11 t c11 0 (batchC2 hN30 hkN g5 hok hd.out) (Sl.of_own hO.out) (moreE_len k l t) (fun b o e => by have := row_block hO.out b o e; exact HG.out.2 b this.1 this.2) hz.1 hsn hz.2
     rw [show fromI 0 (some k) = fr from HFr.out.symm, show cutE (some k) (numE i) = numE k from numE_take hkN] at hsv
     have HS := Hdz hsv
     have hmono : Keeps G w4 wp := Keeps.of_below hB.out
     have HRow2 : Hid (∀ W, Keeps G wp W → Sl W 4 (.slice A11 t c11) t ((moreE k l t).flatMap entCs)) := fun W hk => (Sl.of_own hO.out).keeps hk fun A1 m1 c1 b o e1 e2 e => by
      cases e1
      have := row_block hO.out b o e2
      exact HG.out.2 b this.1 this.2 e
     have HNil11 : Hid (A11 = none → c11 = 0) := row_none hO.out
     have HB6 : Hid (Below w.heap.size w wp) := HB5.out.trans (hB.out.mono HB5.out.size)
     have HKw : Hid (Keeps F wo wp) := HKK4.out.then hB.out
     have HCc := Hdz (cutC hN30 hkN g5 hok hd.out)
     clear hz hsn hsv hkg hG HK4 hO hok hmono hB hd
     go_wp2_with (fail)
     go_must (refine HS.out.mono ?_)
     rintro e w6 ⟨rfl, hk6, hkk6⟩
     have HB7 : Hid (Below w.heap.size w w6) := HB6.out.trans (hkk6.base HB6.out.size fun k e => Nat.le_trans HSz.out (HF.out.1 k (HG.out.1 k e)))
     have HKx : Hid (Keeps F wo w6) := HKw.out.go (hkk6.mono fun k _ e => HG.out.1 k e)
     have HKy := Hdz hkk6
     have HL := Hdz (Kn.load (x := 0) (y := 0) (z := 0) (i := 0) (u := 0) (a := 0) (l := [1]) (es := numE k ++ moreE k l t) hk6 (by omega) (keptC (k := k) (M := t) (by omega) g5 HCc.out.1 HCc.out.2.1 HCc.out.2.2.1 HCc.out.2.2.2))
     clear hk6 hkk6 HS
     go_wp2_with (fail)
     go_must (refine HL.out.mono ?_)
     rintro e w7 ⟨v5, v6, rfl, ho5, ho6, hb7⟩
     have hes := HCc.out.2.2.1
     rw [hes] at ho6
     rw [show [(1 : Int)].length = 1 from rfl] at ho5
     obtain ⟨A5, c5, rfl, -⟩ := Sl.of_own ho5
     obtain ⟨A6, c6, rfl, -⟩ := Sl.of_own ho6
     obtain ⟨wq, hwq⟩ : ∃ W, w7.alloc (.cells #[.int .i64 0, .int .i64 0, .int .i64 0, .int .i64 0, .int .i64 0, .slice A5 1 c5, .slice A6 (k + t) c6, .int .i64 0] 56) = W := ⟨_, rfl⟩
     have hbq : Below w7.heap.size w7 wq := by rw [← hwq]; exact (Below.refl _ _).alloc (Nat.le_refl _) _
     have bst : Blk wq w7.heap.size 56 #[.int .i64 0, .int .i64 0, .int .i64 0, .int .i64 0, .int .i64 0, .slice A5 1 c5, .slice A6 (k + t) c6, .int .i64 0] := by rw [← hwq]; exact Blk.new _ _ _
     obtain ⟨gst, hgst⟩ : ∃ g, w7.heap.size = g := ⟨_, rfl⟩
     have HRw6 : Hid (wq.ownsRow w6.heap.size 62 4 (.slice A6 (k + t) c6) (k + t) ((numE k ++ moreE k l t).flatMap entCs)) := own_below ho6 hbq
     have HBq : Hid (Below w.heap.size w wq) := HB7.out.trans ((hb7.trans (hbq.mono hb7.size)).mono HB7.out.size)
     have HKq : Hid (Keeps F wo wq ∧ Keeps G wp wq) := ⟨(HKx.out.then hb7).then hbq, (HKy.out.then hb7).then hbq⟩
     rw [hgst] at bst
     have HBst := Hdz bst
     have HE := Hdz (Anz hwq hgst)
     have HLen : Hid ((numE k ++ moreE k l t).length = k + t) := hes
     clear ho5 ho6 hb7 hwq hbq bst hgst hes
     go_upto_region 23 with fail
     rw [HE.out.1, HE.out.2]
     refine wRz ?_
     refine rZz 0 fun K hK => ?_; go_simp
     (go_must (refine (HAl.out _).mono ?_); rintro e w8 ⟨rfl, hb8⟩)
     have hb8' : Below wq.heap.size wq w8 := (Below.refl _ wq).drew.trans hb8
     have HB8 : Hid (Below w.heap.size w w8) := HBq.out.trans (hb8'.mono HBq.out.size)
     have HSt : Hid (Blk w8 gst 56 #[.int .i64 0, .int .i64 0, .int .i64 0, .int .i64 0, .int .i64 0, .slice A5 1 c5, .slice A6 (k + t) c6, .int .i64 0]) := HBst.out.below' hb8'
     have z6 := HSt.out.cell 6
     have HRow6 : Hid (∀ W, Below w8.heap.size w8 W → Sl W 4 (.slice A6 (k + t) c6) (k + t) ((numE k ++ moreE k l t).flatMap entCs)) := fun W hb => (Sl.of_own (own_below HRw6.out hb8')).below hb
     have HRow1' : Hid (∀ W, Below w8.heap.size w8 W → Sl W 4 (.slice A9 k c9) k ((numE k).flatMap entCs)) := fun W hb => by
      have h1 := (HRow1.out wq HKq.out.1).below (hb8'.trans (hb.mono hb8'.size))
      have h2 := Sl.take h1 hkN
      have e : ((numE i).flatMap entCs).take (k * 4) = (numE k).flatMap entCs := by
       rw [← numE_take hkN]
       have h3 := flat_take (f := entCs) (z := 4) entCs_len (numE i) k
       exact h3
      rw [e] at h2
      exact h2
     have HRow2' : Hid (∀ W, Below w8.heap.size w8 W → Sl W 4 (.slice A11 t c11) t ((moreE k l t).flatMap entCs)) := fun W hb => (HRow2.out wq HKq.out.2).below (hb8'.trans (hb.mono hb8'.size))
     replace HRow1 := HRow1'
     replace HRow2 := HRow2'
     have HB_w8 : Below w8.heap.size w8 w8 := Below.refl _ _
     have hsub : IntKind.i64.wrap (fr - 1) = (k : Int) := by have := HFr.out; rw [IntWalk.i64_in _ (by omega)]; omega
     have hk0 : (0 : Int) ≤ (k : Int) := by omega
     have hki : (k : Int) ≤ (c9 : Int) := by have := HCap9.out; omega
     clear hb8 hb8' HRow1' HRow2' HKq HRw6 HBst
     go_simp
     apply hK
     clear hK K
     try simp only [lAz]
     refine tA 1 ?_; try simp only [lAz]
     refine tA 2 ?_; try simp only [lAz]
     refine tA 3 ?_; try simp only [lAz]
     refine tA 4 ?_; try simp only [lAz]
     refine tA 5 ?_; try simp only [lAz]
     refine tA 6 ?_; try simp only [lAz]
     refine tA 8 ?_; try simp only [lAz]
     refine tA 9 ?_; try simp only [lAz]
     refine tA 10 ?_; try simp only [lAz]
     refine tA 11 ?_; try simp only [lAz]
     refine tA 13 ?_; try simp only [lAz]
     refine wpAny_ready (rs := [7, 12]) (by kernel_rfl) (by simp) (aCz (fun K hK => ?_) (aCz (fun K hK => ?_) AllReady.nil))
     focus
      refine if_on rfl ?_
      go_simp
      apply hK
      clear hK K
      have hslA : Sl w8 4 (.slice A9 k c9) k ((numE k).flatMap entCs) := HRow1.out w8 HB_w8
      refine rZz 12 fun K hK => ?_; refine if_on rfl ?_
      go_must (refine wp_append_sl _ _ 24 rfl w8.heap.size 62 j0 _ 4 40 Tryz.underlying24 hj hz0 hz1 hz2 rfl (by decide) (.slice none 0 0) 0 [] rfl (World.ownsRow_nil _ _ _ _) A9 k c9 ((numE k).flatMap entCs) rfl hslA HNil9.out (entCs_one _) (by unfold maxLen; omega) (by omega) HB_w8.size ?_)
      intro v12 w12 own12 hg12
      have hB12 : Below w8.heap.size w8 w12 := HB_w8.trans (((Keeps.refl (fun _ => False) w8).grown hg12 fun k e => by cases e).below HB_w8.size fun i hi e => e)
      rw [Nat.zero_add, List.nil_append] at own12
      obtain ⟨A12, c12, rfl, -⟩ := Sl.of_own own12
      clear hslA hg12
      try go_simp
      apply hK
      clear hK K
      have hslB : Sl w12 4 (.slice A11 t c11) t ((moreE k l t).flatMap entCs) := HRow2.out w12 hB12
      have HOb := Hdz own12
      refine rZz 14 fun K hK => ?_; refine if_on rfl ?_
      go_must (refine wp_append_sl _ _ 24 rfl w8.heap.size 62 j0 _ 4 40 Tryz.underlying24 hj hz0 hz1 hz2 rfl (by decide) (.slice A12 k c12) k ((numE k).flatMap entCs) rfl own12 A11 t c11 ((moreE k l t).flatMap entCs) rfl hslB HNil11.out (entCs_one _) (by unfold maxLen; omega) (by omega) hB12.size ?_)
      intro v14 w14 own14 hg14
      have hB14 : Below w8.heap.size w8 w14 := hB12.trans (((Keeps.refl (fun k2 => (Value.slice A12 k c12).ownBlock = some k2) w12).grown hg14 fun k2 e _ => e).below hB12.size fun i hi e => by have := (HOb.out.lt i e).1; omega)
      rw [← List.flatMap_append] at own14
      obtain ⟨A14, c14, rfl, -⟩ := Sl.of_own own14
      have HS14 := Hdz (Sl.of_own own14)
      have HB14 := Hdz hB14
      clear hslB hg14 own14 hB14
      try go_simp
      apply hK
      clear hK K
      refine rZz 15 fun K hK => ?_; refine if_on rfl ?_
      go_simp
      (go_must (refine (sameEnt_ok A6 A14 (k + t) c6 c14 (numE k ++ moreE k l t) _ (HRow6.out _ HB14.out) HS14.out HLen.out (by omega)).mono ?_); rintro e w15 ⟨rfl, hb15⟩)
      have HB15 : Hid (Below w.heap.size w w15) := HB8.out.trans ((HB14.out.trans (hb15.mono HB14.out.size)).mono HB8.out.size)
      clear hb15
      go_simp
      apply hK
      clear hK K
      try simp only [lAz]
      refine tA 16 ?_; try simp only [lAz]
      refine rZz 17 fun K hK => ?_; go_simp; apply hK; clear hK K
      refine wDz ?_
      go_wp2_with (fail)
      go_ret
      exact ⟨rfl, HB15.out⟩
     focus
      have hslA : Sl w8 4 (.slice A9 k c9) k ((numE k).flatMap entCs) := HRow1.out w8 HB_w8
      refine if_on rfl ?_
      go_must (refine wp_append_sl _ _ 24 rfl w8.heap.size 62 j0 _ 4 40 Tryz.underlying24 hj hz0 hz1 hz2 rfl (by decide) (.slice none 0 0) 0 [] rfl (World.ownsRow_nil _ _ _ _) A9 k c9 ((numE k).flatMap entCs) rfl hslA HNil9.out (entCs_one _) (by unfold maxLen; omega) (by omega) HB_w8.size ?_)
      intro v12 w12 own12 hg12
      have hB12 : Below w8.heap.size w8 w12 := HB_w8.trans (((Keeps.refl (fun _ => False) w8).grown hg12 fun k e => by cases e).below HB_w8.size fun i hi e => e)
      rw [Nat.zero_add, List.nil_append] at own12
      obtain ⟨A12, c12, rfl, -⟩ := Sl.of_own own12
      clear hslA hg12
      try go_simp
      apply hK
      clear hK K
      have z6_w12 : w12.cell? ⟨gst, 6, none⟩ = some (.slice A6 (k + t) c6) := (HSt.out.below' hB12).cell 6
      refine wpAny_ready (rs := [7, 14]) (by kernel_rfl) (by simp) (aCz (fun K hK => ?_) (aCz (fun K hK => ?_) AllReady.nil))
      focus
       refine if_on rfl ?_
       go_simp
       apply hK
       clear hK K
       have hslB : Sl w12 4 (.slice A11 t c11) t ((moreE k l t).flatMap entCs) := HRow2.out w12 hB12
       have HOb := Hdz own12
       refine rZz 14 fun K hK => ?_; refine if_on rfl ?_
       go_must (refine wp_append_sl _ _ 24 rfl w8.heap.size 62 j0 _ 4 40 Tryz.underlying24 hj hz0 hz1 hz2 rfl (by decide) (.slice A12 k c12) k ((numE k).flatMap entCs) rfl own12 A11 t c11 ((moreE k l t).flatMap entCs) rfl hslB HNil11.out (entCs_one _) (by unfold maxLen; omega) (by omega) hB12.size ?_)
       intro v14 w14 own14 hg14
       have hB14 : Below w8.heap.size w8 w14 := hB12.trans (((Keeps.refl (fun k2 => (Value.slice A12 k c12).ownBlock = some k2) w12).grown hg14 fun k2 e _ => e).below hB12.size fun i hi e => by have := (HOb.out.lt i e).1; omega)
       rw [← List.flatMap_append] at own14
       obtain ⟨A14, c14, rfl, -⟩ := Sl.of_own own14
       have HS14 := Hdz (Sl.of_own own14)
       have HB14 := Hdz hB14
       clear hslB hg14 own14 hB14
       try go_simp
       apply hK
       clear hK K
       refine rZz 15 fun K hK => ?_; refine if_on rfl ?_
       go_simp
       (go_must (refine (sameEnt_ok A6 A14 (k + t) c6 c14 (numE k ++ moreE k l t) _ (HRow6.out _ HB14.out) HS14.out HLen.out (by omega)).mono ?_); rintro e w15 ⟨rfl, hb15⟩)
       have HB15 : Hid (Below w.heap.size w w15) := HB8.out.trans ((HB14.out.trans (hb15.mono HB14.out.size)).mono HB8.out.size)
       clear hb15
       go_simp
       apply hK
       clear hK K
       try simp only [lAz]
       refine tA 16 ?_; try simp only [lAz]
       refine rZz 17 fun K hK => ?_; go_simp; apply hK; clear hK K
       refine wDz ?_
       go_wp2_with (fail)
       go_ret
       exact ⟨rfl, HB15.out⟩
      focus
       have hslB : Sl w12 4 (.slice A11 t c11) t ((moreE k l t).flatMap entCs) := HRow2.out w12 hB12
       have HOb := Hdz own12
       refine if_on rfl ?_
       go_must (refine wp_append_sl _ _ 24 rfl w8.heap.size 62 j0 _ 4 40 Tryz.underlying24 hj hz0 hz1 hz2 rfl (by decide) (.slice A12 k c12) k ((numE k).flatMap entCs) rfl own12 A11 t c11 ((moreE k l t).flatMap entCs) rfl hslB HNil11.out (entCs_one _) (by unfold maxLen; omega) (by omega) hB12.size ?_)
       intro v14 w14 own14 hg14
       have hB14 : Below w8.heap.size w8 w14 := hB12.trans (((Keeps.refl (fun k2 => (Value.slice A12 k c12).ownBlock = some k2) w12).grown hg14 fun k2 e _ => e).below hB12.size fun i hi e => by have := (HOb.out.lt i e).1; omega)
       rw [← List.flatMap_append] at own14
       obtain ⟨A14, c14, rfl, -⟩ := Sl.of_own own14
       have HS14 := Hdz (Sl.of_own own14)
       have HB14 := Hdz hB14
       clear hslB hg14 own14 hB14
       try go_simp
       apply hK
       clear hK K
       have z6_w14 : w14.cell? ⟨gst, 6, none⟩ = some (.slice A6 (k + t) c6) := (HSt.out.below' HB14.out).cell 6
       refine rZz 7 fun K hK => ?_; refine if_on rfl ?_
       go_simp
       apply hK
       clear hK K
       refine rZz 15 fun K hK => ?_; refine if_on rfl ?_
       go_simp
       (go_must (refine (sameEnt_ok A6 A14 (k + t) c6 c14 (numE k ++ moreE k l t) _ (HRow6.out _ HB14.out) HS14.out HLen.out (by omega)).mono ?_); rintro e w15 ⟨rfl, hb15⟩)
       have HB15 : Hid (Below w.heap.size w w15) := HB8.out.trans ((HB14.out.trans (hb15.mono HB14.out.size)).mono HB8.out.size)
       clear hb15
       go_simp
       apply hK
       clear hK K
       try simp only [lAz]
       refine tA 16 ?_; try simp only [lAz]
       refine rZz 17 fun K hK => ?_; go_simp; apply hK; clear hK K
       refine wDz ?_
       go_wp2_with (fail)
       go_ret
       exact ⟨rfl, HB15.out⟩
end Go.Ev
