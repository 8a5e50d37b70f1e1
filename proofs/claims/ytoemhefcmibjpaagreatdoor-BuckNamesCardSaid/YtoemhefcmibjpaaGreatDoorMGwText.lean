/-
  Texts and truths are laid into bytes.
-/
import Derived.Test.YtoemhefcmibjpaaGreatDoorMGwBuild
import Derived.Test.YtoemhefcmibjpaaGreatDoorMGwReader
import Derived.Deep.DeepMust
set_option linter.unusedVariables false
set_option linter.unusedSimpArgs false
set_option linter.unusedVariables false
set_option linter.unusedSimpArgs false
namespace Go.Ev
open Go.Proofs Go.RowKit
theorem textsB_append : ∀ a b : List Bytes, textsB (a ++ b) = textsB a ++ textsB b
 | [], _ => rfl
 | x :: a, b => by simp [textsB, textsB_append a b]
theorem textsB_take {l : List Bytes} {k : Nat} (h : k < l.length) : textsB (l.take (k + 1)) = textsB (l.take k) ++ textB l[k] := by
 rw [List.take_succ_eq_append_getElem h, textsB_append]
 simp [textsB]
theorem textsB_le (l : List Bytes) (k : Nat) : (textsB (l.take k)).length ≤ (textsB l).length := by
 have : textsB l = textsB (l.take k) ++ textsB (l.drop k) := by rw [← textsB_append, List.take_append_drop]
 rw [this, List.length_append]
 omega
theorem var1 (x : Int) (T : TypeId) (w : World) (hx : I64 x) :
  Calls Tryz.prog 174 #[.slice (some ⟨w.heap.size, 0, none⟩) 1 1] (w.alloc (.cells #[.int .i64 x] T)) fun e w' => e = .returned (strV (varB x)) ∧ Below (w.alloc (.cells #[.int .i64 x] T)).heap.size (w.alloc (.cells #[.int .i64 x] T)) w' := by
 refine (vars_any _ 1 1 [x] _ ⟨_, _, rfl, Nat.le_refl _, by simp, fun _ => ⟨w.heap.size, 0, rfl, by simp, fun j u hu => ?_⟩⟩ (by simpa using hx) (by omega)).mono ?_
 ·cases j with
  | zero => cases hu; exact World.cell?_alloc_at _ _ _ _ rfl
  | succ j => simp at hu
 ·rintro e w' ⟨rfl, hb⟩
  exact ⟨by simp [varsB, strV], hb⟩
set_option maxHeartbeats 1000000 in
set_option maxRecDepth 100000 in
theorem texts_any (A : Option Addr) (n c : Nat) (l : List Bytes) (w : World) (hv : Sl w 1 (.slice A n c) n (l.map strV)) (hL : (textsB l).length ≤ 100000) (hn : n ≤ 100000) :
  Calls Tryz.prog 172 #[.slice A n c] w fun e w' => e = .returned (strV (textsB l)) ∧ Below w.heap.size w w' := by
 have hl1 : l.length = n := by obtain ⟨_, _, e, _, h1, _⟩ := hv; simpa using h1
 go_enter Tryz.func172, Tryz.ntmps172
 go_wp2
 go_loopw [8] (fun i wr => ∃ (k : Nat) (F : Option Nat), k ≤ n ∧ i = .int .i64 (k : Int) ∧ Bd wr w.heap.size w.heap.size F (textsB (l.take k)) ∧ Below w.heap.size w wr) (fun i _ => n - (Go.RowKit.intOf i).toNat)
 case atStart => exact ⟨0, none, by omega, rfl, Bd.new w, (Below.refl _ _).alloc (Nat.le_refl _) _⟩
 case round =>
  obtain ⟨k, F, hk, rfl, hB, hb⟩ := hrel
  have hT := textsB_le l k
  have hz := hb.size
  by_cases hlt : k < n
  ·obtain ⟨A', c', e0, h0, h1, h2⟩ := hv
   cases e0
   obtain ⟨blk, off, rfl, hbl, hcell⟩ := h2 (by omega)
   have hk' : k < l.length := by omega
   have hc : wr.cell? ⟨blk, off + k, none⟩ = some (strV l[k]) := (hb.cell (p := ⟨blk, off + k, none⟩) hbl).trans (hcell k _ (by simp [hk']))
   have hS : Hid (textsB (l.take (k + 1)) = textsB (l.take k) ++ (varB l[k].length ++ l[k])) := textsB_take hk'
   have hT1 := textsB_le l (k + 1)
   have hT2 : (textsB (l.take k)).length + ((varB l[k].length).length + l[k].length) ≤ 100000 := by
    have := congrArg List.length hS.out
    simp only [List.length_append] at this
    omega
   clear hcell h2 h1 hl1 hT1
   generalize l[k] = s at *
   unfold strV at hc
   have hsl : s.length ≤ 100000 := by omega
   go_wp2_with (first
    | (go_at_call 174; refine (var1 _ _ _ ⟨by omega, by omega⟩).mono ?_; rintro e w1 ⟨rfl, hb1⟩; have hB1 := (hB.alloc _).below hb1; have hz1 := hb1.size; rw [World.size_alloc] at hz1)
    | (go_at_call 106; go_must (refine (bw_string (hB1) _ (by simp; omega) (by omega)).mono ?_); rintro e w2 ⟨rfl, ⟨F2, hB2⟩, K2⟩))
   go_roundw
   case rel => exact ⟨k + 1, F2, by omega, by go_num, by rw [hS.out]; exact hB2, hb.trans (((Below.refl _ _).alloc hz _).trans ((hb1.mono (by rw [World.size_alloc]; omega)).trans (hB1.below_of K2 (by omega))))⟩
   case measure => simp [Go.RowKit.intOf]; omega
  ·have hkn : k = n := by omega
   subst hkn
   have ht : l.take k = l := List.take_of_length_le (by omega)
   rw [ht] at hB
   clear hv ht hl1
   go_wp2_with (go_at_call 108; refine (bw_text hB).mono ?_; rintro e w1 ⟨rfl, hb1⟩)
   go_ret
   exact ⟨rfl, hb.trans hb1⟩
end Go.Ev
