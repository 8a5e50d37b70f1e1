/-
  Texts of this claim.
-/
import Derived.Test.YtjdimpnonjjnaaaGreatDoorMEvInsert
import Derived.Test.YtjdimpnonjjnaaaGreatDoorMGvRise
import Derived.Test.YtjdimpnonjjnaaaGreatDoorMGwReader
set_option linter.unusedVariables false
set_option linter.unusedSimpArgs false
set_option maxHeartbeats 1000000
set_option maxRecDepth 100000
namespace Go.Ev
open Go.Lib
theorem i64_zero : I64 0 := ⟨by decide, by decide⟩
theorem unzig_i64 {n : Nat} (h : n < 18446744073709551616) : I64 (unzigzag n) := by
 unfold unzigzag I64
 split <;> omega
theorem numP_i64 : ∀ (b : Bytes) (i acc : Nat), i ≤ 9 → acc < 2 ^ (7 * i) → I64 (numP i acc b).1
 | [], _, _, _, _ => i64_zero
 | c :: r, i, acc, hi, ha => by
  have hc : c.toNat < 256 := c.toNat_lt
  have e6 : (2 : Nat) ^ (7 * (i + 1)) = 128 * 2 ^ (7 * i) := by rw [Nat.mul_add, Nat.pow_add]; simp [Nat.mul_comm]
  unfold numP
  split
  ·exact i64_zero
  ·rename_i h9
   split
   ·rename_i h128
    have hi8 : i ≠ 9 := fun h => h9 ⟨h, by omega⟩
    have hl : c.toNat % 128 * 2 ^ (7 * i) ≤ 127 * 2 ^ (7 * i) := Nat.mul_le_mul_right _ (by omega)
    exact numP_i64 r (i + 1) _ (by omega) (by rw [e6]; omega)
   ·rename_i h128
    split
    ·exact i64_zero
    ·apply unzig_i64
     by_cases hi9 : i = 9
     ·subst hi9
      have e : (2 : Nat) ^ (7 * 9) = 9223372036854775808 := by decide
      rw [e] at ha ⊢
      have : c.toNat ≤ 1 := by
       apply Decidable.byContradiction
       intro h2
       exact h9 ⟨rfl, by omega⟩
      omega
     ·have hl : c.toNat * 2 ^ (7 * i) ≤ 127 * 2 ^ (7 * i) := Nat.mul_le_mul_right _ (by omega)
      have hp : (2 : Nat) ^ (7 * i) ≤ 2 ^ 56 := Nat.pow_le_pow_right (by decide) (by omega)
      have e : (2 : Nat) ^ 56 = 72057594037927936 := by decide
      rw [e] at hp
      omega
theorem Rd.var_i64 (r : Rd) : I64 r.var.1 := by
 unfold Rd.var
 split
 ·exact i64_zero
 ·split
  ·exact i64_zero
  ·exact numP_i64 _ 0 0 (by omega) (by decide)
theorem Rd.text_len (r : Rd) {m : Nat} : (r.text m).1.length ≤ m := by
 unfold Rd.text
 split
 ·simp
 ·rename_i h
  obtain ⟨_, h2, h3, h4⟩ := Rd.count_ok (Decidable.not_not.1 h)
  split
  ·simp
  ·rw [List.length_take, h2]
   omega
def Item.short (x : Item) : Prop := x.key.length ≤ 40 ∧ x.val.length ≤ 60 ∧ I64 x.over ∧ I64 x.size
theorem Rd.item_ok (r : Rd) : r.item.1.short := by
 unfold Rd.item Item.short
 have h1 : (r.text 40).1.length ≤ 40 := r.text_len (m := 40)
 dsimp only
 split
 ·exact ⟨h1, by simp, Rd.var_i64 _, Rd.var_i64 _⟩
 ·exact ⟨h1, Rd.text_len _ (m := 60), i64_zero, i64_zero⟩
theorem Item.lay_short {x : Item} (h : x.short) : x.lay.length ≤ 121 := by
 obtain ⟨h1, h2, h3, h4⟩ := h
 have k1 := (varB_len (x.key.length : Int) ⟨by omega, by omega⟩).2
 have k2 := (varB_len (x.val.length : Int) ⟨by omega, by omega⟩).2
 have k3 := (varB_len x.over h3).2
 have k4 := (varB_len x.size h4).2
 have k5 : (boolB (x.over != 0)).length = 1 := by unfold boolB; split <;> rfl
 unfold Item.lay textB
 split <;> simp only [List.length_append] <;> omega
theorem layI_short : ∀ {l : List Item}, (∀ x ∈ l, x.short) → (layI l).length ≤ 121 * l.length
 | [], _ => by simp [layI]
 | x :: l, h => by
  have h1 := Item.lay_short (h x (List.mem_cons_self ..))
  have h2 := layI_short fun y hy => h y (List.mem_cons_of_mem _ hy)
  simp only [layI, List.length_append, List.length_cons]
  omega
theorem Rd.items_step {r : Rd} (h : r.e = 0 ∧ r.b ≠ []) : r.items = (r.item.1 :: r.item.2.items.1, r.item.2.items.2) := by
 rw [Rd.items, dif_pos h]
 by_cases h2 : r.item.2.e = 0
 ·rw [dif_pos h2]
 ·rw [dif_neg h2]
  have : r.item.2.items = ([], r.item.2) := by
   rw [Rd.items, dif_neg (fun hc => h2 hc.1)]
  rw [this]
theorem Rd.items_end {r : Rd} (h : ¬ (r.e = 0 ∧ r.b ≠ [])) : r.items = ([], r) := by rw [Rd.items, dif_neg h]
open Go.Proofs Go.RowKit
theorem count_any (r : Nat) (R : Rd) (m : Int) (w : World) (h : RdAt w r R) :
  Calls Tryz.prog 121 #[.pointer (some ⟨r, 0, none⟩), .int .i64 m] w (RdTo r w (.int .i64 (R.count m).1) (R.count m).2) := by
 have hC : Hid (R.count m = if R.var.2.e ≠ 0 then (0, R.var.2) else if R.var.1 < 0 then (0, ⟨R.var.2.b, 4⟩) else if m < R.var.1 then (0, ⟨R.var.2.b, 2⟩) else (R.var.1, R.var.2)) := by
  show _ = _
  unfold Rd.count
  rfl
 have hV := var_any r R w h
 generalize R.var = V at hC hV
 obtain ⟨v, R1⟩ := V
 dsimp only at hC hV
 generalize hq : R.count m = q at *
 clear hq
 by_cases he : R1.e = 0
 ·have hoff : R1.off = false := by simp [Rd.off, he]
  have hC' : Hid (q = if v < 0 then (0, ⟨R1.b, 4⟩) else if m < v then (0, ⟨R1.b, 2⟩) else (v, R1)) := by
   show _ = _
   rw [hC.out, if_neg (by simp [he])]
  clear hC he
  by_cases h0 : v < 0
  ·obtain rfl := hC'.out.trans (if_pos h0)
   clear hC'
   go_enter Tryz.func121, Tryz.ntmps121
   go_wp2_with (first
    | (go_at_call 33; refine hV.mono ?_; rintro e w1 ⟨rfl, h1, K1⟩; have c1 := h1.c1; have f1 := h1.f1)
    | (go_at_call 55; refine (off_any _ _ _ h1).mono ?_; rintro e w2 ⟨rfl, rfl⟩))
   go_ret
   exact ⟨rfl, h1.setE _, K1.setCell (fun _ => rfl) _⟩
  ·by_cases hm : m < v
   ·obtain rfl := hC'.out.trans ((if_neg h0).trans (if_pos hm))
    clear hC'
    go_enter Tryz.func121, Tryz.ntmps121
    go_wp2_with (first
     | (go_at_call 33; refine hV.mono ?_; rintro e w1 ⟨rfl, h1, K1⟩; have c1 := h1.c1; have f1 := h1.f1)
     | (go_at_call 55; refine (off_any _ _ _ h1).mono ?_; rintro e w2 ⟨rfl, rfl⟩))
    go_ret
    exact ⟨rfl, h1.setE _, K1.setCell (fun _ => rfl) _⟩
   ·obtain rfl := hC'.out.trans ((if_neg h0).trans (if_neg hm))
    clear hC'
    go_enter Tryz.func121, Tryz.ntmps121
    go_wp2_with (first
     | (go_at_call 33; refine hV.mono ?_; rintro e w1 ⟨rfl, h1, K1⟩; have c1 := h1.c1; have f1 := h1.f1)
     | (go_at_call 55; refine (off_any _ _ _ h1).mono ?_; rintro e w2 ⟨rfl, rfl⟩))
    go_ret
    exact ⟨rfl, h1, K1⟩
 ·have hoff : R1.off = true := by simp [Rd.off, he]
  obtain rfl := hC.out.trans (if_pos he)
  clear hC he
  go_enter Tryz.func121, Tryz.ntmps121
  go_wp2_with (first
   | (go_at_call 33; refine hV.mono ?_; rintro e w1 ⟨rfl, h1, K1⟩; have c1 := h1.c1; have f1 := h1.f1)
   | (go_at_call 55; refine (off_any _ _ _ h1).mono ?_; rintro e w2 ⟨rfl, rfl⟩))
  go_ret
  exact ⟨rfl, h1, K1⟩
theorem text_any (r : Nat) (R : Rd) (m : Int) (w : World) (h : RdAt w r R) :
  Calls Tryz.prog 74 #[.pointer (some ⟨r, 0, none⟩), .int .i64 m] w (RdTo r w (strV (R.text m).1) (R.text m).2) := by
 have hC : Hid (R.text m = if (R.count m).2.e ≠ 0 then ([], (R.count m).2) else if ((R.count m).2.b.length : Int) < (R.count m).1 then ([], ⟨(R.count m).2.b, 5⟩) else ((R.count m).2.b.take (R.count m).1.toNat, ⟨(R.count m).2.b.drop (R.count m).1.toNat, 0⟩)) := by
  show _ = _
  unfold Rd.text
  rfl
 have hV := count_any r R m w h
 have h0 : (R.count m).2.e = 0 → 0 ≤ (R.count m).1 := fun h => by
  obtain ⟨_, h2, h3, _⟩ := Rd.count_ok h
  rw [h2]
  exact h3
 generalize R.count m = V at hC hV h0
 obtain ⟨v, R1⟩ := V
 dsimp only at hC hV h0
 generalize hq : R.text m = q at *
 clear hq
 by_cases he : R1.e = 0
 ·have hoff : R1.off = false := by simp [Rd.off, he]
  obtain ⟨n, rfl⟩ : ∃ n : Nat, v = n := ⟨v.toNat, by have := h0 he; omega⟩
  have hC' : Hid (q = if (R1.b.length : Int) < (n : Int) then ([], ⟨R1.b, 5⟩) else (R1.b.take n, ⟨R1.b.drop n, 0⟩)) := by
   show _ = _
   rw [hC.out, if_neg (by simp [he])]
   rfl
  have He := hid he
  clear hC he h0
  by_cases hm : (R1.b.length : Int) < (n : Int)
  ·obtain rfl := hC'.out.trans (if_pos hm)
   clear hC'
   go_enter Tryz.func74, Tryz.ntmps74
   go_wp2_with (first
    | (go_at_call 121; refine hV.mono ?_; rintro e w1 ⟨rfl, h1, K1⟩; have c0 := h1.c0; have c1 := h1.c1; have f1 := h1.f1)
    | (go_at_call 55; refine (off_any _ _ _ h1).mono ?_; rintro e w2 ⟨rfl, rfl⟩))
   go_ret
   exact ⟨rfl, h1.setE _, K1.setCell (fun _ => rfl) _⟩
  ·obtain rfl := hC'.out.trans (if_neg hm)
   clear hC'
   have hle : n ≤ R1.b.length := by omega
   go_enter Tryz.func74, Tryz.ntmps74
   go_wp2_with (first
    | (go_at_call 121; refine hV.mono ?_; rintro e w1 ⟨rfl, h1, K1⟩; have c0 := h1.c0; have c1 := h1.c1; have f0 := h1.f0)
    | (go_at_call 55; refine (off_any _ _ _ h1).mono ?_; rintro e w2 ⟨rfl, rfl⟩))
   go_ret
   refine ⟨?_, ?_, ?_⟩
   ·show Ending.returned (.string _) = .returned (.string _)
    rw [ByteArray.extract_mk, List.drop_zero, Nat.sub_zero]
   ·rw [extract_drop]
    have := h1.setB (b := R1.b.drop n) (by rw [List.length_drop]; have := h1.2; omega)
    rw [He.out] at this
    exact this
   ·exact K1.setCell (fun _ => rfl) _
 ·have hoff : R1.off = true := by simp [Rd.off, he]
  obtain rfl := hC.out.trans (if_pos he)
  clear hC he
  go_enter Tryz.func74, Tryz.ntmps74
  go_wp2_with (first
   | (go_at_call 121; refine hV.mono ?_; rintro e w1 ⟨rfl, h1, K1⟩; have c1 := h1.c1; have f1 := h1.f1)
   | (go_at_call 55; refine (off_any _ _ _ h1).mono ?_; rintro e w2 ⟨rfl, rfl⟩))
  go_ret
  exact ⟨rfl, h1, K1⟩
theorem bool_any (r : Nat) (R : Rd) (w : World) (h : RdAt w r R) :
  Calls Tryz.prog 215 #[.pointer (some ⟨r, 0, none⟩)] w (RdTo r w (.bool R.bool.1) R.bool.2) := by
 have c0 := h.c0
 have c1 := h.c1
 have f0 := h.f0
 have f1 := h.f1
 have K0 := Keeps.refl (· = r) w
 by_cases he : R.e = 0
 ·have hoff : R.off = false := by simp [Rd.off, he]
  obtain ⟨b, x⟩ := R
  dsimp only at he
  subst he
  cases b with
  | nil =>
   have hv := hid (show Rd.bool ⟨[], 0⟩ = (false, ⟨[], 5⟩) from rfl)
   dsimp only at c0 c1
   go_enter Tryz.func215, Tryz.ntmps215
   go_wp2_with (first
    | (go_at_call 55; refine (off_any _ _ _ h).mono ?_; rintro e w1 ⟨rfl, rfl⟩))
   go_ret
   exact ⟨rfl, h.setE 5, K0.setCell (fun _ => rfl) _⟩
  | cons c t =>
   have hi : (ByteArray.mk (c :: t).toArray)[0]'(by simp [ByteArray.size]) = c := rfl
   dsimp only at c0 c1
   have hlt := h.2
   simp only [List.length_cons] at hlt
   by_cases h1 : 1 < c.toNat
   ·have hv := hid (show Rd.bool ⟨c :: t, 0⟩ = (false, ⟨c :: t, 4⟩) by simp [Rd.bool, h1])
    have h1' : (1 : Int) < (c.toNat : Int) := by omega
    go_enter Tryz.func215, Tryz.ntmps215
    go_wp2_with (first
     | (go_at_call 55; refine (off_any _ _ _ h).mono ?_; rintro e w1 ⟨rfl, rfl⟩))
    go_ret
    exact ⟨(ret_b (congrArg Prod.fst hv.out)).symm, by rw [hv.out]; exact h.setE 4, K0.setCell (fun _ => rfl) _⟩
   ·have hv := hid (show Rd.bool ⟨c :: t, 0⟩ = (c.toNat == 1, ⟨t, 0⟩) by simp [Rd.bool, h1])
    have h1' : ¬ (1 : Int) < (c.toNat : Int) := by omega
    go_enter Tryz.func215, Tryz.ntmps215
    go_wp2_with (first
     | (go_at_call 55; refine (off_any _ _ _ h).mono ?_; rintro e w1 ⟨rfl, rfl⟩))
    go_ret
    refine ⟨?_, ?_, K0.setCell (fun _ => rfl) _⟩
    ·rw [hv.out]
     show Ending.returned (.bool ((c.toNat : Int) == 1)) = .returned (.bool (c.toNat == 1))
     congr 2
     rw [Bool.eq_iff_iff, beq_iff_eq, beq_iff_eq]
     omega
    ·rw [hv.out]
     have := extract_drop (c :: t) 1
     simp only [List.length_cons] at this
     rw [this]
     exact h.setB (b := t) (by omega)
 ·have hoff : R.off = true := by simp [Rd.off, he]
  have hv := hid (Rd.bool_off he)
  clear he
  go_enter Tryz.func215, Tryz.ntmps215
  go_wp2_with (first
   | (go_at_call 55; refine (off_any _ _ _ h).mono ?_; rintro e w1 ⟨rfl, rfl⟩))
  go_ret
  exact ⟨(ret_b (congrArg Prod.fst hv.out)).symm, by rw [hv.out]; exact h, K0⟩
theorem clone_any (s : ByteArray) (w : World) (hlim : s.size ≤ 281474976710656) :
  Calls Tryz.prog 54 #[.string s] w fun e w' => e = .returned (.string s) ∧ Below w.heap.size w w' := by
 have hC := Any.stringslite_Clone Tryz.cloneL s w hlim
 change Calls Tryz.prog 98 _ _ _ at hC
 have H := hid hC
 clear hC
 go_enter Tryz.func54, Tryz.ntmps54
 go_wp2_with (go_at_call 98; refine H.out.mono ?_; rintro e w1 ⟨rfl, hb⟩)
 go_ret
 exact ⟨rfl, hb⟩
def NewRd (b : Bytes) (w : World) (e : Ending) (w' : World) : Prop := ∃ r, e = .returned (.pointer (some ⟨r, 0, none⟩)) ∧ RdAt w' r ⟨b, 0⟩ ∧ w.heap.size ≤ r ∧ Below w.heap.size w w'
theorem newReader_any (b : Bytes) (w : World) (hlim : b.length ≤ 281474976710656) :
  Calls Tryz.prog 32 #[.string ⟨b.toArray⟩] w (NewRd b w) := by
 have hl : b.length ≤ 9223372036854775807 := by omega
 go_enter Tryz.func32, Tryz.ntmps32
 go_wp2_with (go_at_call 54; refine (clone_any _ _ (by simpa [ByteArray.size] using hlim)).mono ?_; rintro e w1 ⟨rfl, hb⟩)
 go_ret
 exact ⟨_, rfl, ⟨Blk.new _ _ _, hl⟩, hb.size, hb.alloc hb.size _⟩
end Go.Ev
