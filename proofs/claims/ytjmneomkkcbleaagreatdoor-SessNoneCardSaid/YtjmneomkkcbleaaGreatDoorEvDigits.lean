/-
  Digits: of a number that is not below zero some text comes.
-/
import Derived.Test.YtjmneomkkcbleaaGreatDoorEvOps11
import Derived.Test.YtjmneomkkcbleaaGreatDoorEvFacts
import Derived.WalkKit
import Derived.Outline
import Derived.Lib.Hide
namespace Go.Ev
open Go.Proofs Go.RowKit

theorem slice_arr (W : World) (b k : Nat) (hk : k < 21) (v : Int) (hv : v = k) :
    (Instr.sliceAt 428 (.pointer (some ⟨b, 0, none⟩)) (some (.int .i64 v)) none none).run Tryz.prog W = .ok (.slice (some ⟨b, k, none⟩) (21 - k) (21 - k)) W := by
  subst hv
  have h : boundsA 21 21 (some (.int .i64 (.ofNat k))) none none = some (k, 21, 21) := by
    have h2 : Nat.ble k 21 = true := by rw [nble]; simp; omega
    simp [boundsA, optBound, boundA, isNat, oB, gd, ifB, h2]
  obtain ⟨hb, _⟩ := boundsA_of (σ := fun _ => ⟨0, 0⟩) (is := false) h (Nat.le_refl _) W
  rw [pp_eq] at hb
  simp only [Option.map_some, Option.map_none, conc, Option.isSome_none, Bool.false_eq_true, if_false] at hb
  rw [show Int.ofNat k = (k : Int) from rfl] at hb
  have h3 : ¬ (21 = k) := by omega
  simp only [Instr.sliceAt, Sem.run_bind, run_underlying Tryz.underlying428, Result.andThen_ok, Instr.sureAddr, hb, Tryz.sizeOf5, Sem.run_pure]
  simp [h3, Addr.add]
  omega

theorem bytes_str (W : World) (b k n : Nat) (c : Nat) (h : ∀ j, j < n → ∃ x : UInt8, W.cell? ⟨b, k + j, none⟩ = some (.int .u8 x.toNat)) :
    ∃ t : ByteArray, t.size = n ∧ (convert 250 9 (.slice (some ⟨b, k, none⟩) n c)).run Tryz.prog W = .ok (.string t) W := by
  rw [run_convert_bytes_string W _ _ 5 _ _ _ Tryz.underlying250 Tryz.underlying5 Tryz.underlying9]
  have h' : ∀ j, ∃ x : UInt8, j < n → W.cell? ⟨b, k + j, none⟩ = some (.int .u8 x.toNat) := fun j => by
    by_cases hj : j < n
    · obtain ⟨x, hx⟩ := h j hj; exact ⟨x, fun _ => hx⟩
    · exact ⟨0, fun e => absurd e hj⟩
  obtain ⟨f, hf⟩ := Classical.axiomOfChoice h'
  have hl := run_loadCells_list (P := Tryz.prog) (w := W) ⟨b, k, none⟩ ((((List.range n).map fun j => ((f j).toNat : Int))).map (Value.int .u8)) (fun j v hj => by
    rw [List.map_map, List.getElem?_map, Option.map_eq_some_iff] at hj
    obtain ⟨i, hi, rfl⟩ := hj
    obtain ⟨h1, h2⟩ := List.getElem?_eq_some_iff.1 hi
    rw [List.getElem_range] at h2
    subst h2
    rw [Addr.add_lit]
    exact hf _ (by simpa using h1))
  simp only [List.length_map, List.length_range] at hl
  have hr := run_bytesToString W ⟨b, k, none⟩ n c _ hl
  refine ⟨_, ?_, hr⟩
  have hsz : ∀ (l : List Int) (r : ByteArray), (l.foldl (fun r n => r.push (UInt8.ofNat n.toNat)) r).size = r.size + l.length := by
    intro l
    induction l with
    | nil => intro r; rfl
    | cons x l ih => intro r; rw [List.foldl_cons, ih, List.length_cons, ByteArray.size_push]; omega
  rw [hsz]
  simp

/-- Cells of bytes. -/
def Bytes (arr : Array Value) : Prop := arr.size = 21 ∧ ∀ j, j < 21 → ∃ b : UInt8, arr[j]? = some (.int .u8 b.toNat)

theorem int64_eq {k : IntKind} {a b : Int} (h : a = b) : Value.int k a = Value.int k b := by rw [h]

theorem bytes_set {arr : Array Value} (h : Bytes arr) (q : Nat) {i : Nat} : Bytes (arr.setIfInBounds i (Value.int IntKind.u8 (48 + (q : Int) % 10))) := by
  refine ⟨by simp [h.1], fun j hj => ?_⟩
  rw [Array.getElem?_setIfInBounds]
  split
  · rw [if_pos (by rw [h.1]; omega)]
    refine ⟨UInt8.ofNat (48 + q % 10), ?_⟩
    rw [UInt8.toNat_ofNat_of_lt' (by show 48 + q % 10 < 256; omega)]
    congr 2
  · exact h.2 j hj

theorem bytes_zero : Bytes #[.int .u8 0, .int .u8 0, .int .u8 0, .int .u8 0, .int .u8 0, .int .u8 0, .int .u8 0, .int .u8 0, .int .u8 0, .int .u8 0, .int .u8 0, .int .u8 0, .int .u8 0, .int .u8 0, .int .u8 0, .int .u8 0, .int .u8 0, .int .u8 0, .int .u8 0, .int .u8 0, .int .u8 0] := by
  refine ⟨rfl, fun j hj => ⟨0, ?_⟩⟩
  have h : j = 0 ∨ j = 1 ∨ j = 2 ∨ j = 3 ∨ j = 4 ∨ j = 5 ∨ j = 6 ∨ j = 7 ∨ j = 8 ∨ j = 9 ∨ j = 10 ∨ j = 11 ∨ j = 12 ∨ j = 13 ∨ j = 14 ∨ j = 15 ∨ j = 16 ∨ j = 17 ∨ j = 18 ∨ j = 19 ∨ j = 20 := by omega
  rcases h with rfl | rfl | rfl | rfl | rfl | rfl | rfl | rfl | rfl | rfl | rfl | rfl | rfl | rfl | rfl | rfl | rfl | rfl | rfl | rfl | rfl <;> rfl

set_option maxHeartbeats 1000000 in
set_option maxRecDepth 100000 in
theorem digits_any (v : Int) (w : World) (h0 : 0 ≤ v) (h1 : v ≤ 99999999) :
    Calls Tryz.prog 233 #[.int .i64 v] w fun e w' => (∃ t : ByteArray, e = .returned (.string t) ∧ t.size ≤ 21) ∧ Below w.heap.size w w' := by
  go_enter Tryz.func233, Tryz.ntmps233
  go_wp2
  go_loopw [3, 5] (fun u i wr => ∃ (q d : Nat) (arr : Array Value), 1 ≤ d ∧ d ≤ 8 ∧ q < 10 ^ d ∧ u = .int .u64 (q : Int) ∧ i = .int .i64 ((d : Int) + 13) ∧ Bytes arr ∧ wr = w.alloc (.cells arr 428)) (fun u _ _ => (intOf u).toNat)
  case atStart =>
    obtain ⟨n, rfl⟩ : ∃ n : Nat, v = n := ⟨v.toNat, by omega⟩
    exact ⟨n, 8, _, by omega, by omega, by omega, rfl, rfl, bytes_zero, rfl⟩
  case round =>
    obtain ⟨q, d, arr, hd1, hd2, hq, rfl, rfl, hb, rfl⟩ := hrel
    obtain ⟨x, hx⟩ := hb.2 (d + 12) (by omega)
    have hcell : (w.alloc (.cells arr 428)).cell? ⟨w.heap.size, d + 12, none⟩ = some (.int .u8 x.toNat) := by
      rw [World.cell?_alloc_at arr _ w.heap.size (d + 12) rfl]; exact hx
    have hfz : (w.alloc (.cells arr 428)).frozen? ⟨w.heap.size, d + 12, none⟩ = false := World.frozen?_alloc_at arr _ w.heap.size (d + 12) rfl
    have hq64 : q ≤ 100000000 := Nat.le_of_lt (Nat.lt_of_lt_of_le hq (by have := Nat.pow_le_pow_right (show 0 < 10 by omega) hd2; simpa using this))
    have HQ := Lib.hid hq
    have HX := Lib.hid hx
    have HB := Lib.hid hb
    clear hx hq hb
    go_wp2
    · have HSL := slice_arr (w.alloc (.cells (arr.setIfInBounds (d + 12) (Value.int IntKind.u8 (48 + ↑q % 10))) 428)) w.heap.size (d + 12) (by omega) ((d : Int) + 13 - 1) (by omega)
      rw [HSL]
      obtain ⟨t, ht, hcv⟩ := bytes_str (w.alloc (.cells (arr.setIfInBounds (d + 12) (Value.int IntKind.u8 (48 + ↑q % 10))) 428)) w.heap.size (d + 12) (9 - d) (9 - d) (fun j hj => by
        rw [World.cell?_alloc_at _ _ w.heap.size _ rfl]
        exact (bytes_set HB.out q).2 (d + 12 + j) (by omega))
      go_wp2
      go_ret
      exact ⟨⟨t, rfl, by omega⟩, (Below.refl _ _).alloc (Nat.le_refl _) _⟩
    · rename_i hne
      refine ⟨⟨q / 10, d - 1, _, ?_, by omega, ?_, rfl, int64_eq (by omega), bytes_set HB.out q, rfl⟩, ?_⟩
      · have := HQ.out
        have h2 : q / 10 ≠ 0 := by intro e; simp only [beq_eq_false_iff_ne, ne_eq] at hne; exact hne (by omega)
        rcases Nat.lt_or_ge d 2 with h3 | h3
        · have : d = 1 := by omega
          subst this
          have : q < 10 := by simpa using HQ.out
          omega
        · omega
      · have := HQ.out
        obtain ⟨m, rfl⟩ : ∃ m, d = m + 1 := ⟨d - 1, by omega⟩
        rw [Nat.pow_succ] at this
        simp only [Nat.add_sub_cancel]
        omega
      · simp only [beq_eq_false_iff_ne, ne_eq] at hne
        simp only [intOf]
        omega
end Go.Ev
