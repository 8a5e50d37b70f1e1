/-
  The check sum: what num.Crc comes to.
-/
import Derived.Test.YtdopajkecfomdaaGreatDoorProg
import Derived.WalkKit
import Derived.Outline
import Derived.Lib.Hide
import Derived.Laws.BitsAllLaws
namespace Go.Ev
open Go.Proofs Go.RowKit

def stepBit (x : Nat) : Nat := if x % 2 = 1 then (x / 2) ^^^ 0xedb88320 else x / 2
def stepN : Nat → Nat → Nat
  | 0, x => x
  | k + 1, x => stepBit (stepN k x)
def bytesN : List UInt8 → Nat → Nat
  | [], x => x
  | b :: l, x => bytesN l (stepN 8 (x ^^^ b.toNat))
def allN : List (List UInt8) → Nat → Nat
  | [], x => x
  | s :: l, x => allN l (bytesN s x)
def bytesT (s : ByteArray) (m x : Nat) : Nat := bytesN (s.data.toList.take m) x
def crcT (ss : List ByteArray) (k : Nat) : Nat := allN ((ss.take k).map (·.data.toList)) 0xffffffff

def byteT (s : ByteArray) (m x : Nat) : Nat := bytesT s m x ^^^ (s.data.toList[m]?.getD 0).toNat

theorem stepBit_lt (x : Nat) (hx : x < 4294967296) : stepBit x < 4294967296 := by
  unfold stepBit
  split
  · exact Nat.xor_lt_two_pow (n := 32) (by omega) (by omega)
  · omega
theorem stepN_lt (j x : Nat) (hx : x < 4294967296) : stepN j x < 4294967296 := by
  induction j with
  | zero => exact hx
  | succ j ih => exact stepBit_lt _ ih
theorem xorByte_lt (x : Nat) (b : UInt8) (hx : x < 4294967296) : x ^^^ b.toNat < 4294967296 :=
  Nat.xor_lt_two_pow (n := 32) (by omega) (by have := b.toNat_lt; omega)
theorem bytesN_lt : ∀ (l : List UInt8) (x : Nat), x < 4294967296 → bytesN l x < 4294967296
  | [], _, h => h
  | b :: l, x, h => bytesN_lt l _ (stepN_lt 8 _ (xorByte_lt x b h))
theorem allN_lt : ∀ (l : List (List UInt8)) (x : Nat), x < 4294967296 → allN l x < 4294967296
  | [], _, h => h
  | s :: l, x, h => allN_lt l _ (bytesN_lt s x h)
theorem bytesN_snoc : ∀ (l : List UInt8) (b : UInt8) (x : Nat), bytesN (l ++ [b]) x = stepN 8 (bytesN l x ^^^ b.toNat)
  | [], _, _ => rfl
  | _ :: l, b, _ => bytesN_snoc l b _
theorem allN_snoc : ∀ (l : List (List UInt8)) (s : List UInt8) (x : Nat), allN (l ++ [s]) x = bytesN s (allN l x)
  | [], _, _ => rfl
  | _ :: l, s, _ => allN_snoc l s _
theorem crcT_lt (ss : List ByteArray) (k : Nat) : crcT ss k < 4294967296 := allN_lt _ _ (by omega)
theorem bytesT_lt (s : ByteArray) (m x : Nat) (hx : x < 4294967296) : bytesT s m x < 4294967296 := bytesN_lt _ _ hx
theorem byte_at (s : ByteArray) (m : Nat) (h : m < s.size) : s.data.toList[m]? = some s[m] := by
  have : m < s.data.size := h
  rw [Array.getElem?_toList, Array.getElem?_eq_getElem this]
  rfl
theorem bytesT_succ (s : ByteArray) (m x : Nat) (h : m < s.size) : bytesT s (m + 1) x = stepN 8 (byteT s m x) := by
  have e := byte_at s m h
  unfold bytesT byteT
  rw [List.take_add_one, e, Option.toList_some, bytesN_snoc]
  rfl
theorem byteT_lt (s : ByteArray) (m x : Nat) (hx : x < 4294967296) : byteT s m x < 4294967296 := xorByte_lt _ _ (bytesT_lt s m x hx)
theorem byte_eq (s : ByteArray) (m x : Nat) (h : m < s.size) (hx : x < 4294967296) : bits BinOp.xor IntKind.u32 (↑(bytesT s m x)) (↑s[m].toNat % 4294967296) = ↑(byteT s m x) := by
  have e := byte_at s m h
  have hb : s[m].toNat < 256 := s[m].toNat_lt
  have e2 : ((s[m].toNat : Int) % 4294967296) = (s[m].toNat : Int) := by omega
  rw [e2, u32_xor_nat _ _ (bytesT_lt s m x hx) (by omega)]
  unfold byteT
  rw [e]
  rfl
theorem int_eq {k : IntKind} {a b : Int} (h : a = b) : Value.int k a = .int k b := by rw [h]
theorem ret_int {k : IntKind} {a b : Int} (h : a = b) : Ending.returned (.int k a) = .returned (.int k b) := by rw [h]
theorem odd_eq {x : Nat} (hb : x < 4294967296) : (bits BinOp.and IntKind.u32 (↑x) 1 == 1) = decide (x % 2 = 1) := by
  have := u32_and_nat x 1 hb (by omega)
  rw [show ((1 : Nat) : Int) = 1 from rfl] at this
  rw [this, Nat.and_one_is_mod]
  by_cases h : x % 2 = 1
  · simp [h]
  · have : x % 2 = 0 := by omega
    simp [this]
theorem step_odd {j x : Nat} (hb : stepN j x < 4294967296) (h : (bits BinOp.and IntKind.u32 (↑(stepN j x)) 1 == 1) = true) : bits BinOp.xor IntKind.u32 (↑(stepN j x) / 2) 3988292384 = ↑(stepN (j + 1) x) := by
  rw [odd_eq hb, decide_eq_true_eq] at h
  have := u32_xor_nat (stepN j x / 2) 3988292384 (by omega) (by omega)
  rw [show ((3988292384 : Nat) : Int) = 3988292384 from rfl, Int.natCast_ediv] at this
  rw [show (2 : Int) = ((2 : Nat) : Int) from rfl, this]
  show _ = ((stepBit (stepN j x) : Nat) : Int)
  unfold stepBit
  rw [if_pos h]
theorem step_even {j x : Nat} (hb : stepN j x < 4294967296) (h : (bits BinOp.and IntKind.u32 (↑(stepN j x)) 1 == 1) = false) : (↑(stepN j x) / 2 : Int) = ↑(stepN (j + 1) x) := by
  rw [odd_eq hb, decide_eq_false_iff_not] at h
  show _ = ((stepBit (stepN j x) : Nat) : Int)
  unfold stepBit
  rw [if_neg h]
  omega
theorem crcT_succ (ss : List ByteArray) (k : Nat) (h : k < ss.length) : crcT ss (k + 1) = bytesT ss[k] ss[k].size (crcT ss k) := by
  unfold crcT bytesT
  rw [List.take_add_one, List.getElem?_eq_getElem h, Option.toList_some, List.map_append, List.map_cons, List.map_nil, allN_snoc]
  congr 1
  rw [List.take_of_length_le]
  exact Nat.le_of_eq (by rw [Array.length_toList]; rfl)
theorem not_eq (x : Nat) (hx : x < 4294967296) : wrap64 (bits BinOp.xor IntKind.u32 IntKind.u32.max ↑x) = ((x ^^^ 4294967295 : Nat) : Int) := by
  have h1 := u32_xor_nat 4294967295 x (by omega) hx
  rw [show IntKind.u32.max = ((4294967295 : Nat) : Int) from rfl, h1, Nat.xor_comm 4294967295 x]
  have h2 : x ^^^ 4294967295 < 2 ^ 32 := Nat.xor_lt_two_pow (by omega) (by omega)
  generalize x ^^^ 4294967295 = y at h2 ⊢
  unfold wrap64
  omega

set_option maxHeartbeats 400000 in
theorem crc_any (g off cap : Nat) (ss : List ByteArray) (w : World) (hl : ss.length ≤ 4294967296) (hs : ∀ s ∈ ss, s.size ≤ 4294967296)
    (hc : ∀ (j : Nat) (s : ByteArray), ss[j]? = some s → w.cell? ⟨g, off + j, none⟩ = some (.string s)) :
    Calls Tryz.prog 122 #[.slice (some ⟨g, off, none⟩) ss.length cap] w fun e w' => e = .returned (.int .i64 (crcT ss ss.length ^^^ 0xffffffff : Nat)) ∧ w' = w := by
  go_enter Tryz.func122, Tryz.ntmps122
  go_wp2
  go_loop [3, 10] (fun x i => ∃ k : Nat, k ≤ ss.length ∧ i = .int .i64 k ∧ x = .int .u32 (crcT ss k : Nat)) (fun _ i => ss.length - (intOf i).toNat)
  case atStart => exact ⟨0, Nat.zero_le _, rfl, rfl⟩
  case round =>
    obtain ⟨k, hk, rfl, rfl⟩ := hrel
    by_cases hlt : k < ss.length
    · have hck := hc k ss[k] (by simp)
      have hsk := hs ss[k] (by simp)
      go_wp2
      go_loop [3, 16] (fun x i => ∃ m : Nat, m ≤ ss[k].size ∧ i = .int .i64 m ∧ x = .int .u32 (bytesT ss[k] m (crcT ss k) : Nat)) (fun _ i => ss[k].size - (intOf i).toNat)
      case atStart => exact ⟨0, Nat.zero_le _, rfl, rfl⟩
      case round =>
        obtain ⟨m, hm, rfl, rfl⟩ := hrel
        by_cases hmt : m < ss[k].size
        · have hx0 := bytesT_lt ss[k] m (crcT ss k) (crcT_lt ss k)
          have hH := byte_eq ss[k] m (crcT ss k) hmt (crcT_lt ss k)
          have HS := Lib.hid (bytesT_succ ss[k] m (crcT ss k) hmt)
          have HH := Lib.hid hH
          clear hH
          go_wp2
          go_loop [3, 25] (fun x i => ∃ j : Nat, j ≤ 8 ∧ i = .int .i64 j ∧ x = .int .u32 (stepN j (byteT ss[k] m (crcT ss k)) : Nat)) (fun _ i => 8 - (intOf i).toNat)
          case atStart => exact ⟨0, Nat.zero_le _, rfl, by rw [HH.out]; rfl⟩
          case round =>
            obtain ⟨j, hj, rfl, rfl⟩ := hrel
            by_cases hjt : j < 8
            · have hb := stepN_lt j _ (byteT_lt ss[k] m (crcT ss k) (crcT_lt ss k))
              go_wp2
              · rename_i hodd
                go_round
                case rel => exact ⟨j + 1, by omega, by go_num, int_eq (step_odd hb hodd)⟩
                case measure => simp [intOf]; omega
              · rename_i hodd
                go_round
                case rel => exact ⟨j + 1, by omega, by go_num, int_eq (step_even hb hodd)⟩
                case measure => simp [intOf]; omega
            · have hj8 : j = 8 := by omega
              have HJ := Lib.hid hj8
              clear hj8
              go_wp2
              go_round
              case rel => exact ⟨m + 1, by omega, by go_num, int_eq (by rw [HS.out, HJ.out])⟩
              case measure => simp [intOf]; omega
        · have hm8 : m = ss[k].size := by omega
          have HM := Lib.hid hm8
          clear hm8
          go_wp2
          go_round
          case rel => exact ⟨k + 1, by omega, by go_num, int_eq (by rw [HM.out, crcT_succ ss k hlt])⟩
          case measure => simp [intOf]; omega
    · have hk8 : k = ss.length := by omega
      have HK := Lib.hid hk8
      clear hk8
      have hx := crcT_lt ss k
      go_wp2
      go_ret
      refine ⟨ret_int ?_, rfl⟩
      rw [not_eq _ hx, HK.out]

end Go.Ev
