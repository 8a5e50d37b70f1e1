/-
  Texts without a byte at their ends: what strings.trimRightByte comes to.
-/
import Derived.Test.YtdopajkecfomdaaGreatDoorEvPrim
import Derived.Test.YtdopajkecfomdaaGreatDoorEvT
import Derived.WalkKit
import Derived.Outline
import Derived.Lib.Hide
namespace Go.Ev
open Go.Proofs Go.RowKit

/-- How many bytes stay. -/
def stayN (c : UInt8) (s : ByteArray) : Nat → Nat
  | 0 => 0
  | k + 1 => if s.data.toList[k]? = some c then stayN c s k else k + 1

theorem stayN_le (c : UInt8) (s : ByteArray) : ∀ k, stayN c s k ≤ k
  | 0 => Nat.le_refl _
  | k + 1 => by unfold stayN; split <;> have := stayN_le c s k <;> omega

theorem extract_all (s : ByteArray) : s.extract 0 s.size = s := by
  simp

def strLen : Value → Nat
  | .string s => s.size
  | _ => 0

theorem extract_byte (s : ByteArray) (k : Nat) (h : k < s.size) : ∃ b : UInt8, s.data.toList[k]? = some b := by
  have : k < s.data.toList.length := by simpa using h
  exact ⟨_, List.getElem?_eq_getElem this⟩

theorem extract_get (s : ByteArray) (k : Nat) (hk : k ≤ s.size) (h : k - 1 < (s.extract 0 k).size) (h0 : 0 < k) : s.data.toList[k - 1]? = some (s.extract 0 k)[k - 1] := by
  have h1 : k - 1 < s.size := by omega
  have h2 : (s.extract 0 k)[k - 1] = s[k - 1] := by
    rw [ByteArray.getElem_extract]
    simp
  rw [h2, Array.getElem?_toList]
  exact Array.getElem?_eq_getElem h1

theorem stay_eq {c : UInt8} {s : ByteArray} {k : Nat} (h0 : 0 < k) (h : s.data.toList[k - 1]? = some c) : stayN c s (k - 1) = stayN c s k := by
  obtain ⟨j, rfl⟩ : ∃ j, k = j + 1 := ⟨k - 1, by omega⟩
  simp only [Nat.add_sub_cancel] at *
  conv => rhs; unfold stayN
  rw [if_pos h]

theorem stay_ne {c b : UInt8} {s : ByteArray} {k : Nat} (h0 : 0 < k) (h : s.data.toList[k - 1]? = some b) (hne : b ≠ c) : stayN c s k = k := by
  obtain ⟨j, rfl⟩ : ∃ j, k = j + 1 := ⟨k - 1, by omega⟩
  simp only [Nat.add_sub_cancel] at *
  unfold stayN
  rw [if_neg]
  rw [h]
  simpa using hne

theorem byte_beq {b c : UInt8} {t : Bool} (h : (((b.toNat : Nat) : Int) == ((c.toNat : Nat) : Int)) = t) : decide (b = c) = t := by
  rw [← h]
  rw [Bool.eq_iff_iff]
  simp only [decide_eq_true_eq, beq_iff_eq]
  constructor
  · rintro rfl; rfl
  · intro e; exact UInt8.toNat_inj.1 (by omega)

theorem ret_val {a b : Value} (h : a = b) : Ending.returned a = .returned b := by rw [h]

theorem extract_two (s : ByteArray) (k : Nat) : (s.extract 0 k).extract 0 (k - 1) = s.extract 0 (k - 1) := by
  apply ByteArray.ext
  simp

set_option maxHeartbeats 1000000 in
theorem trim_any (s : ByteArray) (c : UInt8) (w : World) (hs : s.size ≤ 4294967296) :
    Calls Tryz.prog 472 #[.string s, .int .u8 c.toNat] w fun e w' => e = .returned (.string (s.extract 0 (stayN c s s.size))) ∧ w' = w := by
  go_enter Tryz.func472, Tryz.ntmps472
  go_wp2
  go_loop [0] (fun v => ∃ k : Nat, k ≤ s.size ∧ v = .string (s.extract 0 k) ∧ stayN c s k = stayN c s s.size) (fun v => strLen v)
  case atStart => exact ⟨s.size, Nat.le_refl _, by rw [extract_all], rfl⟩
  case round =>
    obtain ⟨k, hk, rfl, hst⟩ := hrel
    have hst' := Lib.hid hst
    clear hst
    go_wp2
    · rename_i h0 _ _ hb
      have hsz : k - 1 < (s.extract 0 k).size := by simp; omega
      have h1 := extract_get s k hk hsz h0
      have h2 := of_decide_eq_true (byte_beq hb)
      rw [h2] at h1
      refine ⟨⟨k - 1, by omega, by rw [extract_two], ?_⟩, ?_⟩
      · rw [stay_eq h0 h1, hst'.out]
      · simp [strLen]; omega
    · rename_i h0 _ _ hb
      have hsz : k - 1 < (s.extract 0 k).size := by simp; omega
      have h1 := extract_get s k hk hsz h0
      have h2 := of_decide_eq_false (byte_beq hb)
      have h3 := stay_ne h0 h1 h2
      go_ret
      exact ⟨ret_val (by rw [← hst'.out, h3]; rfl), rfl⟩
    · rename_i h0 _
      have h1 : k = 0 := by omega
      subst h1
      go_ret
      exact ⟨ret_val (by rw [← hst'.out]; rfl), rfl⟩
/-! ### The evaluator's list -/

theorem stay_snoc (c b : UInt8) (l : List UInt8) : ∀ k, k ≤ l.length → stayN c ⟨(l ++ [b]).toArray⟩ k = stayN c ⟨l.toArray⟩ k
  | 0, _ => rfl
  | k + 1, h => by
    unfold stayN
    have e : (l ++ [b])[k]? = l[k]? := List.getElem?_append_left (by omega)
    simp only [e, stay_snoc c b l k (by omega)]

theorem trimL_snoc (c b : UInt8) : ∀ l : List UInt8, trimL c.toNat (l ++ [b]) = if b = c then trimL c.toNat l else l ++ [b]
  | [] => by
    show ifB (Nat.beq b.toNat c.toNat) [] [b] = _
    by_cases h : b = c
    · subst h; simp [trimL]
    · have : Nat.beq b.toNat c.toNat = false := by
        rw [nbeq, decide_eq_false_iff_not]
        exact fun e => h (UInt8.toNat_inj.1 e)
      rw [this, if_neg h]; rfl
  | a :: l => by
    show listC (trimL c.toNat (l ++ [b])) (ifB (Nat.beq a.toNat c.toNat) [] [a]) (fun x y => a :: x :: y) = _
    rw [trimL_snoc c b l]
    by_cases h : b = c
    · rw [if_pos h, if_pos h]; rfl
    · rw [if_neg h, if_neg h]
      cases l <;> rfl

theorem trimL_eq (c : UInt8) : ∀ (n : Nat) (l : List UInt8), l.length = n → trimL c.toNat l = l.take (stayN c ⟨l.toArray⟩ l.length)
  | 0, l, h => by
    have := List.length_eq_zero_iff.1 h
    subst this; rfl
  | n + 1, l, h => by
    obtain ⟨r, b, rfl⟩ : ∃ r b, l = r ++ [b] := by
      rcases List.eq_nil_or_concat l with rfl | ⟨r, b, rfl⟩
      · simp at h
      · exact ⟨r, b, by simp⟩
    have hr : r.length = n := by simpa using h
    rw [trimL_snoc, List.length_append, List.length_singleton]
    have e : (⟨(r ++ [b]).toArray⟩ : ByteArray).data.toList[r.length]? = some b := by simp
    unfold stayN
    rw [e]
    by_cases hb : b = c
    · subst hb
      rw [if_pos rfl, if_pos rfl, stay_snoc b b r r.length (Nat.le_refl _), List.take_append_of_le_length (stayN_le _ _ _)]
      exact trimL_eq b n r hr
    · rw [if_neg hb, if_neg (by simpa using hb), List.take_of_length_le (by simp)]

end Go.Ev
