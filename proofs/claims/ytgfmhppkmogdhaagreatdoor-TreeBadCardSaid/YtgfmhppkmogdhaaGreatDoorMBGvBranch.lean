/-
  DERIVED: THE SHELF's CONTRACTS AT THIS DUMP, IN PLAIN WORDS (tools/lay-plain.mjs out of 'YtgfmhppkmogdhaaGreatDoorBuildLay.lean', which tools/lay-shelf.mjs wrote): THE SAME DECLARATIONS UNDER THE SAME NAMES: 'import', 'namespace', 'open', 'def', 'theorem' AND NOTHING ELSE: no command of the shelf's: FOR A HAND-IN. Each laying: the table of numbers ('.._ren') and one theorem, a field a fact of the dump's own or the kernel's comparison; each contract: ONE APPLICATION. The check sum: what num.Crc comes to. A page is laid into a text, whatever it is: some text, some number of an error. Children that are right, one by one; children without their first key; parts of them.
-/
import Derived.Shelf.Strings.Repeat
import Derived.Shelf.Strings.Builder1
import Derived.Ground.NamesProg
import Derived.Test.YtgfmhppkmogdhaaGreatDoorProg
import Derived.WalkKit
import Derived.Outline
import Derived.Lib.Hide
import Derived.Laws.BitsAllLaws
import Derived.Test.YtgfmhppkmogdhaaGreatDoorMBEvBytes
import Derived.Test.YtgfmhppkmogdhaaGreatDoorMBEvLayB
import Derived.Shelf.Strings.BuilderF
import Derived.Test.YtgfmhppkmogdhaaGreatDoorMBGvGet
set_option linter.unusedVariables false
set_option linter.unusedSimpArgs false
namespace Go.Proofs
open Go.Shelf
def Tryz.repeatL_ren : Go.Shelf.Ren := ⟨fun | 105 => 171 | 212 => 219 | 99 => 220 | 165 => 221 | 166 => 181 | 170 => 182 | 169 => 184 | 263 => 264 | 264 => 265 | 206 => 266 | 240 => 226 | 241 => 267 | 276 => 271 | 277 => 297 | n => n, fun | 9 => 9 | 3 => 3 | 4 => 4 | 20 => 20 | 0 => 0 | 46 => 299 | 109 => 325 | 5 => 5 | 72 => 284 | 76 => 289 | 51 => 331 | 146 => 367 | 53 => 366 | 148 => 369 | 70 => 282 | 37 => 267 | 75 => 286 | 127 => 332 | 164 => 375 | 80 => 292 | n => n, fun | n => n⟩
theorem Tryz.repeatL : Go.Proofs.Lays.n105 Tryz.prog Tryz.repeatL_ren := {
  mixed := by kernel_rfl
  f99 := Tryz.func220.trans (congrArg some (by kernel_rfl))
  f105 := Tryz.func171.trans (congrArg some (by kernel_rfl))
  f165 := Tryz.func221.trans (congrArg some (by kernel_rfl))
  f166 := Tryz.func181.trans (congrArg some (by kernel_rfl))
  f169 := Tryz.func184.trans (congrArg some (by kernel_rfl))
  f170 := Tryz.func182.trans (congrArg some (by kernel_rfl))
  f206 := Tryz.func266.trans (congrArg some (by kernel_rfl))
  f212 := Tryz.func219.trans (congrArg some (by kernel_rfl))
  f240 := Tryz.func226.trans (congrArg some (by kernel_rfl))
  f241 := Tryz.func267.trans (congrArg some (by kernel_rfl))
  f263 := Tryz.func264.trans (congrArg some (by kernel_rfl))
  f264 := Tryz.func265.trans (congrArg some (by kernel_rfl))
  f276 := Tryz.func271.trans (congrArg some (by kernel_rfl))
  f277 := Tryz.func297.trans (congrArg some (by kernel_rfl))
  t0 := Tryz.underlying0
  a0 := Tryz.isAgg0
  z0 := Tryz.sizeOf0
  v0 := Tryz.zeroValue0
  t3 := Tryz.underlying3
  a3 := Tryz.isAgg3
  z3 := Tryz.sizeOf3
  v3 := Tryz.zeroValue3
  t4 := Tryz.underlying4
  a4 := Tryz.isAgg4
  z4 := Tryz.sizeOf4
  v4 := Tryz.zeroValue4
  t5 := Tryz.underlying5
  a5 := Tryz.isAgg5
  z5 := Tryz.sizeOf5
  v5 := Tryz.zeroValue5
  t9 := Tryz.underlying9
  a9 := Tryz.isAgg9
  z9 := Tryz.sizeOf9
  v9 := Tryz.zeroValue9
  t20 := Tryz.underlying20
  a20 := Tryz.isAgg20
  z20 := Tryz.sizeOf20
  v20 := Tryz.zeroValue20
  t37 := Tryz.underlying267
  a37 := Tryz.isAgg267
  z37 := Tryz.sizeOf267
  v37 := Tryz.zeroValue267
  t46 := Tryz.underlying299
  a46 := Tryz.isAgg299
  z46 := Tryz.sizeOf299
  v46 := Tryz.zeroValue299
  t51 := Tryz.underlying331
  a51 := Tryz.isAgg331
  z51 := Tryz.sizeOf331
  v51 := Tryz.zeroValue331
  t53 := Tryz.underlying366
  a53 := Tryz.isAgg366
  z53 := Tryz.sizeOf366
  v53 := Tryz.zeroValue366
  t70 := Tryz.underlying282
  a70 := Tryz.isAgg282
  z70 := Tryz.sizeOf282
  v70 := Tryz.zeroValue282
  t72 := Tryz.underlying284
  a72 := Tryz.isAgg284
  z72 := Tryz.sizeOf284
  v72 := Tryz.zeroValue284
  t75 := Tryz.underlying286
  a75 := Tryz.isAgg286
  z75 := Tryz.sizeOf286
  v75 := Tryz.zeroValue286
  t76 := Tryz.underlying289
  a76 := Tryz.isAgg289
  z76 := Tryz.sizeOf289
  v76 := Tryz.zeroValue289
  t109 := Tryz.underlying325
  a109 := Tryz.isAgg325
  z109 := Tryz.sizeOf325
  v109 := Tryz.zeroValue325
  t127 := Tryz.underlying332
  a127 := Tryz.isAgg332
  z127 := Tryz.sizeOf332
  v127 := Tryz.zeroValue332
  t146 := Tryz.underlying367
  a146 := Tryz.isAgg367
  z146 := Tryz.sizeOf367
  v146 := Tryz.zeroValue367
  t148 := Tryz.underlying369
  a148 := Tryz.isAgg369
  z148 := Tryz.sizeOf369
  v148 := Tryz.zeroValue369
  t164 := Tryz.underlying375
  a164 := Tryz.isAgg375
  z164 := Tryz.sizeOf375
  v164 := Tryz.zeroValue375 }
end Go.Proofs

set_option linter.unusedVariables false
set_option linter.unusedSimpArgs false
namespace Go.Ev
open Go.Proofs Go.RowKit

def stepBit (x : Nat) : Nat := if x % 2 = 1 then (x / 2) ^^^ 0xedb88320 else x / 2
def stepN : Nat → Nat → Nat
  | 0, x => x
  | k + 1, x => stepBit (stepN k x)
def bytesN : List UInt8 → Nat → Nat
  | [], x => x
  | b :: l, x => bytesN l (stepN 8 (x ^^^ b.toNat))
def allN : List (List UInt8) → Nat → Nat
  | [], x => x
  | s :: l, x => allN l (bytesN s x)
def bytesT (s : ByteArray) (m x : Nat) : Nat := bytesN (s.data.toList.take m) x
def crcT (ss : List ByteArray) (k : Nat) : Nat := allN ((ss.take k).map (·.data.toList)) 0xffffffff

def byteT (s : ByteArray) (m x : Nat) : Nat := bytesT s m x ^^^ (s.data.toList[m]?.getD 0).toNat

theorem stepBit_lt (x : Nat) (hx : x < 4294967296) : stepBit x < 4294967296 := by
  unfold stepBit
  split
  · exact Nat.xor_lt_two_pow (n := 32) (by omega) (by omega)
  · omega
theorem stepN_lt (j x : Nat) (hx : x < 4294967296) : stepN j x < 4294967296 := by
  induction j with
  | zero => exact hx
  | succ j ih => exact stepBit_lt _ ih
theorem xorByte_lt (x : Nat) (b : UInt8) (hx : x < 4294967296) : x ^^^ b.toNat < 4294967296 :=
  Nat.xor_lt_two_pow (n := 32) (by omega) (by have := b.toNat_lt; omega)
theorem bytesN_lt : ∀ (l : List UInt8) (x : Nat), x < 4294967296 → bytesN l x < 4294967296
  | [], _, h => h
  | b :: l, x, h => bytesN_lt l _ (stepN_lt 8 _ (xorByte_lt x b h))
theorem allN_lt : ∀ (l : List (List UInt8)) (x : Nat), x < 4294967296 → allN l x < 4294967296
  | [], _, h => h
  | s :: l, x, h => allN_lt l _ (bytesN_lt s x h)
theorem bytesN_snoc : ∀ (l : List UInt8) (b : UInt8) (x : Nat), bytesN (l ++ [b]) x = stepN 8 (bytesN l x ^^^ b.toNat)
  | [], _, _ => rfl
  | _ :: l, b, _ => bytesN_snoc l b _
theorem allN_snoc : ∀ (l : List (List UInt8)) (s : List UInt8) (x : Nat), allN (l ++ [s]) x = bytesN s (allN l x)
  | [], _, _ => rfl
  | _ :: l, s, _ => allN_snoc l s _
theorem crcT_lt (ss : List ByteArray) (k : Nat) : crcT ss k < 4294967296 := allN_lt _ _ (by omega)
theorem bytesT_lt (s : ByteArray) (m x : Nat) (hx : x < 4294967296) : bytesT s m x < 4294967296 := bytesN_lt _ _ hx
theorem byte_at (s : ByteArray) (m : Nat) (h : m < s.size) : s.data.toList[m]? = some s[m] := by
  have : m < s.data.size := h
  rw [Array.getElem?_toList, Array.getElem?_eq_getElem this]
  rfl
theorem bytesT_succ (s : ByteArray) (m x : Nat) (h : m < s.size) : bytesT s (m + 1) x = stepN 8 (byteT s m x) := by
  have e := byte_at s m h
  unfold bytesT byteT
  rw [List.take_add_one, e, Option.toList_some, bytesN_snoc]
  rfl
theorem byteT_lt (s : ByteArray) (m x : Nat) (hx : x < 4294967296) : byteT s m x < 4294967296 := xorByte_lt _ _ (bytesT_lt s m x hx)
theorem byte_eq (s : ByteArray) (m x : Nat) (h : m < s.size) (hx : x < 4294967296) : bits BinOp.xor IntKind.u32 (↑(bytesT s m x)) (↑s[m].toNat % 4294967296) = ↑(byteT s m x) := by
  have e := byte_at s m h
  have hb : s[m].toNat < 256 := s[m].toNat_lt
  have e2 : ((s[m].toNat : Int) % 4294967296) = (s[m].toNat : Int) := by omega
  rw [e2, u32_xor_nat _ _ (bytesT_lt s m x hx) (by omega)]
  unfold byteT
  rw [e]
  rfl
theorem int_eq {k : IntKind} {a b : Int} (h : a = b) : Value.int k a = .int k b := by rw [h]
theorem ret_int {k : IntKind} {a b : Int} (h : a = b) : Ending.returned (.int k a) = .returned (.int k b) := by rw [h]
theorem odd_eq {x : Nat} (hb : x < 4294967296) : (bits BinOp.and IntKind.u32 (↑x) 1 == 1) = decide (x % 2 = 1) := by
  have := u32_and_nat x 1 hb (by omega)
  rw [show ((1 : Nat) : Int) = 1 from rfl] at this
  rw [this, Nat.and_one_is_mod]
  by_cases h : x % 2 = 1
  · simp [h]
  · have : x % 2 = 0 := by omega
    simp [this]
theorem step_odd {j x : Nat} (hb : stepN j x < 4294967296) (h : (bits BinOp.and IntKind.u32 (↑(stepN j x)) 1 == 1) = true) : bits BinOp.xor IntKind.u32 (↑(stepN j x) / 2) 3988292384 = ↑(stepN (j + 1) x) := by
  rw [odd_eq hb, decide_eq_true_eq] at h
  have := u32_xor_nat (stepN j x / 2) 3988292384 (by omega) (by omega)
  rw [show ((3988292384 : Nat) : Int) = 3988292384 from rfl, Int.natCast_ediv] at this
  rw [show (2 : Int) = ((2 : Nat) : Int) from rfl, this]
  show _ = ((stepBit (stepN j x) : Nat) : Int)
  unfold stepBit
  rw [if_pos h]
theorem step_even {j x : Nat} (hb : stepN j x < 4294967296) (h : (bits BinOp.and IntKind.u32 (↑(stepN j x)) 1 == 1) = false) : (↑(stepN j x) / 2 : Int) = ↑(stepN (j + 1) x) := by
  rw [odd_eq hb, decide_eq_false_iff_not] at h
  show _ = ((stepBit (stepN j x) : Nat) : Int)
  unfold stepBit
  rw [if_neg h]
  omega
theorem crcT_succ (ss : List ByteArray) (k : Nat) (h : k < ss.length) : crcT ss (k + 1) = bytesT ss[k] ss[k].size (crcT ss k) := by
  unfold crcT bytesT
  rw [List.take_add_one, List.getElem?_eq_getElem h, Option.toList_some, List.map_append, List.map_cons, List.map_nil, allN_snoc]
  congr 1
  rw [List.take_of_length_le]
  exact Nat.le_of_eq (by rw [Array.length_toList]; rfl)
theorem not_eq (x : Nat) (hx : x < 4294967296) : wrap64 (bits BinOp.xor IntKind.u32 IntKind.u32.max ↑x) = ((x ^^^ 4294967295 : Nat) : Int) := by
  have h1 := u32_xor_nat 4294967295 x (by omega) hx
  rw [show IntKind.u32.max = ((4294967295 : Nat) : Int) from rfl, h1, Nat.xor_comm 4294967295 x]
  have h2 : x ^^^ 4294967295 < 2 ^ 32 := Nat.xor_lt_two_pow (by omega) (by omega)
  generalize x ^^^ 4294967295 = y at h2 ⊢
  unfold wrap64
  omega

set_option maxHeartbeats 400000 in
theorem crc_any (g off cap : Nat) (ss : List ByteArray) (w : World) (hl : ss.length ≤ 4294967296) (hs : ∀ s ∈ ss, s.size ≤ 4294967296)
    (hc : ∀ (j : Nat) (s : ByteArray), ss[j]? = some s → w.cell? ⟨g, off + j, none⟩ = some (.string s)) :
    Calls Tryz.prog 183 #[.slice (some ⟨g, off, none⟩) ss.length cap] w fun e w' => e = .returned (.int .i64 (crcT ss ss.length ^^^ 0xffffffff : Nat)) ∧ w' = w := by
  go_enter Tryz.func183, Tryz.ntmps183
  go_wp2
  go_loop [3, 10] (fun x i => ∃ k : Nat, k ≤ ss.length ∧ i = .int .i64 k ∧ x = .int .u32 (crcT ss k : Nat)) (fun _ i => ss.length - (intOf i).toNat)
  case atStart => exact ⟨0, Nat.zero_le _, rfl, rfl⟩
  case round =>
    obtain ⟨k, hk, rfl, rfl⟩ := hrel
    by_cases hlt : k < ss.length
    · have hck := hc k ss[k] (by simp)
      have hsk := hs ss[k] (by simp)
      go_wp2
      go_loop [3, 16] (fun x i => ∃ m : Nat, m ≤ ss[k].size ∧ i = .int .i64 m ∧ x = .int .u32 (bytesT ss[k] m (crcT ss k) : Nat)) (fun _ i => ss[k].size - (intOf i).toNat)
      case atStart => exact ⟨0, Nat.zero_le _, rfl, rfl⟩
      case round =>
        obtain ⟨m, hm, rfl, rfl⟩ := hrel
        by_cases hmt : m < ss[k].size
        · have hx0 := bytesT_lt ss[k] m (crcT ss k) (crcT_lt ss k)
          have hH := byte_eq ss[k] m (crcT ss k) hmt (crcT_lt ss k)
          have HS := Lib.hid (bytesT_succ ss[k] m (crcT ss k) hmt)
          have HH := Lib.hid hH
          clear hH
          go_wp2
          go_loop [3, 25] (fun x i => ∃ j : Nat, j ≤ 8 ∧ i = .int .i64 j ∧ x = .int .u32 (stepN j (byteT ss[k] m (crcT ss k)) : Nat)) (fun _ i => 8 - (intOf i).toNat)
          case atStart => exact ⟨0, Nat.zero_le _, rfl, by rw [HH.out]; rfl⟩
          case round =>
            obtain ⟨j, hj, rfl, rfl⟩ := hrel
            by_cases hjt : j < 8
            · have hb := stepN_lt j _ (byteT_lt ss[k] m (crcT ss k) (crcT_lt ss k))
              go_wp2
              · rename_i hodd
                go_round
                case rel => exact ⟨j + 1, by omega, by go_num, int_eq (step_odd hb hodd)⟩
                case measure => simp [intOf]; omega
              · rename_i hodd
                go_round
                case rel => exact ⟨j + 1, by omega, by go_num, int_eq (step_even hb hodd)⟩
                case measure => simp [intOf]; omega
            · have hj8 : j = 8 := by omega
              have HJ := Lib.hid hj8
              clear hj8
              go_wp2
              go_round
              case rel => exact ⟨m + 1, by omega, by go_num, int_eq (by rw [HS.out, HJ.out])⟩
              case measure => simp [intOf]; omega
        · have hm8 : m = ss[k].size := by omega
          have HM := Lib.hid hm8
          clear hm8
          go_wp2
          go_round
          case rel => exact ⟨k + 1, by omega, by go_num, int_eq (by rw [HM.out, crcT_succ ss k hlt])⟩
          case measure => simp [intOf]; omega
    · have hk8 : k = ss.length := by omega
      have HK := Lib.hid hk8
      clear hk8
      have hx := crcT_lt ss k
      go_wp2
      go_ret
      refine ⟨ret_int ?_, rfl⟩
      rw [not_eq _ hx, HK.out]

end Go.Ev

set_option linter.unusedVariables false
set_option linter.unusedSimpArgs false
namespace Go.Ev
open Go.Proofs Go.RowKit

/-- A builder that holds so many bytes. -/
def Bld (B b L : Nat) (w : World) : Prop := ∃ l : List UInt8, l.length = L ∧ Lib.IsBuilderF 284 5 B b (Lib.byteCells l) w

theorem at_below {T e : TypeId} {B b : Nat} {p : Value} {bs : List Value} {w w' : World} (h : Lib.BuilderAtF T e B b p bs w) (hb : Below w.heap.size w w') : Lib.BuilderAtF T e B b p bs w' := by
  have hlt := h.lt
  obtain ⟨hB, v, hbk, hown, hne⟩ := h
  exact ⟨hB, v, (hb.block b hlt).trans hbk, hown.kept (row := none) ⟨hb.os, hb.tape, hb.output, hb.size, fun k hk _ => hb.block k hk⟩ (by cases v.ownBlock <;> simp), hne⟩

theorem Bld.below {B b L : Nat} {w w' : World} (h : Bld B b L w) (hb : Below w.heap.size w w') : Bld B b L w' := by
  obtain ⟨l, hl, h | h⟩ := h
  · exact ⟨l, hl, .inl (at_below h hb)⟩
  · exact ⟨l, hl, .inr (at_below h hb)⟩

theorem Bld.fresh (w : World) : Bld w.heap.size w.heap.size 0 (w.alloc (.cells #[.pointer none, .slice none 0 0] 284)) :=
  ⟨[], rfl, .of (Lib.fresh_isBuilder _ _ w)⟩

theorem write_string {B b L : Nat} {w : World} (h : Bld B b L w) (s : ByteArray) (hL : L + s.size ≤ 1000000) (hBw : B ≤ w.heap.size) :
    Calls Tryz.prog 181 #[.pointer (some ⟨b, 0, none⟩), .string s] w fun e w' => e = .returned (.tuple #[.int .i64 s.size, .nilIface]) ∧ Bld B b (L + s.size) w' ∧ Below B w w' := by
  obtain ⟨l, rfl, h⟩ := h
  refine (Any.Builder_WriteString_f Tryz.bString Tryz.bX B b (Lib.byteCells l) s w h (by rw [Lib.byteCells_length]; omega) hBw).mono ?_
  rintro e w' ⟨rfl, h1, h2⟩
  refine ⟨rfl, ⟨l ++ s.data.toList, by rw [List.length_append, Lib.size_eq], .inr ?_⟩, h2⟩
  rw [Lib.byteCells_append, ← Lib.strCells_eq]
  exact h1

theorem write_first {B b : Nat} {w : World} (h : Lib.IsBuilder 284 5 B b [] w) (c : Int) (hc0 : 0 ≤ c) (hc : c < 256) (hBw : B ≤ w.heap.size) :
    Calls Tryz.prog 179 #[.pointer (some ⟨b, 0, none⟩), .int .u8 c] w fun e w' => e = .returned .nilIface ∧ Bld B b 1 w' ∧ Below B w w' := by
  refine (Any.Builder_WriteByte Tryz.bByte Tryz.bX B b [] c w h (by simp) hBw).mono ?_
  rintro e w' ⟨rfl, h1, h2⟩
  refine ⟨rfl, ⟨[UInt8.ofNat c.toNat], rfl, .of (.inr ?_)⟩, h2⟩
  have : ((UInt8.ofNat c.toNat).toNat : Int) = c := by
    rw [UInt8.toNat_ofNat_of_lt' (by show c.toNat < 256; omega)]; omega
  have e : Lib.byteCells [UInt8.ofNat c.toNat] = [] ++ [Value.int .u8 c] := by
    show [Value.int .u8 ((UInt8.ofNat c.toNat).toNat : Int)] = [Value.int .u8 c]
    rw [this]
  rw [e]
  exact h1

theorem build_len {B b L : Nat} {w : World} (h : Bld B b L w) :
    Calls Tryz.prog 182 #[.pointer (some ⟨b, 0, none⟩)] w fun e w' => e = .returned (.int .i64 L) ∧ w' = w := by
  obtain ⟨l, rfl, h⟩ := h
  refine (Any.Builder_Len_f Tryz.bLen B b (Lib.byteCells l) w h).mono ?_
  rintro e w' ⟨rfl, rfl⟩
  exact ⟨by rw [Lib.byteCells_length], rfl⟩

theorem build_text {B b L : Nat} {w : World} (h : Bld B b L w) (hBw : B ≤ w.heap.size) :
    Calls Tryz.prog 184 #[.pointer (some ⟨b, 0, none⟩)] w fun e w' => (∃ t : ByteArray, e = .returned (.string t) ∧ t.size = L) ∧ Bld B b L w' ∧ Below B w w' := by
  obtain ⟨l, rfl, h⟩ := h
  refine (Any.Builder_String_any_f Tryz.bText Tryz.bX B b l w h hBw).mono ?_
  rintro e w' ⟨rfl, h1, h2⟩
  exact ⟨⟨_, rfl, by simp [ByteArray.size]⟩, ⟨l, rfl, h1⟩, h2⟩

theorem rX : Builder.Extra Tryz.prog Tryz.repeatL_ren := {
  sizeBuilder := by kernel_rfl
  liesBuilder := by kernel_rfl
  t5 := Tryz.underlying5
  a5 := Tryz.isAgg5
  z5 := Tryz.sizeOf5
  v5 := Tryz.zeroValue5
  infoByte := by kernel_rfl
  cellsByte := by kernel_rfl
  sizeByte := by kernel_rfl
  neB5 := by decide
}

theorem repeat_zero (m : Int) (w : World) (hm : 0 ≤ m) (hn : m ≤ 1000000) :
    Calls Tryz.prog 171 #[.string ⟨#[0]⟩, .int .i64 m] w fun e w' => (∃ t : ByteArray, e = .returned (.string t) ∧ t.size = m.toNat) ∧ Below w.heap.size w w' := by
  obtain ⟨n, rfl⟩ : ∃ k : Nat, m = k := ⟨m.toNat, by omega⟩
  refine (Any.strings_Repeat Tryz.repeatL rX ⟨#[0]⟩ n w (by omega) (by show 1 * n ≤ _; omega)).mono ?_
  rintro e w' ⟨rfl, h2⟩
  exact ⟨⟨_, rfl, by simp [ByteArray.size, Lib.repeatL_length]⟩, h2⟩

set_option maxHeartbeats 1000000 in
theorem in_any (n a b : Int) (w : World) : Calls Tryz.prog 178 #[.int .i64 n, .int .i64 a, .int .i64 b] w fun e w' => e = .returned (.bool (decide (a ≤ n) && decide (n ≤ b))) ∧ w' = w := by
  go_enter Tryz.func178, Tryz.ntmps178
  go_wp2
  · rename_i h
    go_ret
    exact ⟨by simp [h], rfl⟩
  · rename_i h
    go_ret
    exact ⟨by simp [show ¬ a ≤ n by omega], rfl⟩

set_option maxHeartbeats 1000000 in
theorem put_any {B b L : Nat} {w : World} (h : Bld B b L w) (v m : Int) (n : Nat) (hm : m = n) (hn1 : 1 ≤ n) (hn7 : n ≤ 7) (hv0 : 0 ≤ v) (hv : v.toNat < 2 ^ (8 * n)) (hL : L + n ≤ 1000000) (hBw : B ≤ w.heap.size) :
    Calls Tryz.prog 180 #[.pointer (some ⟨b, 0, none⟩), .int .i64 v, .int .i64 m] w fun e w' => e = .returned (.tuple #[]) ∧ Bld B b (L + n) w' ∧ Below B w w' := by
  subst hm
  obtain ⟨v, rfl⟩ : ∃ k : Nat, v = k := ⟨v.toNat, by omega⟩
  simp only [Int.toNat_natCast] at hv
  go_enter Tryz.func180, Tryz.ntmps180
  go_wp2_with (first
    | (go_at_call 227; refine (fix_any v n _ hn1 hn7 hv).mono ?_; rintro e w1 ⟨⟨t, rfl, ht⟩, hb1⟩; have h1 := h.below hb1; have hz1 := hb1.size)
    | (go_at_call 181; refine (write_string h1 t (by omega) (by omega)).mono ?_; rintro e w2 ⟨rfl, h2, hb2⟩))
  refine bodyPost_end (results_none rfl _ _ _) rfl ?_
  exact ⟨rfl, ht ▸ h2, (hb1.mono hBw).trans hb2⟩

theorem Bld.alloc {B b L : Nat} {w : World} (h : Bld B b L w) (o : Obj) : Bld B b L (w.alloc o) := h.below ((Below.refl _ _).alloc (Nat.le_refl _) o)

theorem fresh_at (w : World) (o : Obj) : Lib.IsBuilder 284 5 (w.heap.size + 1) (w.heap.size + 1) [] ((w.alloc o).alloc (.cells #[.pointer none, .slice none 0 0] 284)) := by
  have := Lib.fresh_isBuilder 284 5 (w.alloc o)
  rwa [show (w.alloc o).heap.size = w.heap.size + 1 by simp] at this

theorem crc_lt (t : ByteArray) : (((crcT [t] [t].length ^^^ 0xffffffff : Nat) : Int)).toNat < 2 ^ (8 * 4) := by
  rw [Int.toNat_natCast]
  exact Nat.xor_lt_two_pow (n := 32) (allN_lt _ _ (by decide)) (by decide)

theorem crc_one (g : Nat) (t : ByteArray) (w : World) (ht : t.size ≤ 4294967296) (hc : w.cell? ⟨g, 0, none⟩ = some (.string t)) :
    Calls Tryz.prog 183 #[.slice (some ⟨g, 0, none⟩) 1 1] w fun e w' => e = .returned (.int .i64 (crcT [t] [t].length ^^^ 0xffffffff : Nat)) ∧ w' = w := by
  refine crc_any g 0 1 [t] w (by simp) (by simpa using ht) (fun j s hj => ?_)
  match j, hj with
  | 0, hj => cases hj; exact hc
  | j + 1, hj => simp at hj

set_option maxHeartbeats 2000000 in
set_option maxRecDepth 100000 in
theorem seal_any (id kind next : Int) (body : ByteArray) (w : World) :
    Calls Tryz.prog 121 #[.int .i64 id, .agg #[.int .i64 kind, .int .i64 next, .string body]] w fun e w' => (∃ (t : ByteArray) (k : Int), e = .returned (.tuple #[.string t, .int .i64 k])) ∧ Below w.heap.size w w' := by
  have hc : ∀ {W W' : World} (k : Nat) (v : Value), Below (w.heap.size + 1) W W' → W.cell? ⟨w.heap.size, k, none⟩ = some v → W'.cell? ⟨w.heap.size, k, none⟩ = some v := fun k v hb h => (hb.cell (p := ⟨w.heap.size, k, none⟩) (Nat.lt_succ_self _)).trans h
  have hA : Below w.heap.size w ((w.alloc (.cells #[.int .i64 kind, .int .i64 next, .string body] 81)).alloc (.cells #[.pointer none, .slice none 0 0] 284)) := ((Below.refl _ _).alloc (Nat.le_refl _) _).alloc (by simp) _
  have hN : ((w.alloc (.cells #[.int .i64 kind, .int .i64 next, .string body] 81)).alloc (.cells #[.pointer none, .slice none 0 0] 284)).cell? ⟨w.heap.size, 1, none⟩ = some (.int .i64 next) := (World.cell?_alloc_past _ _ _ (by simp)).trans (World.cell?_alloc_at _ _ _ 1 rfl)
  have hT : ((w.alloc (.cells #[.int .i64 kind, .int .i64 next, .string body] 81)).alloc (.cells #[.pointer none, .slice none 0 0] 284)).cell? ⟨w.heap.size, 2, none⟩ = some (.string body) := (World.cell?_alloc_past _ _ _ (by simp)).trans (World.cell?_alloc_at _ _ _ 2 rfl)
  go_enter Tryz.func121, Tryz.ntmps121
  go_wp2_with (first
    | (go_at_call 178; refine (in_any _ _ _ _).mono ?_; rintro e w1 ⟨rfl, rfl⟩)
    | (go_at_call 179; refine (write_first (fresh_at w _) _ (by omega) (by omega) (by simp <;> omega)).mono ?_; rintro e w1 ⟨rfl, g1, hb1⟩; have z1 := hb1.size; (try simp at z1); replace hN := hc 1 _ hb1 hN; replace hT := hc 2 _ hb1 hT)
    | (go_at_call 184; refine (build_text g8 (by omega)).mono ?_; rintro e w9 ⟨⟨t9, rfl, h9⟩, g9, hb9⟩)
    | (go_at_call 180; refine (put_any (g7.alloc _) _ 4 4 rfl (by decide) (by decide) (Int.natCast_nonneg _) (crc_lt _) (by omega) (by simp <;> omega)).mono ?_; rintro e w8 ⟨rfl, g8, hb8⟩; have z8 := hb8.size; (try simp at z8))
    | (go_at_call 183; refine (crc_one _ t7 _ (by omega) (World.cell?_alloc_at _ _ _ 0 rfl)).mono ?_; rintro e wc ⟨rfl, rfl⟩)
    | (go_at_call 184; refine (build_text g6 (by omega)).mono ?_; rintro e w7 ⟨⟨t7, rfl, h7⟩, g7, hb7⟩; have z7 := hb7.size)
    | (go_at_call 181; refine (write_string (g5.below hbr) tr (by omega) (by omega)).mono ?_; rintro e w6 ⟨rfl, g6, hb6⟩; have z6 := hb6.size)
    | (go_at_call 171; refine (repeat_zero _ _ (by omega) (by omega)).mono ?_; rintro e wr ⟨⟨tr, rfl, hr⟩, hbr⟩; have zr := hbr.size)
    | (go_at_call 182; refine (build_len g5).mono ?_; rintro e wl ⟨rfl, rfl⟩)
    | (go_at_call 181; refine (write_string g4 body (by omega) (by omega)).mono ?_; rintro e w5 ⟨rfl, g5, hb5⟩; have z5 := hb5.size)
    | (go_at_call 180; refine (put_any g3 _ 2 2 rfl (by decide) (by decide) (by omega) (by omega) (by omega) (by omega)).mono ?_; rintro e w4 ⟨rfl, g4, hb4⟩; have z4 := hb4.size; replace hN := hc 1 _ hb4 hN; replace hT := hc 2 _ hb4 hT)
    | (go_at_call 180; refine (put_any g2 _ 4 4 rfl (by decide) (by decide) (by omega) (by omega) (by omega) (by omega)).mono ?_; rintro e w3 ⟨rfl, g3, hb3⟩; have z3 := hb3.size; replace hN := hc 1 _ hb3 hN; replace hT := hc 2 _ hb3 hT)
    | (go_at_call 180; refine (put_any g1 _ 4 4 rfl (by decide) (by decide) (by omega) (by omega) (by omega) (by omega)).mono ?_; rintro e w2 ⟨rfl, g2, hb2⟩; have z2 := hb2.size; replace hN := hc 1 _ hb2 hN; replace hT := hc 2 _ hb2 hT))
  · go_ret2
    exact ⟨⟨_, _, rfl⟩, (Below.refl _ _).alloc (Nat.le_refl _) _⟩
  · go_ret2
    exact ⟨⟨_, _, rfl⟩, (Below.refl _ _).alloc (Nat.le_refl _) _⟩
  · go_ret2
    refine ⟨⟨_, _, rfl⟩, hA.trans ?_⟩
    exact ((((((((((hb1.trans hb2).trans hb3).trans hb4).trans hb5).trans (hbr.mono (by omega))).trans hb6).trans hb7).alloc (by omega) _).trans hb8).trans hb9).mono (by omega)
  · go_ret2
    exact ⟨⟨_, _, rfl⟩, (Below.refl _ _).alloc (Nat.le_refl _) _⟩
  · go_ret2
    exact ⟨⟨_, _, rfl⟩, (Below.refl _ _).alloc (Nat.le_refl _) _⟩
end Go.Ev

namespace Go.Ev

/-- The key ahead of a place. -/
def prevK (k : Bytes) (l : List Child) : Nat → Bytes
  | 0 => k
  | j + 1 => (l.getD j default).key

theorem prevK_cons (k : Bytes) (x : Child) (l : List Child) (i : Nat) : prevK k (x :: l) (i + 1) = prevK x.key l i := by
  cases i <;> simp [prevK]

theorem riseC_iff : ∀ {k : Bytes} {l : List Child}, riseC k l = true ↔ ∀ i (h : i < l.length), l[i].fit = true ∧ lessB (prevK k l i) l[i].key = true
  | k, [] => by simp [riseC]
  | k, x :: l => by
    simp only [riseC, Bool.and_eq_true, @riseC_iff x.key l]
    constructor
    · rintro ⟨⟨h1, h2⟩, h3⟩ i hi
      cases i with
      | zero => exact ⟨h1, h2⟩
      | succ i => rw [prevK_cons]; exact h3 i (Nat.lt_of_succ_lt_succ hi)
    · intro h
      refine ⟨h 0 (Nat.succ_pos _), fun i hi => ?_⟩
      have := h (i + 1) (Nat.succ_lt_succ hi)
      rw [prevK_cons] at this
      exact this

/-- What is asked of the child at a place. -/
def stepC (l : List Child) (k : Nat) (h : k < l.length) : Bool := l[k].fit && if k = 0 then l[k].key.isEmpty else lessB (l.getD (k - 1) default).key l[k].key

theorem rightC_iff {l : List Child} : rightC l = true ↔ l ≠ [] ∧ ∀ i (h : i < l.length), stepC l i h = true := by
  cases l with
  | nil => simp [rightC]
  | cons x l =>
    simp only [rightC, Bool.and_eq_true, riseC_iff, stepC]
    constructor
    · rintro ⟨⟨h1, h2⟩, h3⟩
      refine ⟨by simp, fun i hi => ?_⟩
      cases i with
      | zero => exact ⟨h1, by simpa using h2⟩
      | succ i =>
        have := h3 i (Nat.lt_of_succ_lt_succ hi)
        refine ⟨this.1, ?_⟩
        rw [if_neg (by omega)]
        have e := prevK_cons [] x l i
        have := this.2
        rw [← e] at this
        exact this
    · rintro ⟨_, h⟩
      have h0 := h 0 (Nat.succ_pos _)
      refine ⟨⟨h0.1, by simpa using h0.2⟩, fun i hi => ?_⟩
      have := h (i + 1) (Nat.succ_lt_succ hi)
      refine ⟨this.1, ?_⟩
      have h2 := this.2
      rw [if_neg (by omega)] at h2
      rw [← prevK_cons [] x l i]
      exact h2

theorem rightC_not {l : List Child} {k : Nat} (h : k < l.length) (hs : stepC l k h = false) : rightC l = false := by
  cases hr : rightC l
  · rfl
  · rw [(rightC_iff.1 hr).2 k h] at hs; cases hs

theorem layC_take {l : List Child} {k : Nat} (h : k < l.length) : layC (l.take (k + 1)) = layC (l.take k) ++ l[k].lay := by
  rw [List.take_succ_eq_append_getElem h, layC_append]
  simp [layC]
theorem layC_le (l : List Child) (k : Nat) : (layC (l.take k)).length ≤ (layC l).length := by
  have : layC l = layC (l.take k) ++ layC (l.drop k) := by rw [← layC_append, List.take_append_drop]
  rw [this, List.length_append]
  omega
theorem layC_snoc (l : List Child) (x : Child) : layC (l ++ [x]) = layC l ++ x.lay := by simp [layC_append, layC]
end Go.Ev
