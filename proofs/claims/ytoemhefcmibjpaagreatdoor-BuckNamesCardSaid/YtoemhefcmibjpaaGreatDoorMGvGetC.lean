/-
  DERIVED: THE SHELF's CONTRACTS AT THIS DUMP, IN PLAIN WORDS (tools/lay-plain.mjs out of 'YtoemhefcmibjpaaGreatDoorBuildLay.lean', which tools/lay-shelf.mjs wrote): THE SAME DECLARATIONS UNDER THE SAME NAMES: 'import', 'namespace', 'open', 'def', 'theorem' AND NOTHING ELSE: no command of the shelf's: FOR A HAND-IN. Each laying: the table of numbers ('.._ren') and one theorem, a field a fact of the dump's own or the kernel's comparison; each contract: ONE APPLICATION. The check sum: what num.Crc comes to. A page is laid into a text, whatever it is: some text, some number of an error. A map with numbers as keys, as a row of entries: looked up, put into, deleted from. What a pager of a first transaction knows: its pages and its spare numbers. A region that draws its order, within a round: what is shown without a fence holds there, too. A range over a function whose rounds come in a known order and never leave: the law, directed by the list of what comes. Children that are right, one by one; children without their first key; parts of them. What is read from a branch's bytes, whatever they are, is short.
-/
import Derived.Shelf.Strings.Repeat
import Derived.Shelf.Strings.Builder1
import Derived.Ground.NamesProg
import Derived.Test.YtoemhefcmibjpaaGreatDoorProg
import Derived.WalkKit
import Derived.Outline
import Derived.Lib.Hide
import Derived.Laws.BitsAllLaws
import Derived.Test.YtoemhefcmibjpaaGreatDoorMEvBytes
import Derived.Test.YtoemhefcmibjpaaGreatDoorMEvLayB
import Derived.Shelf.Strings.BuilderF
import Derived.MapKept
import Derived.Test.YtoemhefcmibjpaaGreatDoorMGvFind
import Derived.RangeFuncNested
import Derived.RangeFuncCalls
import Derived.OrdersIn
import Derived.TacticsIn
import Derived.RangeFuncBound
import Derived.RangeFuncLeaves
import Derived.Test.YtoemhefcmibjpaaGreatDoorMGvGet
set_option linter.unusedVariables false
set_option linter.unusedSimpArgs false
namespace Go.Proofs
open Go.Shelf
def Tryz.repeatL_ren : Go.Shelf.Ren := ⟨fun | 105 => 60 | 212 => 103 | 99 => 104 | 165 => 105 | 166 => 106 | 170 => 107 | 169 => 108 | 263 => 143 | 264 => 144 | 206 => 145 | 240 => 146 | 241 => 147 | 276 => 182 | 277 => 183 | n => n, fun | 9 => 9 | 3 => 3 | 4 => 4 | 20 => 20 | 0 => 0 | 46 => 187 | 109 => 188 | 5 => 5 | 72 => 193 | 76 => 196 | 51 => 240 | 146 => 241 | 53 => 243 | 148 => 244 | 70 => 191 | 37 => 127 | 75 => 195 | 127 => 246 | 164 => 279 | 80 => 198 | n => n, fun | n => n⟩
theorem Tryz.repeatL : Go.Proofs.Lays.n105 Tryz.prog Tryz.repeatL_ren := {
 mixed := by kernel_rfl
 f99 := Tryz.func104.trans (congrArg some (by kernel_rfl))
 f105 := Tryz.func60.trans (congrArg some (by kernel_rfl))
 f165 := Tryz.func105.trans (congrArg some (by kernel_rfl))
 f166 := Tryz.func106.trans (congrArg some (by kernel_rfl))
 f169 := Tryz.func108.trans (congrArg some (by kernel_rfl))
 f170 := Tryz.func107.trans (congrArg some (by kernel_rfl))
 f206 := Tryz.func145.trans (congrArg some (by kernel_rfl))
 f212 := Tryz.func103.trans (congrArg some (by kernel_rfl))
 f240 := Tryz.func146.trans (congrArg some (by kernel_rfl))
 f241 := Tryz.func147.trans (congrArg some (by kernel_rfl))
 f263 := Tryz.func143.trans (congrArg some (by kernel_rfl))
 f264 := Tryz.func144.trans (congrArg some (by kernel_rfl))
 f276 := Tryz.func182.trans (congrArg some (by kernel_rfl))
 f277 := Tryz.func183.trans (congrArg some (by kernel_rfl))
 t0 := Tryz.underlying0
 a0 := Tryz.isAgg0
 z0 := Tryz.sizeOf0
 v0 := Tryz.zeroValue0
 t3 := Tryz.underlying3
 a3 := Tryz.isAgg3
 z3 := Tryz.sizeOf3
 v3 := Tryz.zeroValue3
 t4 := Tryz.underlying4
 a4 := Tryz.isAgg4
 z4 := Tryz.sizeOf4
 v4 := Tryz.zeroValue4
 t5 := Tryz.underlying5
 a5 := Tryz.isAgg5
 z5 := Tryz.sizeOf5
 v5 := Tryz.zeroValue5
 t9 := Tryz.underlying9
 a9 := Tryz.isAgg9
 z9 := Tryz.sizeOf9
 v9 := Tryz.zeroValue9
 t20 := Tryz.underlying20
 a20 := Tryz.isAgg20
 z20 := Tryz.sizeOf20
 v20 := Tryz.zeroValue20
 t37 := Tryz.underlying127
 a37 := Tryz.isAgg127
 z37 := Tryz.sizeOf127
 v37 := Tryz.zeroValue127
 t46 := Tryz.underlying187
 a46 := Tryz.isAgg187
 z46 := Tryz.sizeOf187
 v46 := Tryz.zeroValue187
 t51 := Tryz.underlying240
 a51 := Tryz.isAgg240
 z51 := Tryz.sizeOf240
 v51 := Tryz.zeroValue240
 t53 := Tryz.underlying243
 a53 := Tryz.isAgg243
 z53 := Tryz.sizeOf243
 v53 := Tryz.zeroValue243
 t70 := Tryz.underlying191
 a70 := Tryz.isAgg191
 z70 := Tryz.sizeOf191
 v70 := Tryz.zeroValue191
 t72 := Tryz.underlying193
 a72 := Tryz.isAgg193
 z72 := Tryz.sizeOf193
 v72 := Tryz.zeroValue193
 t75 := Tryz.underlying195
 a75 := Tryz.isAgg195
 z75 := Tryz.sizeOf195
 v75 := Tryz.zeroValue195
 t76 := Tryz.underlying196
 a76 := Tryz.isAgg196
 z76 := Tryz.sizeOf196
 v76 := Tryz.zeroValue196
 t109 := Tryz.underlying188
 a109 := Tryz.isAgg188
 z109 := Tryz.sizeOf188
 v109 := Tryz.zeroValue188
 t127 := Tryz.underlying246
 a127 := Tryz.isAgg246
 z127 := Tryz.sizeOf246
 v127 := Tryz.zeroValue246
 t146 := Tryz.underlying241
 a146 := Tryz.isAgg241
 z146 := Tryz.sizeOf241
 v146 := Tryz.zeroValue241
 t148 := Tryz.underlying244
 a148 := Tryz.isAgg244
 z148 := Tryz.sizeOf244
 v148 := Tryz.zeroValue244
 t164 := Tryz.underlying279
 a164 := Tryz.isAgg279
 z164 := Tryz.sizeOf279
 v164 := Tryz.zeroValue279 }
end Go.Proofs

set_option linter.unusedVariables false
set_option linter.unusedSimpArgs false
namespace Go.Ev
open Go.Proofs Go.RowKit
def stepBit (x : Nat) : Nat := if x % 2 = 1 then (x / 2) ^^^ 0xedb88320 else x / 2
def stepN : Nat → Nat → Nat
 | 0, x => x
 | k + 1, x => stepBit (stepN k x)
def bytesN : List UInt8 → Nat → Nat
 | [], x => x
 | b :: l, x => bytesN l (stepN 8 (x ^^^ b.toNat))
def allN : List (List UInt8) → Nat → Nat
 | [], x => x
 | s :: l, x => allN l (bytesN s x)
def bytesT (s : ByteArray) (m x : Nat) : Nat := bytesN (s.data.toList.take m) x
def crcT (ss : List ByteArray) (k : Nat) : Nat := allN ((ss.take k).map (·.data.toList)) 0xffffffff
def byteT (s : ByteArray) (m x : Nat) : Nat := bytesT s m x ^^^ (s.data.toList[m]?.getD 0).toNat
theorem stepBit_lt (x : Nat) (hx : x < 4294967296) : stepBit x < 4294967296 := by
 unfold stepBit
 split
 ·exact Nat.xor_lt_two_pow (n := 32) (by omega) (by omega)
 ·omega
theorem stepN_lt (j x : Nat) (hx : x < 4294967296) : stepN j x < 4294967296 := by
 induction j with
 | zero => exact hx
 | succ j ih => exact stepBit_lt _ ih
theorem xorByte_lt (x : Nat) (b : UInt8) (hx : x < 4294967296) : x ^^^ b.toNat < 4294967296 :=
 Nat.xor_lt_two_pow (n := 32) (by omega) (by have := b.toNat_lt; omega)
theorem bytesN_lt : ∀ (l : List UInt8) (x : Nat), x < 4294967296 → bytesN l x < 4294967296
 | [], _, h => h
 | b :: l, x, h => bytesN_lt l _ (stepN_lt 8 _ (xorByte_lt x b h))
theorem allN_lt : ∀ (l : List (List UInt8)) (x : Nat), x < 4294967296 → allN l x < 4294967296
 | [], _, h => h
 | s :: l, x, h => allN_lt l _ (bytesN_lt s x h)
theorem bytesN_snoc : ∀ (l : List UInt8) (b : UInt8) (x : Nat), bytesN (l ++ [b]) x = stepN 8 (bytesN l x ^^^ b.toNat)
 | [], _, _ => rfl
 | _ :: l, b, _ => bytesN_snoc l b _
theorem allN_snoc : ∀ (l : List (List UInt8)) (s : List UInt8) (x : Nat), allN (l ++ [s]) x = bytesN s (allN l x)
 | [], _, _ => rfl
 | _ :: l, s, _ => allN_snoc l s _
theorem crcT_lt (ss : List ByteArray) (k : Nat) : crcT ss k < 4294967296 := allN_lt _ _ (by omega)
theorem bytesT_lt (s : ByteArray) (m x : Nat) (hx : x < 4294967296) : bytesT s m x < 4294967296 := bytesN_lt _ _ hx
theorem byte_at (s : ByteArray) (m : Nat) (h : m < s.size) : s.data.toList[m]? = some s[m] := by
 have : m < s.data.size := h
 rw [Array.getElem?_toList, Array.getElem?_eq_getElem this]
 rfl
theorem bytesT_succ (s : ByteArray) (m x : Nat) (h : m < s.size) : bytesT s (m + 1) x = stepN 8 (byteT s m x) := by
 have e := byte_at s m h
 unfold bytesT byteT
 rw [List.take_add_one, e, Option.toList_some, bytesN_snoc]
 rfl
theorem byteT_lt (s : ByteArray) (m x : Nat) (hx : x < 4294967296) : byteT s m x < 4294967296 := xorByte_lt _ _ (bytesT_lt s m x hx)
theorem byte_eq (s : ByteArray) (m x : Nat) (h : m < s.size) (hx : x < 4294967296) : bits BinOp.xor IntKind.u32 (↑(bytesT s m x)) (↑s[m].toNat % 4294967296) = ↑(byteT s m x) := by
 have e := byte_at s m h
 have hb : s[m].toNat < 256 := s[m].toNat_lt
 have e2 : ((s[m].toNat : Int) % 4294967296) = (s[m].toNat : Int) := by omega
 rw [e2, u32_xor_nat _ _ (bytesT_lt s m x hx) (by omega)]
 unfold byteT
 rw [e]
 rfl
theorem int_eq {k : IntKind} {a b : Int} (h : a = b) : Value.int k a = .int k b := by rw [h]
theorem ret_int {k : IntKind} {a b : Int} (h : a = b) : Ending.returned (.int k a) = .returned (.int k b) := by rw [h]
theorem odd_eq {x : Nat} (hb : x < 4294967296) : (bits BinOp.and IntKind.u32 (↑x) 1 == 1) = decide (x % 2 = 1) := by
 have := u32_and_nat x 1 hb (by omega)
 rw [show ((1 : Nat) : Int) = 1 from rfl] at this
 rw [this, Nat.and_one_is_mod]
 by_cases h : x % 2 = 1
 ·simp [h]
 ·have : x % 2 = 0 := by omega
  simp [this]
theorem step_odd {j x : Nat} (hb : stepN j x < 4294967296) (h : (bits BinOp.and IntKind.u32 (↑(stepN j x)) 1 == 1) = true) : bits BinOp.xor IntKind.u32 (↑(stepN j x) / 2) 3988292384 = ↑(stepN (j + 1) x) := by
 rw [odd_eq hb, decide_eq_true_eq] at h
 have := u32_xor_nat (stepN j x / 2) 3988292384 (by omega) (by omega)
 rw [show ((3988292384 : Nat) : Int) = 3988292384 from rfl, Int.natCast_ediv] at this
 rw [show (2 : Int) = ((2 : Nat) : Int) from rfl, this]
 show _ = ((stepBit (stepN j x) : Nat) : Int)
 unfold stepBit
 rw [if_pos h]
theorem step_even {j x : Nat} (hb : stepN j x < 4294967296) (h : (bits BinOp.and IntKind.u32 (↑(stepN j x)) 1 == 1) = false) : (↑(stepN j x) / 2 : Int) = ↑(stepN (j + 1) x) := by
 rw [odd_eq hb, decide_eq_false_iff_not] at h
 show _ = ((stepBit (stepN j x) : Nat) : Int)
 unfold stepBit
 rw [if_neg h]
 omega
theorem crcT_succ (ss : List ByteArray) (k : Nat) (h : k < ss.length) : crcT ss (k + 1) = bytesT ss[k] ss[k].size (crcT ss k) := by
 unfold crcT bytesT
 rw [List.take_add_one, List.getElem?_eq_getElem h, Option.toList_some, List.map_append, List.map_cons, List.map_nil, allN_snoc]
 congr 1
 rw [List.take_of_length_le]
 exact Nat.le_of_eq (by rw [Array.length_toList]; rfl)
theorem not_eq (x : Nat) (hx : x < 4294967296) : wrap64 (bits BinOp.xor IntKind.u32 IntKind.u32.max ↑x) = ((x ^^^ 4294967295 : Nat) : Int) := by
 have h1 := u32_xor_nat 4294967295 x (by omega) hx
 rw [show IntKind.u32.max = ((4294967295 : Nat) : Int) from rfl, h1, Nat.xor_comm 4294967295 x]
 have h2 : x ^^^ 4294967295 < 2 ^ 32 := Nat.xor_lt_two_pow (by omega) (by omega)
 generalize x ^^^ 4294967295 = y at h2 ⊢
 unfold wrap64
 omega
set_option maxHeartbeats 400000 in
theorem crc_any (g off cap : Nat) (ss : List ByteArray) (w : World) (hl : ss.length ≤ 4294967296) (hs : ∀ s ∈ ss, s.size ≤ 4294967296)
  (hc : ∀ (j : Nat) (s : ByteArray), ss[j]? = some s → w.cell? ⟨g, off + j, none⟩ = some (.string s)) :
  Calls Tryz.prog 119 #[.slice (some ⟨g, off, none⟩) ss.length cap] w fun e w' => e = .returned (.int .i64 (crcT ss ss.length ^^^ 0xffffffff : Nat)) ∧ w' = w := by
 go_enter Tryz.func119, Tryz.ntmps119
 go_wp2
 go_loop [3, 10] (fun x i => ∃ k : Nat, k ≤ ss.length ∧ i = .int .i64 k ∧ x = .int .u32 (crcT ss k : Nat)) (fun _ i => ss.length - (intOf i).toNat)
 case atStart => exact ⟨0, Nat.zero_le _, rfl, rfl⟩
 case round =>
  obtain ⟨k, hk, rfl, rfl⟩ := hrel
  by_cases hlt : k < ss.length
  ·have hck := hc k ss[k] (by simp)
   have hsk := hs ss[k] (by simp)
   go_wp2
   go_loop [3, 16] (fun x i => ∃ m : Nat, m ≤ ss[k].size ∧ i = .int .i64 m ∧ x = .int .u32 (bytesT ss[k] m (crcT ss k) : Nat)) (fun _ i => ss[k].size - (intOf i).toNat)
   case atStart => exact ⟨0, Nat.zero_le _, rfl, rfl⟩
   case round =>
    obtain ⟨m, hm, rfl, rfl⟩ := hrel
    by_cases hmt : m < ss[k].size
    ·have hx0 := bytesT_lt ss[k] m (crcT ss k) (crcT_lt ss k)
     have hH := byte_eq ss[k] m (crcT ss k) hmt (crcT_lt ss k)
     have HS := Lib.hid (bytesT_succ ss[k] m (crcT ss k) hmt)
     have HH := Lib.hid hH
     clear hH
     go_wp2
     go_loop [3, 25] (fun x i => ∃ j : Nat, j ≤ 8 ∧ i = .int .i64 j ∧ x = .int .u32 (stepN j (byteT ss[k] m (crcT ss k)) : Nat)) (fun _ i => 8 - (intOf i).toNat)
     case atStart => exact ⟨0, Nat.zero_le _, rfl, by rw [HH.out]; rfl⟩
     case round =>
      obtain ⟨j, hj, rfl, rfl⟩ := hrel
      by_cases hjt : j < 8
      ·have hb := stepN_lt j _ (byteT_lt ss[k] m (crcT ss k) (crcT_lt ss k))
       go_wp2
       ·rename_i hodd
        go_round
        case rel => exact ⟨j + 1, by omega, by go_num, int_eq (step_odd hb hodd)⟩
        case measure => simp [intOf]; omega
       ·rename_i hodd
        go_round
        case rel => exact ⟨j + 1, by omega, by go_num, int_eq (step_even hb hodd)⟩
        case measure => simp [intOf]; omega
      ·have hj8 : j = 8 := by omega
       have HJ := Lib.hid hj8
       clear hj8
       go_wp2
       go_round
       case rel => exact ⟨m + 1, by omega, by go_num, int_eq (by rw [HS.out, HJ.out])⟩
       case measure => simp [intOf]; omega
    ·have hm8 : m = ss[k].size := by omega
     have HM := Lib.hid hm8
     clear hm8
     go_wp2
     go_round
     case rel => exact ⟨k + 1, by omega, by go_num, int_eq (by rw [HM.out, crcT_succ ss k hlt])⟩
     case measure => simp [intOf]; omega
  ·have hk8 : k = ss.length := by omega
   have HK := Lib.hid hk8
   clear hk8
   have hx := crcT_lt ss k
   go_wp2
   go_ret
   refine ⟨ret_int ?_, rfl⟩
   rw [not_eq _ hx, HK.out]
end Go.Ev

set_option linter.unusedVariables false
set_option linter.unusedSimpArgs false
namespace Go.Ev
open Go.Proofs Go.RowKit
def Bld (B b L : Nat) (w : World) : Prop := ∃ l : List UInt8, l.length = L ∧ Lib.IsBuilderF 193 5 B b (Lib.byteCells l) w
theorem at_below {T e : TypeId} {B b : Nat} {p : Value} {bs : List Value} {w w' : World} (h : Lib.BuilderAtF T e B b p bs w) (hb : Below w.heap.size w w') : Lib.BuilderAtF T e B b p bs w' := by
 have hlt := h.lt
 obtain ⟨hB, v, hbk, hown, hne⟩ := h
 exact ⟨hB, v, (hb.block b hlt).trans hbk, hown.kept (row := none) ⟨hb.os, hb.tape, hb.output, hb.size, fun k hk _ => hb.block k hk⟩ (by cases v.ownBlock <;> simp), hne⟩
theorem Bld.below {B b L : Nat} {w w' : World} (h : Bld B b L w) (hb : Below w.heap.size w w') : Bld B b L w' := by
 obtain ⟨l, hl, h | h⟩ := h
 ·exact ⟨l, hl, .inl (at_below h hb)⟩
 ·exact ⟨l, hl, .inr (at_below h hb)⟩
theorem Bld.fresh (w : World) : Bld w.heap.size w.heap.size 0 (w.alloc (.cells #[.pointer none, .slice none 0 0] 193)) :=
 ⟨[], rfl, .of (Lib.fresh_isBuilder _ _ w)⟩
theorem write_string {B b L : Nat} {w : World} (h : Bld B b L w) (s : ByteArray) (hL : L + s.size ≤ 1000000) (hBw : B ≤ w.heap.size) :
  Calls Tryz.prog 106 #[.pointer (some ⟨b, 0, none⟩), .string s] w fun e w' => e = .returned (.tuple #[.int .i64 s.size, .nilIface]) ∧ Bld B b (L + s.size) w' ∧ Below B w w' := by
 obtain ⟨l, rfl, h⟩ := h
 refine (Any.Builder_WriteString_f Tryz.bString Tryz.bX B b (Lib.byteCells l) s w h (by rw [Lib.byteCells_length]; omega) hBw).mono ?_
 rintro e w' ⟨rfl, h1, h2⟩
 refine ⟨rfl, ⟨l ++ s.data.toList, by rw [List.length_append, Lib.size_eq], .inr ?_⟩, h2⟩
 rw [Lib.byteCells_append, ← Lib.strCells_eq]
 exact h1
theorem write_first {B b : Nat} {w : World} (h : Lib.IsBuilder 193 5 B b [] w) (c : Int) (hc0 : 0 ≤ c) (hc : c < 256) (hBw : B ≤ w.heap.size) :
  Calls Tryz.prog 117 #[.pointer (some ⟨b, 0, none⟩), .int .u8 c] w fun e w' => e = .returned .nilIface ∧ Bld B b 1 w' ∧ Below B w w' := by
 refine (Any.Builder_WriteByte Tryz.bByte Tryz.bX B b [] c w h (by simp) hBw).mono ?_
 rintro e w' ⟨rfl, h1, h2⟩
 refine ⟨rfl, ⟨[UInt8.ofNat c.toNat], rfl, .of (.inr ?_)⟩, h2⟩
 have : ((UInt8.ofNat c.toNat).toNat : Int) = c := by
  rw [UInt8.toNat_ofNat_of_lt' (by show c.toNat < 256; omega)]; omega
 have e : Lib.byteCells [UInt8.ofNat c.toNat] = [] ++ [Value.int .u8 c] := by
  show [Value.int .u8 ((UInt8.ofNat c.toNat).toNat : Int)] = [Value.int .u8 c]
  rw [this]
 rw [e]
 exact h1
theorem build_len {B b L : Nat} {w : World} (h : Bld B b L w) :
  Calls Tryz.prog 107 #[.pointer (some ⟨b, 0, none⟩)] w fun e w' => e = .returned (.int .i64 L) ∧ w' = w := by
 obtain ⟨l, rfl, h⟩ := h
 refine (Any.Builder_Len_f Tryz.bLen B b (Lib.byteCells l) w h).mono ?_
 rintro e w' ⟨rfl, rfl⟩
 exact ⟨by rw [Lib.byteCells_length], rfl⟩
theorem build_text {B b L : Nat} {w : World} (h : Bld B b L w) (hBw : B ≤ w.heap.size) :
  Calls Tryz.prog 108 #[.pointer (some ⟨b, 0, none⟩)] w fun e w' => (∃ t : ByteArray, e = .returned (.string t) ∧ t.size = L) ∧ Bld B b L w' ∧ Below B w w' := by
 obtain ⟨l, rfl, h⟩ := h
 refine (Any.Builder_String_any_f Tryz.bText Tryz.bX B b l w h hBw).mono ?_
 rintro e w' ⟨rfl, h1, h2⟩
 exact ⟨⟨_, rfl, by simp [ByteArray.size]⟩, ⟨l, rfl, h1⟩, h2⟩
theorem rX : Builder.Extra Tryz.prog Tryz.repeatL_ren := {
 sizeBuilder := by kernel_rfl
 liesBuilder := by kernel_rfl
 t5 := Tryz.underlying5
 a5 := Tryz.isAgg5
 z5 := Tryz.sizeOf5
 v5 := Tryz.zeroValue5
 infoByte := by kernel_rfl
 cellsByte := by kernel_rfl
 sizeByte := by kernel_rfl
 neB5 := by decide
}
theorem repeat_zero (m : Int) (w : World) (hm : 0 ≤ m) (hn : m ≤ 1000000) :
  Calls Tryz.prog 60 #[.string ⟨#[0]⟩, .int .i64 m] w fun e w' => (∃ t : ByteArray, e = .returned (.string t) ∧ t.size = m.toNat) ∧ Below w.heap.size w w' := by
 obtain ⟨n, rfl⟩ : ∃ k : Nat, m = k := ⟨m.toNat, by omega⟩
 refine (Any.strings_Repeat Tryz.repeatL rX ⟨#[0]⟩ n w (by omega) (by show 1 * n ≤ _; omega)).mono ?_
 rintro e w' ⟨rfl, h2⟩
 exact ⟨⟨_, rfl, by simp [ByteArray.size, Lib.repeatL_length]⟩, h2⟩
set_option maxHeartbeats 1000000 in
theorem in_any (n a b : Int) (w : World) : Calls Tryz.prog 116 #[.int .i64 n, .int .i64 a, .int .i64 b] w fun e w' => e = .returned (.bool (decide (a ≤ n) && decide (n ≤ b))) ∧ w' = w := by
 go_enter Tryz.func116, Tryz.ntmps116
 go_wp2
 ·rename_i h
  go_ret
  exact ⟨by simp [h], rfl⟩
 ·rename_i h
  go_ret
  exact ⟨by simp [show ¬ a ≤ n by omega], rfl⟩
set_option maxHeartbeats 1000000 in
theorem put_any {B b L : Nat} {w : World} (h : Bld B b L w) (v m : Int) (n : Nat) (hm : m = n) (hn1 : 1 ≤ n) (hn7 : n ≤ 7) (hv0 : 0 ≤ v) (hv : v.toNat < 2 ^ (8 * n)) (hL : L + n ≤ 1000000) (hBw : B ≤ w.heap.size) :
  Calls Tryz.prog 118 #[.pointer (some ⟨b, 0, none⟩), .int .i64 v, .int .i64 m] w fun e w' => e = .returned (.tuple #[]) ∧ Bld B b (L + n) w' ∧ Below B w w' := by
 subst hm
 obtain ⟨v, rfl⟩ : ∃ k : Nat, v = k := ⟨v.toNat, by omega⟩
 simp only [Int.toNat_natCast] at hv
 go_enter Tryz.func118, Tryz.ntmps118
 go_wp2_with (first
  | (go_at_call 72; refine (fix_any v n _ hn1 hn7 hv).mono ?_; rintro e w1 ⟨⟨t, rfl, ht⟩, hb1⟩; have h1 := h.below hb1; have hz1 := hb1.size)
  | (go_at_call 106; refine (write_string h1 t (by omega) (by omega)).mono ?_; rintro e w2 ⟨rfl, h2, hb2⟩))
 refine bodyPost_end (results_none rfl _ _ _) rfl ?_
 exact ⟨rfl, ht ▸ h2, (hb1.mono hBw).trans hb2⟩
theorem Bld.alloc {B b L : Nat} {w : World} (h : Bld B b L w) (o : Obj) : Bld B b L (w.alloc o) := h.below ((Below.refl _ _).alloc (Nat.le_refl _) o)
theorem fresh_at (w : World) (o : Obj) : Lib.IsBuilder 193 5 (w.heap.size + 1) (w.heap.size + 1) [] ((w.alloc o).alloc (.cells #[.pointer none, .slice none 0 0] 193)) := by
 have := Lib.fresh_isBuilder 193 5 (w.alloc o)
 rwa [show (w.alloc o).heap.size = w.heap.size + 1 by simp] at this
theorem crc_lt (t : ByteArray) : (((crcT [t] [t].length ^^^ 0xffffffff : Nat) : Int)).toNat < 2 ^ (8 * 4) := by
 rw [Int.toNat_natCast]
 exact Nat.xor_lt_two_pow (n := 32) (allN_lt _ _ (by decide)) (by decide)
theorem crc_one (g : Nat) (t : ByteArray) (w : World) (ht : t.size ≤ 4294967296) (hc : w.cell? ⟨g, 0, none⟩ = some (.string t)) :
  Calls Tryz.prog 119 #[.slice (some ⟨g, 0, none⟩) 1 1] w fun e w' => e = .returned (.int .i64 (crcT [t] [t].length ^^^ 0xffffffff : Nat)) ∧ w' = w := by
 refine crc_any g 0 1 [t] w (by simp) (by simpa using ht) (fun j s hj => ?_)
 match j, hj with
 | 0, hj => cases hj; exact hc
 | j + 1, hj => simp at hj
end Go.Ev

namespace Go.Ev
open Go.RowKit Go.ChangeMaps
abbrev Ent := Int × Value × Nat
def entA (e : Ent) : MapEntry := ⟨.int .i64 e.1, e.2.1, e.2.2⟩
def getE : List Ent → Int → Option Value
 | [], _ => none
 | e :: l, k => if e.1 = k then some e.2.1 else getE l k
def putE : List Ent → Int → Value → Nat → List Ent
 | [], k, v, c => [(k, v, c)]
 | e :: l, k, v, c => if e.1 = k then (k, v, e.2.2) :: l else e :: putE l k v c
def delE : List Ent → Int → List Ent
 | [], _ => []
 | e :: l, k => if e.1 = k then l else e :: delE l k
def posE : List Ent → Int → Nat
 | [], _ => 0
 | e :: l, k => if e.1 = k then 0 else posE l k + 1
def clockE (l : List Ent) (k : Int) (c : Nat) : Nat := if (getE l k).isSome then c else c + 1
theorem findNow_E : ∀ (l : List Ent) (k : Int) (i : Nat), Instr.findNow (.int .i64) (.int .i64 k) (l.map entA) i = some ((getE l k).map fun v => (i + posE l k, v))
 | [], _, _ => rfl
 | e :: l, k, i => by
  simp only [List.map_cons, Instr.findNow, entA, Instr.sameNow, if_true, getE, posE]
  by_cases h : e.1 = k
  ·simp [h]
  ·have h2 : (k == e.1) = false := by simpa using fun e' => h e'.symm
   rw [h2, if_neg h, if_neg h, findNow_E l k (i + 1)]
   congr 1
   cases getE l k <;> simp <;> omega
theorem posE_at : ∀ {l : List Ent} {k : Int} {v : Value}, getE l k = some v → ∃ e, l[posE l k]? = some e ∧ e.1 = k ∧ e.2.1 = v
 | e :: l, k, v, h => by
  simp only [getE] at h
  simp only [posE]
  split at h
  ·rename_i he; cases h; rw [if_pos he]; exact ⟨e, rfl, he, rfl⟩
  ·rename_i he; rw [if_neg he]; exact posE_at (l := l) h
theorem putE_new : ∀ {l : List Ent} {k : Int} {v : Value} {c : Nat}, getE l k = none → putE l k v c = l ++ [(k, v, c)]
 | [], _, _, _, _ => rfl
 | e :: l, k, v, c, h => by
  simp only [getE] at h
  split at h
  ·cases h
  ·rename_i he; simp only [putE]; rw [if_neg he, putE_new h]; rfl
theorem putE_old : ∀ {l : List Ent} {k : Int} {v v0 : Value} {c : Nat} {e : Ent}, getE l k = some v0 → l[posE l k]? = some e → putE l k v c = l.set (posE l k) (k, v, e.2.2)
 | e :: l, k, v, v0, c, e', h, hp => by
  simp only [getE] at h
  simp only [putE, posE] at hp ⊢
  split at h
  ·rename_i he; rw [if_pos he] at hp ⊢; rw [if_pos he]; cases hp; rfl
  ·rename_i he; rw [if_neg he] at hp ⊢; rw [if_neg he]; rw [List.set_cons_succ, putE_old h (by simpa using hp)]
theorem delE_old : ∀ {l : List Ent} {k : Int} {v0 : Value}, getE l k = some v0 → delE l k = l.eraseIdx (posE l k)
 | e :: l, k, v0, h => by
  simp only [getE] at h
  simp only [delE, posE]
  split at h
  ·rename_i he; rw [if_pos he, if_pos he]; rfl
  ·rename_i he; rw [if_neg he, if_neg he, List.eraseIdx_cons_succ, delE_old h]
theorem delE_new : ∀ {l : List Ent} {k : Int}, getE l k = none → delE l k = l
 | [], _, _ => rfl
 | e :: l, k, h => by
  simp only [getE] at h
  split at h
  ·cases h
  ·rename_i he; simp only [delE]; rw [if_neg he, delE_new h]
theorem erase_map {α β : Type} (f : α → β) : ∀ (l : List α) (k : Nat), (l.map f).eraseIdx k = (l.eraseIdx k).map f
 | [], _ => by simp
 | _ :: _, 0 => by simp
 | a :: l, k + 1 => by simp [erase_map f l k]
def MapI (w : World) (b : Nat) (l : List Ent) (c : Nat) : Prop := w.heap[b]? = some (.map (l.map entA).toArray c)
section
variable {P : Program} {w : World} {b c : Nat} {l : List Ent} {t kt et : TypeId}
theorem MapI.lt (h : MapI w b l c) : b < w.heap.size := (Array.getElem?_eq_some_iff.1 h).1
theorem MapI.keeps {S : Nat → Prop} {w' : World} (h : MapI w b l c) (hk : Keeps S w w') (hb : ¬ S b) : MapI w' b l c := (hk.block b h.lt hb).trans h
theorem MapI.ne {g : Nat} {T : TypeId} {cs : Array Value} (h : MapI w b l c) (hg : Blk w g T cs) : b ≠ g := by
 rintro rfl
 unfold MapI at h
 unfold Blk at hg
 rw [h] at hg
 cases hg
theorem MapI.ne_own {base n z : Nat} {e : TypeId} {v : Value} {xs : List Value} (h : MapI w b l c) (ho : w.ownsRow base e z v n xs) : ∀ k, v.ownBlock = some k → k ≠ b := by
 rintro k hk rfl
 rcases ho.2 with ⟨rfl, _⟩ | ⟨g, cap, cur, rfl, _, hg, _⟩
 ·cases hk
 ·simp only [Value.ownBlock, Option.some.injEq] at hk
  subst hk
  unfold MapI at h
  rw [hg] at h
  cases h
theorem run_get (h : MapI w b l c) : (getObj b).run P w = .ok (.map (l.map entA).toArray c) w := by
 unfold MapI at h
 simp [getObj, Sem.run, h]
theorem run_key (hk : P.underlying kt = some (.int .i64)) (em : Bool) (k : Int) (W : World) : (Instr.checkKey em 10000 kt (.int .i64 k)).run P W = .ok () W := by
 rw [Instr.checkKey]
 simp only [Sem.run_bind, run_underlying hk, Result.andThen_ok]
 rfl
theorem run_find (hk : P.underlying kt = some (.int .i64)) (k : Int) (W : World) : (Instr.findKey kt (.int .i64 k) (l.map entA)).run P W = .ok ((getE l k).map fun v => (posE l k, v)) W := by
 simp [Instr.findKey, run_underlying hk, findNow_E]
theorem run_lookup_I (h : MapI w b l c) (ht : P.underlying t = some (.map kt et)) (hk : P.underlying kt = some (.int .i64)) {z : Value} (hz : ∀ W, (zeroValue et).run P W = .ok z W) (k : Int) :
  (Instr.lookup t (.map (some b)) (.int .i64 k) true).run P w = .ok (.tuple #[(getE l k).getD z, .bool (getE l k).isSome]) w := by
 have hf := run_find (l := l) hk k w
 generalize getE l k = q at *
 cases q with
 | none =>
  simp only [Option.map_none] at hf
  simp [Instr.lookup, run_underlying ht, run_get h, run_key hk, hf, hz]
 | some v =>
  simp only [Option.map_some] at hf
  simp [Instr.lookup, run_underlying ht, run_get h, run_key hk, hf]
def turn (w : World) (b : Nat) (l : List Ent) (c : Nat) : World := { w with heap := w.heap.setIfInBounds b (.map (l.map entA).toArray c) }
theorem turn_size (l' : List Ent) (c' : Nat) : (turn w b l' c').heap.size = w.heap.size := by simp [turn]
theorem MapI.turned (h : MapI w b l c) (l' : List Ent) (c' : Nat) : MapI (turn w b l' c') b l' c' := by
 have := h.lt
 unfold MapI turn
 simp [this]
theorem turn_keeps {S : Nat → Prop} {w0 : World} (hk : Keeps S w0 w) (hb : b < w0.heap.size → S b) (l' : List Ent) (c' : Nat) : Keeps S w0 (turn w b l' c') := by
 refine ⟨hk.os, hk.tape, hk.output, by rw [turn_size]; exact hk.size, fun i hi hn => ?_⟩
 rw [← hk.block i hi hn]
 exact Array.getElem?_setIfInBounds_ne (fun e => by subst e; exact hn (hb hi))
theorem MapI.cell_turn (h : MapI w b l c) (l' : List Ent) (c' : Nat) (a : Addr) : (turn w b l' c').cell? a = w.cell? a := by
 by_cases e : a.block = b
 ·have h1 := h.turned l' c'
  unfold MapI at h h1
  simp only [World.cell?, e, h, h1]
 ·exact World.cell?_of_block (Array.getElem?_setIfInBounds_ne (fun e' => e e'.symm))
theorem run_set (h : MapI w b l c) (l' : List Ent) (c' : Nat) : (setObj b (.map (l'.map entA).toArray c')).run P w = .ok () (turn w b l' c') := by
 unfold MapI at h
 simp [setObj, Sem.run, h, turn]
theorem run_update_I (h : MapI w b l c) (ht : P.underlying t = some (.map kt et)) (hk : P.underlying kt = some (.int .i64)) (k : Int) (v : Value) :
  (Instr.mapUpdate t (.map (some b)) (.int .i64 k) v).run P w = .ok () (turn w b (putE l k v c) (clockE l k c)) := by
 have hf := run_find (l := l) hk k w
 have hs := run_set (P := P) h (putE l k v c) (clockE l k c)
 cases hq : getE l k with
 | none =>
  rw [hq] at hf
  simp only [Option.map_none] at hf
  have e : ((l.map entA).toArray.push ⟨.int .i64 k, v, c⟩) = ((putE l k v c).map entA).toArray := by rw [putE_new hq]; simp [entA]
  have ec : clockE l k c = c + 1 := by simp [clockE, hq]
  rw [ec] at hs ⊢
  simp only [Instr.mapUpdate, Sem.run_bind, run_underlying ht, Result.andThen_ok, run_get h, run_key hk, List.toList_toArray, hf, e, hs]
 | some v0 =>
  rw [hq] at hf
  simp only [Option.map_some] at hf
  obtain ⟨e0, he0, hk0, _⟩ := posE_at hq
  have hold : (l.map entA).toArray[posE l k]? = some (entA e0) := by simp [he0]
  have hbits : Instr.sameBits 10000 (entA e0).key (.int .i64 k) = true := by simp [Instr.sameBits, entA, hk0]
  have e : ((l.map entA).toArray.modify (posE l k) fun x => { x with key := .int .i64 k, val := v }) = ((putE l k v c).map entA).toArray := by
   rw [putE_old hq he0]
   apply Array.toList_inj.1
   rw [Array.toList_modify]
   apply List.ext_getElem?
   intro i
   simp only [List.getElem?_modify, List.getElem?_map, List.getElem?_set, List.toList_toArray]
   by_cases hi : posE l k = i
   ·subst hi
    obtain ⟨hlt, hge⟩ := List.getElem?_eq_some_iff.1 he0
    simp [hlt, entA, hge]
   ·simp [hi]
  have ec : clockE l k c = c := by simp [clockE, hq]
  rw [ec] at hs ⊢
  simp only [Instr.mapUpdate, Sem.run_bind, run_underlying ht, Result.andThen_ok, run_get h, run_key hk, List.toList_toArray, hf, hold, Option.map_some, Option.getD_some, Instr.keyThatStays, hbits, if_true, Sem.run_pure, e, hs]
theorem run_delete_I (h : MapI w b l c) (ht : P.underlying t = some (.map kt et)) (hk : P.underlying kt = some (.int .i64)) (ty : TypeId) (k : Int) :
  (Builtin.delete_ #[t, kt] ty #[.map (some b), .int .i64 k]).run P w = .ok (.tuple #[]) (turn w b (delE l k) c) := by
 have hf := run_find (l := l) hk k w
 have hs := run_set (P := P) h (delE l k) c
 cases hq : getE l k with
 | none =>
  rw [hq] at hf
  simp only [Option.map_none] at hf
  rw [delE_new hq] at hs ⊢
  simp [Builtin.delete_, run_underlying ht, run_get h, run_key hk, hf, hs]
 | some v0 =>
  rw [hq] at hf
  simp only [Option.map_some] at hf
  have e : (l.map entA).eraseIdx (posE l k) = (delE l k).map entA := by rw [delE_old hq, erase_map]
  simp [Builtin.delete_, run_underlying ht, run_get h, run_key hk, hf, e, hs]
end
def keysE (l : List Ent) : List Int := l.map (·.1)
theorem getE_put : ∀ (l : List Ent) (k : Int) (v : Value) (c : Nat) (j : Int), getE (putE l k v c) j = if j = k then some v else getE l j
 | [], k, v, c, j => by
  simp only [putE, getE]
  by_cases h : k = j
  ·rw [if_pos h, if_pos h.symm]
  ·rw [if_neg h, if_neg (fun e => h e.symm)]
 | e :: l, k, v, c, j => by
  simp only [putE]
  split
  ·rename_i h
   simp only [getE]
   by_cases h2 : k = j
   ·rw [if_pos h2, if_pos h2.symm]
   ·rw [if_neg h2, if_neg (fun e => h2 e.symm), if_neg (fun e' => h2 (h.symm.trans e'))]
  ·rename_i h
   simp only [getE, getE_put l k v c j]
   by_cases h2 : e.1 = j
   ·rw [if_pos h2, if_pos h2, if_neg (fun e' => h (h2.trans e'))]
   ·rw [if_neg h2, if_neg h2]
theorem keys_put_mem {l : List Ent} {k : Int} {v : Value} {c : Nat} {j : Int} : j ∈ keysE (putE l k v c) ↔ j = k ∨ j ∈ keysE l := by
 induction l with
 | nil => simp [putE, keysE]
 | cons e l ih =>
  simp only [putE]
  split
  ·rename_i h
   subst h
   simp [keysE]
  ·simp only [keysE, List.map_cons, List.mem_cons] at ih ⊢
   rw [ih]
   constructor
   ·rintro (h | h | h)
    ·exact .inr (.inl h)
    ·exact .inl h
    ·exact .inr (.inr h)
   ·rintro (h | h | h)
    ·exact .inr (.inl h)
    ·exact .inl h
    ·exact .inr (.inr h)
theorem nodup_put {l : List Ent} {k : Int} {v : Value} {c : Nat} (h : (keysE l).Nodup) : (keysE (putE l k v c)).Nodup := by
 induction l with
 | nil => simp [putE, keysE]
 | cons e l ih =>
  have h' := List.nodup_cons.1 (show (e.1 :: keysE l).Nodup from h)
  simp only [putE]
  split
  ·rename_i he
   show (k :: keysE l).Nodup
   rw [← he]
   exact h
  ·rename_i he
   show (e.1 :: keysE (putE l k v c)).Nodup
   refine List.nodup_cons.2 ⟨fun hm => ?_, ih h'.2⟩
   rcases keys_put_mem.1 hm with h2 | h2
   ·exact he h2
   ·exact h'.1 h2
theorem getE_mem {l : List Ent} {k : Int} : (getE l k).isSome = true ↔ k ∈ keysE l := by
 induction l with
 | nil => simp [getE, keysE]
 | cons e l ih =>
  simp only [getE, keysE, List.map_cons, List.mem_cons] at ih ⊢
  split
  ·rename_i h; simp [h]
  ·rename_i h
   rw [ih]
   constructor
   ·exact .inr
   ·rintro (h2 | h2)
    ·exact absurd h2.symm h
    ·exact h2
theorem getE_del {l : List Ent} (hn : (keysE l).Nodup) (k j : Int) : getE (delE l k) j = if j = k then none else getE l j := by
 induction l with
 | nil => simp [delE, getE]
 | cons e l ih =>
  have h' := List.nodup_cons.1 (show (e.1 :: keysE l).Nodup from hn)
  simp only [delE]
  split
  ·rename_i he
   by_cases hj : j = k
   ·rw [if_pos hj, hj]
    cases hq : getE l k with
    | none => rfl
    | some v => exact absurd (getE_mem.1 (by rw [hq]; rfl)) (he ▸ h'.1)
   ·simp only [getE]
    rw [if_neg hj, if_neg (fun e' => hj (e'.symm.trans he))]
  ·rename_i he
   simp only [getE]
   rw [ih h'.2]
   by_cases h2 : e.1 = j
   ·rw [if_pos h2, if_pos h2, if_neg (fun e' => he (h2.trans e'))]
   ·rw [if_neg h2, if_neg h2]
theorem keys_del_mem {l : List Ent} (hn : (keysE l).Nodup) {k j : Int} : j ∈ keysE (delE l k) ↔ j ≠ k ∧ j ∈ keysE l := by
 rw [← getE_mem, ← getE_mem, getE_del hn]
 by_cases h : j = k <;> simp [h]
theorem nodup_del {l : List Ent} {k : Int} (h : (keysE l).Nodup) : (keysE (delE l k)).Nodup := by
 induction l with
 | nil => simp [delE, keysE]
 | cons e l ih =>
  have h' := List.nodup_cons.1 (show (e.1 :: keysE l).Nodup from h)
  simp only [delE]
  split
  ·exact h'.2
  ·show (e.1 :: keysE (delE l k)).Nodup
   exact List.nodup_cons.2 ⟨fun hm => h'.1 ((keys_del_mem h'.2).1 hm).2, ih h'.2⟩
theorem len_put {l : List Ent} {k : Int} {v : Value} {c : Nat} (h : getE l k = none) : (putE l k v c).length = l.length + 1 := by rw [putE_new h]; simp
theorem len_del {l : List Ent} {k : Int} {v : Value} (h : getE l k = some v) : (delE l k).length + 1 = l.length := by
 induction l with
 | nil => cases h
 | cons e l ih =>
  simp only [getE] at h
  simp only [delE]
  split
  ·simp
  ·rename_i he
   rw [if_neg he] at h
   simp [ih h]
def Clk (l : List Ent) (c : Nat) : Prop := (∀ s ∈ l.map (fun e : Ent => e.2.2), s < c) ∧ (l.map (fun e : Ent => e.2.2)).Nodup
theorem Clk.nil (c : Nat) : Clk [] c := ⟨fun s hs => (by cases hs), List.nodup_nil⟩
theorem del_stamps (l : List Ent) (k : Int) : ((delE l k).map (fun e : Ent => e.2.2)).Sublist (l.map (fun e : Ent => e.2.2)) := by
 induction l with
 | nil => exact List.Sublist.refl _
 | cons e l ih =>
  simp only [delE]
  split
  ·exact List.sublist_cons_self _ _
  ·simp only [List.map_cons]
   exact ih.cons_cons _
theorem put_stamps {l : List Ent} {k : Int} {v v0 : Value} {c : Nat} (h : getE l k = some v0) : (putE l k v c).map (fun e : Ent => e.2.2) = l.map (fun e : Ent => e.2.2) := by
 induction l with
 | nil => cases h
 | cons e l ih =>
  simp only [getE] at h
  simp only [putE]
  split
  ·rfl
  ·rename_i he
   rw [if_neg he] at h
   simp only [List.map_cons, ih h]
theorem Clk.del {l : List Ent} {c : Nat} (h : Clk l c) (k : Int) : Clk (delE l k) c := ⟨fun s hs => h.1 s ((del_stamps l k).mem hs), (del_stamps l k).nodup h.2⟩
theorem Clk.put {l : List Ent} {c : Nat} (h : Clk l c) (k : Int) (v : Value) : Clk (putE l k v c) (clockE l k c) := by
 unfold clockE
 cases hg : getE l k with
 | none =>
  rw [putE_new hg]
  refine ⟨fun s hs => ?_, ?_⟩
  ·rw [List.map_append, List.mem_append] at hs
   rcases hs with hs | hs
   ·have := h.1 s hs
    show s < c + 1
    omega
   ·simp only [List.map_cons, List.map_nil, List.mem_singleton] at hs
    subst hs
    exact Nat.lt_succ_self _
  ·rw [List.map_append]
   refine List.nodup_append.2 ⟨h.2, by simp, fun a ha b hb e => ?_⟩
   simp only [List.map_cons, List.map_nil, List.mem_singleton] at hb
   have := h.1 a ha
   omega
 | some v0 =>
  unfold Clk
  rw [put_stamps hg]
  exact h
end Go.Ev

namespace Go.Ev
def strB (s : Bytes) : Value := .string ⟨s.toArray⟩
def pgV (x : Pg) : Value := .agg #[.int .i64 x.kind, .int .i64 x.next, strB x.body]
structure PgInv (n : Nat) (made was : List Ent) (spare : List Int) : Prop where
 nodM : (keysE made).Nodup
 nodW : (keysE was).Nodup
 nodS : spare.Nodup
 wasS : ∀ k, k ∈ keysE was ↔ k ∈ spare
 cover : ∀ k, (2 ≤ k ∧ k < (n : Int)) ↔ (k ∈ keysE made ∨ k ∈ spare)
 disj : ∀ k, k ∈ keysE made → k ∉ spare
 pages : ∀ k v, getE made k = some v → ∃ x, v = pgV x
 two : 2 ≤ n
 wasV : ∀ k v, getE was k = some v → v = .agg #[]
def Pages (made : List Ent) (M : Store) : Prop := ∀ k, getE made k = (M k).map pgV
def updS (M : Store) (k : Int) (x : Option Pg) : Store := fun i => if i = k then x else M i
section
variable {n : Nat} {made was : List Ent} {spare : List Int} {M : Store}
theorem PgInv.of (h : PgInv n made was spare) : ∃ M, Pages made M := by
 refine ⟨fun k => if hk : (getE made k).isSome then some (h.pages k _ (Option.get_mem hk)).choose else none, fun k => ?_⟩
 dsimp only
 split
 ·rename_i hk
  have := (h.pages k _ (Option.get_mem hk)).choose_spec
  rw [Option.map_some, ← this]
  exact (Option.some_get hk).symm
 ·rename_i hk
  simpa using hk
theorem Pages.key (h : Pages made M) (k : Int) : k ∈ keysE made ↔ (M k).isSome = true := by
 rw [← getE_mem, h k]
 simp
theorem range_len : ∀ (m : Nat) (l : List Int) (a : Int), l.Nodup → (∀ k, (a ≤ k ∧ k < a + m) ↔ k ∈ l) → l.length = m
 | 0, l, a, _, h => by
  cases l with
  | nil => rfl
  | cons x l => have := (h x).2 (List.mem_cons_self ..); omega
 | m + 1, l, a, hn, h => by
  have ha : a ∈ l := (h a).1 (by omega)
  have hp := List.perm_cons_erase ha
  have hn2 : (l.erase a).Nodup := hn.erase a
  have := range_len m (l.erase a) (a + 1) hn2 fun k => by
   rw [hn.mem_erase_iff]
   constructor
   ·intro hk
    exact ⟨by omega, (h k).1 (by omega)⟩
   ·rintro ⟨h1, h2⟩
    have := (h k).2 h2
    omega
  rw [hp.length_eq, List.length_cons, this]
theorem keysE_len (l : List Ent) : (keysE l).length = l.length := by simp [keysE]
theorem PgInv.count (h : PgInv n made was spare) : made.length + spare.length + 2 = n := by
 have hn : (keysE made ++ spare).Nodup := List.nodup_append.2 ⟨h.nodM, h.nodS, fun a ha b hb e => h.disj a ha (e ▸ hb)⟩
 have := range_len (n - 2) (keysE made ++ spare) 2 hn fun k => by
  rw [List.mem_append, ← h.cover]
  have := h.two
  constructor <;> intro hk <;> omega
 rw [List.length_append, keysE_len] at this
 have := h.two
 omega
theorem PgInv.make_spare {x : Int} {spare' : List Int} (h : PgInv n made was (x :: spare)) (hp : spare'.Perm spare) (v : Pg) (c : Nat) : PgInv n (putE made x (pgV v) c) (delE was x) spare' ∧ getE made x = none := by
 have hx : x ∉ keysE made := fun hm => h.disj x hm (List.mem_cons_self ..)
 have hn := List.nodup_cons.1 h.nodS
 have hg : getE made x = none := by
  cases hq : getE made x with
  | none => rfl
  | some v => exact absurd (getE_mem.1 (by rw [hq]; rfl)) hx
 refine ⟨⟨nodup_put h.nodM, nodup_del h.nodW, hp.nodup_iff.2 hn.2, fun k => ?_, fun k => ?_, fun k hk => ?_, fun k u hu => ?_, h.two, fun k v hv => ?_⟩, hg⟩
 ·rw [keys_del_mem h.nodW, h.wasS, hp.mem_iff, List.mem_cons]
  constructor
  ·rintro ⟨h1, h2 | h2⟩
   ·exact absurd h2 h1
   ·exact h2
  ·intro h2
   exact ⟨fun e => hn.1 (e ▸ h2), .inr h2⟩
 ·rw [h.cover, keys_put_mem, hp.mem_iff, List.mem_cons]
  constructor
  ·rintro (h1 | h1 | h1)
   ·exact .inl (.inr h1)
   ·exact .inl (.inl h1)
   ·exact .inr h1
  ·rintro ((h1 | h1) | h1)
   ·exact .inr (.inl h1)
   ·exact .inl h1
   ·exact .inr (.inr h1)
 ·rw [hp.mem_iff]
  rcases keys_put_mem.1 hk with rfl | hk
  ·exact hn.1
  ·exact fun hs => h.disj k hk (List.mem_cons_of_mem _ hs)
 ·rw [getE_put] at hu
  split at hu
  ·cases hu; exact ⟨_, rfl⟩
  ·exact h.pages k u hu
 ·rw [getE_del h.nodW] at hv
  split at hv
  ·cases hv
  ·exact h.wasV k v hv
theorem PgInv.make_new (h : PgInv n made was []) (v : Pg) (c : Nat) : PgInv (n + 1) (putE made n (pgV v) c) (delE was n) [] ∧ getE made n = none := by
 have hx : (n : Int) ∉ keysE made := fun hm => by
  have := (h.cover n).2 (.inl hm)
  omega
 have hg : getE made n = none := by
  cases hq : getE made n with
  | none => rfl
  | some v => exact absurd (getE_mem.1 (by rw [hq]; rfl)) hx
 have hw : delE was n = was := delE_new (by
  cases hq : getE was n with
  | none => rfl
  | some v => have := (h.wasS n).1 (getE_mem.1 (by rw [hq]; rfl)); cases this)
 rw [hw]
 refine ⟨⟨nodup_put h.nodM, h.nodW, List.nodup_nil, h.wasS, fun k => ?_, fun k _ => by simp, fun k u hu => ?_, by have := h.two; omega, h.wasV⟩, hg⟩
 ·rw [keys_put_mem]
  have := h.cover k
  have h2 := h.two
  simp only [List.not_mem_nil, or_false] at this ⊢
  constructor
  ·intro hk
   by_cases e : k = n
   ·exact .inl e
   ·exact .inr (this.1 (by omega))
  ·rintro (rfl | hk)
   ·omega
   ·have := this.2 hk; omega
 ·rw [getE_put] at hu
  split at hu
  ·cases hu; exact ⟨_, rfl⟩
  ·exact h.pages k u hu
theorem PgInv.drop {x : Int} {spare' : List Int} {v : Value} (h : PgInv n made was spare) (hx : getE made x = some v) (hp : spare'.Perm (x :: spare)) (c : Nat) : PgInv n (delE made x) (putE was x (.agg #[]) c) spare' := by
 have hk : x ∈ keysE made := getE_mem.1 (by rw [hx]; rfl)
 have hs := h.disj x hk
 refine ⟨nodup_del h.nodM, nodup_put h.nodW, hp.nodup_iff.2 (List.nodup_cons.2 ⟨hs, h.nodS⟩), fun k => ?_, fun k => ?_, fun k hm => ?_, fun k u hu => ?_, h.two, fun k v hv => ?_⟩
 ·rw [keys_put_mem, hp.mem_iff, List.mem_cons, h.wasS]
 ·rw [h.cover, keys_del_mem h.nodM, hp.mem_iff, List.mem_cons]
  constructor
  ·rintro (h1 | h1)
   ·by_cases e : k = x
    ·exact .inr (.inl e)
    ·exact .inl ⟨e, h1⟩
   ·exact .inr (.inr h1)
  ·rintro (⟨_, h1⟩ | h1 | h1)
   ·exact .inl h1
   ·exact .inl (h1 ▸ hk)
   ·exact .inr h1
 ·rw [hp.mem_iff, List.mem_cons]
  have := (keys_del_mem h.nodM).1 hm
  rintro (h1 | h1)
  ·exact this.1 h1
  ·exact h.disj k this.2 h1
 ·rw [getE_del h.nodM] at hu
  split at hu
  ·cases hu
  ·exact h.pages k u hu
 ·rw [getE_put] at hv
  split at hv
  ·cases hv; rfl
  ·exact h.wasV k v hv
theorem Pages.put (h : Pages made M) (x : Int) (v : Pg) (c : Nat) : Pages (putE made x (pgV v) c) (updS M x (some v)) := fun k => by
 rw [getE_put, h k]
 unfold updS
 split <;> rfl
theorem Pages.del (h : Pages made M) (hn : (keysE made).Nodup) (x : Int) : Pages (delE made x) (updS M x none) := fun k => by
 rw [getE_del hn, h k]
 unfold updS
 split <;> rfl
end
end Go.Ev

namespace Go.Ev
open Go.RowKit
variable {P : Program} {l n : Nat}
abbrev wideR (l : Nat) : Fence := Fence.wide.inRound l
theorem calls_round {f : FuncId} {args : Array Value} {w : World} {R : Ending → World → Prop} (h : Calls P f args w R) : CallsIn (wideR l) n P f args w R := CallsIn.inRound l (callsIn_wide.2 h)
theorem rows_round {row : String} {args : Array Value} {w : World} {R : Value → World → Prop} (h : Rows P row args w R) : RowsIn (wideR l) n P row args w R := fun c cs _ =>
 let ⟨v, w', r, s⟩ := h c cs
 ⟨v, w', r, stepsIn_wide.2 s⟩
theorem oper_round {o : Oper} {a : Act} {w : World} {K : Act → World → Prop} {Q : Exit → Act → World → Prop} (hd : ∀ c, o.op ≠ .defer c) (h : o.wp P a w K Q) : o.wpIn (wideR l) n P a w K Q := by
 refine ⟨fun _ _ => trivial, ?_⟩
 rw [Oper.semAt_eq _ _ _ hd]
 unfold Oper.wp at h
 generalize (execOp a.eval o).run P w = r at *
 cases r with
 | ok x w' =>
  cases x <;> simp only [Oper.upon, Oper.uponIn] at h ⊢
  case value v => exact h
  case skip => exact h
  case defer d => exact h
  case enter f args => exact ⟨(fun e => (by cases e)), calls_round h⟩
  case row row args => exact ⟨(fun e => (by cases e)), rows_round h⟩
 | halt x w' => cases x <;> simp only [Oper.upon, Oper.uponIn] at h ⊢; exact h
theorem op_round {ops : Array Oper} {Q : Exit → Act → World → Prop} {i : Nat} {K K' : Act → World → Prop} {a : Act} {w : World} (hd : ∀ (i : Nat) (o : Oper) c, ops[i]? = some o → o.op ≠ .defer c) (hQ : ¬ LetsOut Q) (hK : ∀ a w, K a w → K' a w) (h : wpOp P ops Q i K a w) : wpOpIn (wideR l) n P ops Q i K' a w := by
 unfold wpOp at h
 unfold wpOpIn
 split
 ·rename_i ho
  simp only [ho] at h
  exact hK _ _ h
 ·rename_i o ho
  simp only [ho] at h
  split
  ·rename_i hw
   simp only [hw, if_true] at h
   rcases h with h | h
   ·exact Oper.wpIn_mono hK (oper_round (fun c => hd i o c ho) h)
   ·exact absurd h.2 hQ
  ·rename_i hw
   simp only [hw] at h
   exact ⟨fun _ _ => trivial, hK _ _ h⟩
theorem any_round {ops : Array Oper} {Q : Exit → Act → World → Prop} {md : Region.Mode} (hd : ∀ (i : Nat) (o : Oper) c, ops[i]? = some o → o.op ≠ .defer c) (hQ : ¬ LetsOut Q) : ∀ (fuel : Nat) (listed : Array Bool) (a : Act) (w : World), wpAny P md ops Q fuel listed a w → wpAnyIn (wideR l) n P md ops Q fuel listed a w
 | 0, _, _, _, h => h
 | fuel + 1, listed, a, w, h => ⟨h.1, fun i hi => op_round hd hQ (fun a w => any_round hd hQ fuel _ a w) (h.2 i hi)⟩
def noDefer (ops : Array Oper) : Bool := ops.all fun o => match o.op with | .defer _ => false | _ => true
theorem noDefer_spec {ops : Array Oper} (h : noDefer ops = true) : ∀ (i : Nat) (o : Oper) c, ops[i]? = some o → o.op ≠ .defer c := by
 intro i o c ho e
 unfold noDefer at h
 rw [Array.all_eq_true'] at h
 have := h o (Array.mem_of_getElem? ho)
 rw [e] at this
 cases this
theorem region_round {id : Nat} {ops : Array Oper} {Q : Exit → Act → World → Prop} {a : Act} {w : World} (hm : P.follows .mixedOrders = true) (hd : noDefer ops = true) (hQ : ¬ LetsOut Q)
  (h : wpAny P .any ops Q ops.size (Array.replicate ops.size false) a w.drew) : (Code.region id ops true).wpIn (wideR l) n P Q a w :=
 wpIn_region_any hm (any_round (noDefer_spec hd) hQ _ _ _ _ h)
end Go.Ev

namespace Go.Ev
open Go.RowKit
variable {F : Fence} {n : Nat} {P : Program}
def Each {α : Type} (F : Fence) (n : Nat) (P : Program) (g : Nat) (lb : Array Value) (encs : α → Array Value) (Kp : World → World → Prop) (xs : List α) (w : World) : Prop :=
 ∀ (l : Nat) (J : Nat → World → Prop) (W : World), Below w.heap.size w W →
  (∀ (k : Nat) (x : α) (W1 : World), xs[k]? = some x → J k W1 → YieldAt F (n - 1) P l (encs x) W1 fun e W' => e = .returned (.bool true) ∧ J (k + 1) W' ∧ Kp W1 W') →
  J 0 W → CallsIn F n P g (#[.func (.yield l) #[] #[]] ++ lb) W fun e W' => (∃ v, e = .returned v) ∧ J xs.length W'
def goesOn (B : Nat) (Kp : World → World → Prop) (I : World → Prop) (W : World) : Exit → Act → World → Prop
 | .normal, _, W' => KeepsFrom B W W' ∧ Kp W W' ∧ I W'
 | _, _, _ => False
theorem rangeFunc_each {α : Type} {g : Operand} {ps : Array Tmp} {assign body : Code} {Q : Exit → Act → World → Prop} {a : Act} {w : World} {gf : Nat} {lb : Array Value} {encs : α → Array Value} {Kp : World → World → Prop} {xs : List α}
  (hro : F.round = none) (h1 : 1 ≤ n) (hg : a.eval g = .func (.func gf) #[] lb) (hF : F.fn gf) (eg : ∀ args w, (callFunc gf args).run P w = .ok (.enter gf args) w) (hseq : Each F (n - 1) P gf lb encs Kp xs w)
  (hKt : ∀ {A B C : World}, Kp A B → Kp B C → Kp A C) (hKb : ∀ (W : World) (l : Nat) (o o' : Obj), w.heap.size ≤ l → W.heap[l]? = some o → o.isCells = false → o.isWalk = false → Kp W (W.putObj l o')) (hps : ∀ x, (encs x).size = ps.size)
  (I : Nat → World → Prop) (hI : OwnFrom w.heap.size I) (h0 : I 0 w) (Ax : α → Act → World → Prop) (hAx : ∀ x a', OwnFrom w.heap.size (fun (_ : Unit) W => Ax x a' W))
  (hassign : ∀ (l k : Nat) (x : α) (W : World) (K : Act → World → Prop), xs[k]? = some x → I k W → (∀ a' W', KeepsFrom w.heap.size W W' → Kp W W' → I k W' → Ax x a' W' → K a' W') →
   assign.wpIn (F.inRound l) (n - 1 - 1) P (Exit.then K (fun _ _ _ => False)) { tmps := (ps.zip (encs x)).foldl (fun t (p, v) => t.setIfInBounds p v) a.tmps, defers := [] } W)
  (hbody : ∀ (l k : Nat) (x : α) (a' : Act) (W : World), xs[k]? = some x → I k W → Ax x a' W → body.wpIn (F.inRound l) (n - 1 - 1) P (goesOn w.heap.size Kp (I (k + 1)) W) a' W)
  (hdone : ∀ (D : Nat) (W : World), w.heap.size ≤ D → I xs.length W → W.heap[D]? = some (.deferred (some [])) → Q .normal { a with defers := { target := .collected D, args := #[] } :: a.defers } W) :
  (Code.rangeFunc g ps assign body).wpIn F n P Q a w := by
 refine wpIn_rangeFunc fun fn hfn => ?_
 rw [hro]
 -- the loop's record in its states; the block of the deferred calls is D, the record's is D + 1
 obtain ⟨D, hD⟩ : ∃ D, D = w.heap.size := ⟨_, rfl⟩
 obtain ⟨R, hR⟩ : ∃ R : LoopState → Loop, R = fun st => { state := st, pending := none, fn, tmps := a.tmps, params := ps, assign, body, defers := D } := ⟨_, rfl⟩
 obtain ⟨W1, hW1⟩ : ∃ W1, (w.alloc (.deferred (some []))).alloc (.loop (R .ready)) = W1 := ⟨_, rfl⟩
 have hl1 : W1.heap[D + 1]? = some (.loop (R .ready)) := by
  have := World.alloc_heap_new (w.alloc (.deferred (some []))) (.loop (R .ready))
  rw [World.size_alloc, hW1] at this
  rw [hD]; exact this
 have hd1 : W1.heap[D]? = some (.deferred (some [])) := by
  rw [← hW1, hD]; exact (Below.heap_alloc _ _ _ (by simp)).trans (World.alloc_heap_new w _)
 have hi1 : I 0 W1 := by rw [← hW1]; exact hI.alloc _ (hI.alloc _ h0)
 have hb1 : Below w.heap.size w W1 := by rw [← hW1]; exact ((Below.refl _ w).alloc (Nat.le_refl _) _).alloc (by simp) _
 refine ⟨D + 1, [{ target := .collected D, args := #[] }], W1, { target := .fn (.func gf) lb, args := #[.func (.yield (D + 1)) #[] #[]] }, W1, gf, #[.func (.yield (D + 1)) #[] #[]] ++ lb, W1, ?_, ?_, ?_, ?_, fun _ => h1, ?_⟩
 ·rw [← hW1, hR, hD]; exact run_enterLoop_outer _ _ _ _ _
 ·simp only [resolve, hg]
  simp [go_sem]
 ·intro f' hf'; simp [Target.leads] at hf'; subst hf'; exact hF
 ·simp [invoke, go_sem, eg]
 refine (hseq (D + 1) (fun k W => I k W ∧ W.heap[D + 1]? = some (.loop (R .ready)) ∧ W.heap[D]? = some (.deferred (some []))) W1 hb1 ?_ ⟨hi1, hl1, hd1⟩).mono ?_
 ·-- a round
  rintro k x W hx ⟨hi, hl, hd⟩
  have hy := run_yield (P := P) (args := encs x) hl (by rw [hR]; exact hps x)
  rw [hR] at hy
  refine ⟨fn, _, assign, body, hy, roundIn_of_wpIn hfn (hassign _ k x W _ hx hi ?_)⟩
  intro a' Wa hka hpa hia hax
  have hla := hka.same _ _ (by omega) hl rfl
  have hda := hka.same _ _ (by omega) hd rfl
  have hlta : D + 1 < Wa.heap.size := (Array.getElem?_eq_some_iff.1 hla).1
  refine ⟨_, run_beginRound hla (by rw [hR]), ?_⟩
  have hlb : (Wa.putObj (D + 1) (.loop { R .ready with state := .busy })).heap[D + 1]? = some (.loop { R .ready with state := .busy }) := World.putObj_heap_same hlta
  have hdb : (Wa.putObj (D + 1) (.loop { R .ready with state := .busy })).heap[D]? = some (.deferred (some [])) := (World.putObj_heap_other (by omega)).trans hda
  have hpb : Kp Wa (Wa.putObj (D + 1) (.loop { R .ready with state := .busy })) := hKb _ _ _ _ (by omega) hla rfl rfl
  refine wpIn_mono (hbody _ k x a' _ hx (hI.putObj _ hia (by omega) hla rfl) ((hAx x a').putObj (s := ()) _ hax (by omega) hla rfl)) ?_
  rintro e a3 W3 hp
  cases e with
  | normal =>
   obtain ⟨hk3, hp3, hi3⟩ := hp
   have hl3 := hk3.same _ _ (by omega) hlb rfl
   have hd3 := hk3.same _ _ (by omega) hdb rfl
   have hr := run_endRound (P := P) none hl3
   rw [hR] at hr hl3
   refine ⟨_, _, hr, rfl, ⟨hI.putObj _ hi3 (by omega) hl3 rfl, ?_, (World.putObj_heap_other (by omega)).trans hd3⟩, hKt hpa (hKt (hKt hpb hp3) (hKb _ _ _ _ (by omega) hl3 rfl rfl))⟩
   rw [World.putObj_heap_same (Array.getElem?_eq_some_iff.1 hl3).1, hR]
   rfl
  | ret => exact hp.elim
  | exit id => exact hp.elim
  | goto t => exact hp.elim
  | panic ch => exact hp.elim
  | outgrown => exact hp.elim
 ·-- behind the iterator
  rintro e W2 ⟨⟨v, rfl⟩, hi, hl, hd⟩
  have hr := run_endLoop (P := P) hl (by rw [hR]; simp)
  rw [hR] at hr
  exact ⟨none, _, hr, hdone D _ (by omega) (hI.putObj _ hi (by omega) hl rfl) ((World.putObj_heap_other (by omega)).trans hd)⟩
end Go.Ev

namespace Go.Ev
def prevK (k : Bytes) (l : List Child) : Nat → Bytes
 | 0 => k
 | j + 1 => (l.getD j default).key
theorem prevK_cons (k : Bytes) (x : Child) (l : List Child) (i : Nat) : prevK k (x :: l) (i + 1) = prevK x.key l i := by
 cases i <;> simp [prevK]
theorem riseC_iff : ∀ {k : Bytes} {l : List Child}, riseC k l = true ↔ ∀ i (h : i < l.length), l[i].fit = true ∧ lessB (prevK k l i) l[i].key = true
 | k, [] => by simp [riseC]
 | k, x :: l => by
  simp only [riseC, Bool.and_eq_true, @riseC_iff x.key l]
  constructor
  ·rintro ⟨⟨h1, h2⟩, h3⟩ i hi
   cases i with
   | zero => exact ⟨h1, h2⟩
   | succ i => rw [prevK_cons]; exact h3 i (Nat.lt_of_succ_lt_succ hi)
  ·intro h
   refine ⟨h 0 (Nat.succ_pos _), fun i hi => ?_⟩
   have := h (i + 1) (Nat.succ_lt_succ hi)
   rw [prevK_cons] at this
   exact this
def stepC (l : List Child) (k : Nat) (h : k < l.length) : Bool := l[k].fit && if k = 0 then l[k].key.isEmpty else lessB (l.getD (k - 1) default).key l[k].key
theorem rightC_iff {l : List Child} : rightC l = true ↔ l ≠ [] ∧ ∀ i (h : i < l.length), stepC l i h = true := by
 cases l with
 | nil => simp [rightC]
 | cons x l =>
  simp only [rightC, Bool.and_eq_true, riseC_iff, stepC]
  constructor
  ·rintro ⟨⟨h1, h2⟩, h3⟩
   refine ⟨by simp, fun i hi => ?_⟩
   cases i with
   | zero => exact ⟨h1, by simpa using h2⟩
   | succ i =>
    have := h3 i (Nat.lt_of_succ_lt_succ hi)
    refine ⟨this.1, ?_⟩
    rw [if_neg (by omega)]
    have e := prevK_cons [] x l i
    have := this.2
    rw [← e] at this
    exact this
  ·rintro ⟨_, h⟩
   have h0 := h 0 (Nat.succ_pos _)
   refine ⟨⟨h0.1, by simpa using h0.2⟩, fun i hi => ?_⟩
   have := h (i + 1) (Nat.succ_lt_succ hi)
   refine ⟨this.1, ?_⟩
   have h2 := this.2
   rw [if_neg (by omega)] at h2
   rw [← prevK_cons [] x l i]
   exact h2
theorem rightC_not {l : List Child} {k : Nat} (h : k < l.length) (hs : stepC l k h = false) : rightC l = false := by
 cases hr : rightC l
 ·rfl
 ·rw [(rightC_iff.1 hr).2 k h] at hs; cases hs
theorem layC_take {l : List Child} {k : Nat} (h : k < l.length) : layC (l.take (k + 1)) = layC (l.take k) ++ l[k].lay := by
 rw [List.take_succ_eq_append_getElem h, layC_append]
 simp [layC]
theorem layC_le (l : List Child) (k : Nat) : (layC (l.take k)).length ≤ (layC l).length := by
 have : layC l = layC (l.take k) ++ layC (l.drop k) := by rw [← layC_append, List.take_append_drop]
 rw [this, List.length_append]
 omega
end Go.Ev

namespace Go.Ev
open Go.Lib
def Child.short (x : Child) : Prop := x.key.length ≤ 40 ∧ I64 x.page
theorem Rd.child_ok (r : Rd) : r.child.1.short := ⟨r.text_len (m := 40), Rd.var_i64 _⟩
theorem Child.lay_short {x : Child} (h : x.short) : x.lay.length ≤ 60 := by
 obtain ⟨h1, h2⟩ := h
 have k1 := (varB_len (x.key.length : Int) ⟨by omega, by omega⟩).2
 have k3 := (varB_len x.page h2).2
 unfold Child.lay textB
 simp only [List.length_append]
 omega
theorem layC_short : ∀ {l : List Child}, (∀ x ∈ l, x.short) → (layC l).length ≤ 60 * l.length
 | [], _ => by simp [layC]
 | x :: l, h => by
  have h1 := Child.lay_short (h x (List.mem_cons_self ..))
  have h2 := layC_short fun y hy => h y (List.mem_cons_of_mem _ hy)
  simp only [layC, List.length_append, List.length_cons]
  omega
theorem Rd.child_le (r : Rd) : r.child.2.b.length ≤ r.b.length := by
 unfold Rd.child
 have h1 := r.text_le 40
 have h2 := (r.text 40).2.var_le
 dsimp only
 omega
theorem Rd.children_step {r : Rd} (h : r.e = 0 ∧ r.b ≠ []) : r.children = (r.child.1 :: r.child.2.children.1, r.child.2.children.2) := by
 rw [Rd.children, dif_pos h]
 by_cases h2 : r.child.2.e = 0
 ·rw [dif_pos h2]
 ·rw [dif_neg h2]
  have : r.child.2.children = ([], r.child.2) := by
   rw [Rd.children, dif_neg (fun hc => h2 hc.1)]
  rw [this]
theorem Rd.children_end {r : Rd} (h : ¬ (r.e = 0 ∧ r.b ≠ [])) : r.children = ([], r) := by rw [Rd.children, dif_neg h]
theorem rightC_cons {c : Child} {L : List Child} : rightC (c :: L) = true ↔ c.fit = true ∧ c.key = [] ∧ riseC [] L = true := by
 simp only [rightC, Bool.and_eq_true, List.isEmpty_iff, and_assoc]
 constructor
 ·rintro ⟨h1, h2, h3⟩; rw [h2] at h3; exact ⟨h1, h2, h3⟩
 ·rintro ⟨h1, h2, h3⟩; rw [h2]; exact ⟨h1, rfl, h3⟩
theorem below_right {k : Bytes} {l : List Child} (h : rightC l = true) : below k l = findC k l + 1 := by
 cases l with
 | nil => cases h
 | cons c L =>
  obtain ⟨_, h2, _⟩ := rightC_cons.1 h
  simp only [below, findC, List.tail_cons, h2, lessB_nil]
  simp
theorem below_ge' {k : Bytes} {l : List Child} {i : Nat} {x : Child} (hr : rightC l = true) (h : below k l ≤ i) (hx : l[i]? = some x) : lessB k x.key = true := by
 have hb := below_right (k := k) hr
 cases l with
 | nil => cases hr
 | cons c L =>
  obtain ⟨_, h2, h3⟩ := rightC_cons.1 hr
  cases i with
  | zero => omega
  | succ i => exact below_ge h3 (by unfold findC at hb; simp only [List.tail_cons] at hb; omega) hx
end Go.Ev
