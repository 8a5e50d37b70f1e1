/-
  The check sum: what num.Crc comes to. slices.Insert at items, ahead of the end: in place where there is room, else a new row. Steps in a drawn region under a condition on the world that all its operations keep, in short words. Numbers that change places.  Cells of bytes as a text, exactly; a number laid in so many bytes, exactly.     A reader of bytes: what its methods answer and leave behind, whatever the bytes are.               Items with one more, or another one of its key. Items are parted in two.          The document's own tree: its order, where a key is, a pair put in. The document's own tree: a pair put in. Slices of pairs and of numbers are cloned. Are two lists of pairs alike? A mark's name.  A book of lists: of a kind of which nothing is kept nothing is told.  A heap of numbers: one more, and the least one taken, as far as what is in it.  A number is put onto a pile; one is taken. A number is put onto a heap; one is taken from it.   DERIVED: THE SHELF's CONTRACTS AT THIS DUMP, IN PLAIN WORDS (tools/lay-plain.mjs out of 'YthfdbfbfldmmaaaGreatDoorBuildLay.lean', which tools/lay-shelf.mjs wrote): THE SAME DECLARATIONS UNDER THE SAME NAMES: 'import', 'namespace', 'open', 'def', 'theorem' AND NOTHING ELSE: no command of the shelf's: FOR A HAND-IN. Each laying: the table of numbers ('.._ren') and one theorem, a field a fact of the dump's own or the kernel's comparison; each contract: ONE APPLICATION.   A map with numbers as keys, as a row of entries: looked up, put into, deleted from.  A pager of a first transaction, as it lies in memory.          A page is made.      The way down to the leaf of a key.                      Behind an append the elder row is still what it was.
-/
import Derived.Test.YthfdbfbfldmmaaaGreatDoorProg
import Derived.WalkKit
import Derived.Outline
import Derived.Lib.Hide
import Derived.Laws.BitsAllLaws
import Derived.Shelf.Spec.SlicesInsertGrow
import Derived.Deep.RegionLaw
import Derived.OrdersHeld
import Derived.RegionTactic
import Derived.Test.YthfdbfbfldmmaaaGreatDoorMGvTake
import Derived.Laws.MakeOwn
import Derived.Lib.Zigzag
import Derived.Lib.VarintBits
import Derived.Deep.DeepMust
import Derived.Shelf.Lays
import Derived.Shelf.Strings.BuilderF
import Derived.Lib.EndianBits
import Derived.Laws.ShiftsVar
import Derived.Deep.QuietTactic
import Derived.BigQuiet
import Derived.WalkLawsBesides
import Derived.Deep.LoopGhost
import Derived.Shelf.SlGeneric
import Derived.Shelf.Strconv.Clone
import Derived.Ground.NamesProg
import Derived.Shelf.Spec.SlicesInsert
import Derived.Lib.AppendZerosOnto
import Derived.Shelf.Strings.Repeat
import Derived.Shelf.Strings.Builder1
import Derived.MapKept
import Derived.RangeFuncNested
import Derived.RangeFuncCalls
import Derived.OrdersIn
import Derived.TacticsIn
import Derived.RangeFuncBound
import Derived.RangeFuncLeaves
import Derived.Shelf.Abstract
import Derived.Shelf.RegionOpen
import Derived.OwnWalkIn
import Derived.TacticsInMore
import Derived.LoopNIn
import Derived.LoopIn
import Derived.Laws.ResultCell
import Derived.Tactics
set_option linter.unusedVariables false
set_option linter.unusedSimpArgs false
set_option linter.unusedVariables false
set_option linter.unusedSimpArgs false
namespace Go.Ev
open Go.Proofs Go.RowKit
def stepBit (x : Nat) : Nat := if x % 2 = 1 then (x / 2) ^^^ 0xedb88320 else x / 2
def stepN : Nat → Nat → Nat
  | 0, x => x
  | k + 1, x => stepBit (stepN k x)
def bytesN : List UInt8 → Nat → Nat
  | [], x => x
  | b :: l, x => bytesN l (stepN 8 (x ^^^ b.toNat))
def allN : List (List UInt8) → Nat → Nat
  | [], x => x
  | s :: l, x => allN l (bytesN s x)
def bytesT (s : ByteArray) (m x : Nat) : Nat := bytesN (s.data.toList.take m) x
def crcT (ss : List ByteArray) (k : Nat) : Nat := allN ((ss.take k).map (·.data.toList)) 0xffffffff
def byteT (s : ByteArray) (m x : Nat) : Nat := bytesT s m x ^^^ (s.data.toList[m]?.getD 0).toNat
theorem stepBit_lt (x : Nat) (hx : x < 4294967296) : stepBit x < 4294967296 := by
  unfold stepBit
  split
  · exact Nat.xor_lt_two_pow (n := 32) (by omega) (by omega)
  · omega
theorem stepN_lt (j x : Nat) (hx : x < 4294967296) : stepN j x < 4294967296 := by
  induction j with
  | zero => exact hx
  | succ j ih => exact stepBit_lt _ ih
theorem xorByte_lt (x : Nat) (b : UInt8) (hx : x < 4294967296) : x ^^^ b.toNat < 4294967296 :=
  Nat.xor_lt_two_pow (n := 32) (by omega) (by have := b.toNat_lt; omega)
theorem bytesN_lt : ∀ (l : List UInt8) (x : Nat), x < 4294967296 → bytesN l x < 4294967296
  | [], _, h => h
  | b :: l, x, h => bytesN_lt l _ (stepN_lt 8 _ (xorByte_lt x b h))
theorem allN_lt : ∀ (l : List (List UInt8)) (x : Nat), x < 4294967296 → allN l x < 4294967296
  | [], _, h => h
  | s :: l, x, h => allN_lt l _ (bytesN_lt s x h)
theorem bytesN_snoc : ∀ (l : List UInt8) (b : UInt8) (x : Nat), bytesN (l ++ [b]) x = stepN 8 (bytesN l x ^^^ b.toNat)
  | [], _, _ => rfl
  | _ :: l, b, _ => bytesN_snoc l b _
theorem allN_snoc : ∀ (l : List (List UInt8)) (s : List UInt8) (x : Nat), allN (l ++ [s]) x = bytesN s (allN l x)
  | [], _, _ => rfl
  | _ :: l, s, _ => allN_snoc l s _
theorem crcT_lt (ss : List ByteArray) (k : Nat) : crcT ss k < 4294967296 := allN_lt _ _ (by omega)
theorem bytesT_lt (s : ByteArray) (m x : Nat) (hx : x < 4294967296) : bytesT s m x < 4294967296 := bytesN_lt _ _ hx
theorem byte_at (s : ByteArray) (m : Nat) (h : m < s.size) : s.data.toList[m]? = some s[m] := by
  have : m < s.data.size := h
  rw [Array.getElem?_toList, Array.getElem?_eq_getElem this]
  rfl
theorem bytesT_succ (s : ByteArray) (m x : Nat) (h : m < s.size) : bytesT s (m + 1) x = stepN 8 (byteT s m x) := by
  have e := byte_at s m h
  unfold bytesT byteT
  rw [List.take_add_one, e, Option.toList_some, bytesN_snoc]
  rfl
theorem byteT_lt (s : ByteArray) (m x : Nat) (hx : x < 4294967296) : byteT s m x < 4294967296 := xorByte_lt _ _ (bytesT_lt s m x hx)
theorem byte_eq (s : ByteArray) (m x : Nat) (h : m < s.size) (hx : x < 4294967296) : bits BinOp.xor IntKind.u32 (↑(bytesT s m x)) (↑s[m].toNat % 4294967296) = ↑(byteT s m x) := by
  have e := byte_at s m h
  have hb : s[m].toNat < 256 := s[m].toNat_lt
  have e2 : ((s[m].toNat : Int) % 4294967296) = (s[m].toNat : Int) := by omega
  rw [e2, u32_xor_nat _ _ (bytesT_lt s m x hx) (by omega)]
  unfold byteT
  rw [e]
  rfl
theorem int_eq {k : IntKind} {a b : Int} (h : a = b) : Value.int k a = .int k b := by rw [h]
theorem ret_int {k : IntKind} {a b : Int} (h : a = b) : Ending.returned (.int k a) = .returned (.int k b) := by rw [h]
theorem odd_eq {x : Nat} (hb : x < 4294967296) : (bits BinOp.and IntKind.u32 (↑x) 1 == 1) = decide (x % 2 = 1) := by
  have := u32_and_nat x 1 hb (by omega)
  rw [show ((1 : Nat) : Int) = 1 from rfl] at this
  rw [this, Nat.and_one_is_mod]
  by_cases h : x % 2 = 1
  · simp [h]
  · have : x % 2 = 0 := by omega
    simp [this]
theorem step_odd {j x : Nat} (hb : stepN j x < 4294967296) (h : (bits BinOp.and IntKind.u32 (↑(stepN j x)) 1 == 1) = true) : bits BinOp.xor IntKind.u32 (↑(stepN j x) / 2) 3988292384 = ↑(stepN (j + 1) x) := by
  rw [odd_eq hb, decide_eq_true_eq] at h
  have := u32_xor_nat (stepN j x / 2) 3988292384 (by omega) (by omega)
  rw [show ((3988292384 : Nat) : Int) = 3988292384 from rfl, Int.natCast_ediv] at this
  rw [show (2 : Int) = ((2 : Nat) : Int) from rfl, this]
  show _ = ((stepBit (stepN j x) : Nat) : Int)
  unfold stepBit
  rw [if_pos h]
theorem step_even {j x : Nat} (hb : stepN j x < 4294967296) (h : (bits BinOp.and IntKind.u32 (↑(stepN j x)) 1 == 1) = false) : (↑(stepN j x) / 2 : Int) = ↑(stepN (j + 1) x) := by
  rw [odd_eq hb, decide_eq_false_iff_not] at h
  show _ = ((stepBit (stepN j x) : Nat) : Int)
  unfold stepBit
  rw [if_neg h]
  omega
theorem crcT_succ (ss : List ByteArray) (k : Nat) (h : k < ss.length) : crcT ss (k + 1) = bytesT ss[k] ss[k].size (crcT ss k) := by
  unfold crcT bytesT
  rw [List.take_add_one, List.getElem?_eq_getElem h, Option.toList_some, List.map_append, List.map_cons, List.map_nil, allN_snoc]
  congr 1
  rw [List.take_of_length_le]
  exact Nat.le_of_eq (by rw [Array.length_toList]; rfl)
theorem not_eq (x : Nat) (hx : x < 4294967296) : wrap64 (bits BinOp.xor IntKind.u32 IntKind.u32.max ↑x) = ((x ^^^ 4294967295 : Nat) : Int) := by
  have h1 := u32_xor_nat 4294967295 x (by omega) hx
  rw [show IntKind.u32.max = ((4294967295 : Nat) : Int) from rfl, h1, Nat.xor_comm 4294967295 x]
  have h2 : x ^^^ 4294967295 < 2 ^ 32 := Nat.xor_lt_two_pow (by omega) (by omega)
  generalize x ^^^ 4294967295 = y at h2 ⊢
  unfold wrap64
  omega
set_option maxHeartbeats 400000 in
theorem crc_any (g off cap : Nat) (ss : List ByteArray) (w : World) (hl : ss.length ≤ 4294967296) (hs : ∀ s ∈ ss, s.size ≤ 4294967296)
    (hc : ∀ (j : Nat) (s : ByteArray), ss[j]? = some s → w.cell? ⟨g, off + j, none⟩ = some (.string s)) :
    Calls Tryz.prog 202 #[.slice (some ⟨g, off, none⟩) ss.length cap] w fun e w' => e = .returned (.int .i64 (crcT ss ss.length ^^^ 0xffffffff : Nat)) ∧ w' = w := by
  go_enter Tryz.func202, Tryz.ntmps202
  go_wp2
  go_loop [3, 10] (fun x i => ∃ k : Nat, k ≤ ss.length ∧ i = .int .i64 k ∧ x = .int .u32 (crcT ss k : Nat)) (fun _ i => ss.length - (intOf i).toNat)
  case atStart => exact ⟨0, Nat.zero_le _, rfl, rfl⟩
  case round =>
    obtain ⟨k, hk, rfl, rfl⟩ := hrel
    by_cases hlt : k < ss.length
    · have hck := hc k ss[k] (by simp)
      have hsk := hs ss[k] (by simp)
      go_wp2
      go_loop [3, 16] (fun x i => ∃ m : Nat, m ≤ ss[k].size ∧ i = .int .i64 m ∧ x = .int .u32 (bytesT ss[k] m (crcT ss k) : Nat)) (fun _ i => ss[k].size - (intOf i).toNat)
      case atStart => exact ⟨0, Nat.zero_le _, rfl, rfl⟩
      case round =>
        obtain ⟨m, hm, rfl, rfl⟩ := hrel
        by_cases hmt : m < ss[k].size
        · have hx0 := bytesT_lt ss[k] m (crcT ss k) (crcT_lt ss k)
          have hH := byte_eq ss[k] m (crcT ss k) hmt (crcT_lt ss k)
          have HS := Lib.hid (bytesT_succ ss[k] m (crcT ss k) hmt)
          have HH := Lib.hid hH
          clear hH
          go_wp2
          go_loop [3, 25] (fun x i => ∃ j : Nat, j ≤ 8 ∧ i = .int .i64 j ∧ x = .int .u32 (stepN j (byteT ss[k] m (crcT ss k)) : Nat)) (fun _ i => 8 - (intOf i).toNat)
          case atStart => exact ⟨0, Nat.zero_le _, rfl, by rw [HH.out]; rfl⟩
          case round =>
            obtain ⟨j, hj, rfl, rfl⟩ := hrel
            by_cases hjt : j < 8
            · have hb := stepN_lt j _ (byteT_lt ss[k] m (crcT ss k) (crcT_lt ss k))
              go_wp2
              · rename_i hodd
                go_round
                case rel => exact ⟨j + 1, by omega, by go_num, int_eq (step_odd hb hodd)⟩
                case measure => simp [intOf]; omega
              · rename_i hodd
                go_round
                case rel => exact ⟨j + 1, by omega, by go_num, int_eq (step_even hb hodd)⟩
                case measure => simp [intOf]; omega
            · have hj8 : j = 8 := by omega
              have HJ := Lib.hid hj8
              clear hj8
              go_wp2
              go_round
              case rel => exact ⟨m + 1, by omega, by go_num, int_eq (by rw [HS.out, HJ.out])⟩
              case measure => simp [intOf]; omega
        · have hm8 : m = ss[k].size := by omega
          have HM := Lib.hid hm8
          clear hm8
          go_wp2
          go_round
          case rel => exact ⟨k + 1, by omega, by go_num, int_eq (by rw [HM.out, crcT_succ ss k hlt])⟩
          case measure => simp [intOf]; omega
    · have hk8 : k = ss.length := by omega
      have HK := Lib.hid hk8
      clear hk8
      have hx := crcT_lt ss k
      go_wp2
      go_ret
      refine ⟨ret_int ?_, rfl⟩
      rw [not_eq _ hx, HK.out]
end Go.Ev

set_option linter.unusedVariables false
set_option linter.unusedSimpArgs false
namespace Go.Ev
open Go.Proofs Go.RowKit Go.Lib
theorem run_copy_z {P : Program} (w : World) (dT sT ty elem : TypeId) (z b o dLen dCap : Nat) (a : Addr) (sLen sCap : Nat) (cs : List Value)
    (hu : P.underlying dT = some (.slice elem)) (hs : (P.info? elem).map (·.size) = some z) (hn : cs.length = Nat.min sLen dLen * z)
    (hsrc : ∀ j v, cs[j]? = some v → w.cell? (a.add j) = some v) (hc : ∀ j, j < cs.length → (w.cell? ⟨b, o + j, none⟩).isSome = true) (hf : ∀ j, j < cs.length → w.frozen? ⟨b, o + j, none⟩ = false) (h1 : ∀ v ∈ cs, v.oneCell' = true) :
    (Builtin.copy_ #[dT, sT] ty #[.slice (some ⟨b, o, none⟩) dLen dCap, .slice (some a) sLen sCap]).run P w = .ok (goInt (Nat.min sLen dLen)) (w.setCells b o cs) := by
  have hl := run_loadCells_list (P := P) w a cs hsrc
  have hst := run_storeCells_cells (P := P) b o cs 0 w (by simpa using hc) (by simpa using hf) h1
  cases hq : P.info? elem with
  | none => simp [hq] at hs
  | some i =>
    have hi : i.size = z := by simpa [hq] using hs
    simp [Builtin.copy_, run_underlying hu, Builtin.lenOf, Builtin.firstCells, sizeOf, typeInfo, hq, hi, ← hn, hl, hst]
set_option maxHeartbeats 4000000 in
set_option maxRecDepth 100000 in
/-- There is room: in place. -/
theorem insert_shift (b n c i vb voff m vc : Nat) (cs vs : List Value) (w : World) (hi : i < n) (hm : 0 < m) (hroom : n + m ≤ c) (hbig : n + m ≤ 1000000) (hvb : vb ≠ b)
    (hcl : cs.length = n * 4) (hvl : vs.length = m * 4)
    (hcs : ∀ j v, cs[j]? = some v → w.cell? ⟨b, j, none⟩ = some v) (hsp : ∀ j, j < (n + m) * 4 → (w.cell? ⟨b, j, none⟩).isSome = true) (hfz : ∀ j, j < (n + m) * 4 → w.frozen? ⟨b, j, none⟩ = false)
    (hvs : ∀ j v, vs[j]? = some v → w.cell? ⟨vb, voff + j, none⟩ = some v) (h1c : ∀ v ∈ cs, v.oneCell' = true) (h1v : ∀ v ∈ vs, v.oneCell' = true)
    (tA tB : TypeId) (kA kB : Nat) (hsa : w.shape? vb = some (tA, kA)) (hsb : w.shape? b = some (tB, kB)) (hkB : kB ≠ 0) (hfa : w.frozen? ⟨vb, voff, none⟩ = false) (hfe : w.frozen? ⟨vb, kA, none⟩ = false) :
    Calls Tryz.prog 291 #[.slice (some ⟨b, 0, none⟩) n c, .int .i64 i, .slice (some ⟨vb, voff, none⟩) m vc] w fun e w' =>
      e = .returned (.slice (some ⟨b, 0, none⟩) (n + m) c) ∧ w' = (w.drew.setCells b ((i + m) * 4) (cs.drop (i * 4))).setCells b (i * 4) vs := by
  have hz1 : ¬ ((m : Int) = 0) := by omega
  have hz2 : ¬ ((i : Int) = (n : Int)) := by omega
  have hov : ∀ lb cb, (callFunc 346 #[.slice (some ⟨vb, voff, none⟩) m vc, .slice (some ⟨b, (i + m) * 4, none⟩) lb cb]).run Tryz.prog w = .ok (.value (.bool false)) w := fun lb cb => by
    rw [run_callFunc_extern Tryz.func346 (by kernel_rfl) (by kernel_rfl) (by kernel_rfl) (e := Extern.SlicesOverlaps.overlaps #[133, 133] #[4]) (by kernel_rfl),
      Lib.run_overlaps_apart w 133 4 154 Tryz.underlying133 4 Tryz.sizeOf154 ⟨vb, voff, none⟩ ⟨b, (i + m) * 4, none⟩ m vc lb cb hvb tA tB kA kB hsa hsb hkB hfa hfe]
    rfl
  have hsz : (Tryz.prog.info? 154).map (·.size) = some 4 := by kernel_rfl
  have hdl : (cs.drop (i * 4)).length = (n - i) * 4 := by rw [List.length_drop, hcl]; omega
  have hw1 : IntKind.i64.wrap ((i : Int) + (m : Int)) = (i : Int) + (m : Int) := by rw [IntKind.wrap_i64]; omega
  have hb1 : (0 : Int) ≤ (i : Int) + (m : Int) := by omega
  have hin : i ≤ n := by omega
  have htn : ((i : Int) + (m : Int)).toNat = i + m := by omega
  have hb2 : ¬ (c = i + m) := by omega
  have hb3 : (i : Int) ≤ (n : Int) + (m : Int) := by omega
  have hb4 : ¬ (c = i) := by omega
  have hcp1 : ∀ ty dc sc, (Builtin.copy_ #[133, 133] ty #[.slice (some ⟨b, (i + m) * 4, none⟩) (n + m - (i + m)) dc, .slice (some ⟨b, i * 4, none⟩) (n + m - i) sc]).run Tryz.prog w.drew = .ok (goInt (Nat.min (n + m - i) (n + m - (i + m)))) (w.drew.setCells b ((i + m) * 4) (cs.drop (i * 4))) := fun ty dc sc =>
    run_copy_z w.drew _ _ ty 154 4 b ((i + m) * 4) (n + m - (i + m)) dc ⟨b, i * 4, none⟩ (n + m - i) sc (cs.drop (i * 4)) Tryz.underlying133 hsz (by rw [hdl]; congr 1; simp only [Nat.min_def]; split <;> omega)
      (fun j v hj => by rw [Addr.add_lit]; exact hcs (i * 4 + j) v (by rwa [List.getElem?_drop] at hj))
      (fun j hj => hsp _ (by omega)) (fun j hj => hfz _ (by omega)) (fun v hv => h1c v (List.mem_of_mem_drop hv))
  obtain ⟨W1, hW1⟩ : ∃ W1, W1 = w.drew.setCells b ((i + m) * 4) (cs.drop (i * 4)) := ⟨_, rfl⟩
  have hsp1 : ∀ k, k < (n + m) * 4 → (W1.cell? ⟨b, k, none⟩).isSome = true := fun k hk => by
    rw [hW1]
    exact isSome_setCells b (cs.drop (i * 4)) ((i + m) * 4) w.drew (fun j hj => hsp _ (by rw [hdl] at hj; omega)) k (hsp k hk)
  have hcp2 : ∀ (W : World), (∀ x, W.cell? x = W1.cell? x) → (∀ x, W.frozen? x = W1.frozen? x) → ∀ ty dc, (Builtin.copy_ #[133, 133] ty #[.slice (some ⟨b, i * 4, none⟩) (n + m - i) dc, .slice (some ⟨vb, voff, none⟩) m vc]).run Tryz.prog W = .ok (goInt (Nat.min m (n + m - i))) (W.setCells b (i * 4) vs) := fun W hWc hWf ty dc =>
    run_copy_z W _ _ ty 154 4 b (i * 4) (n + m - i) dc ⟨vb, voff, none⟩ m vc vs Tryz.underlying133 hsz (by rw [hvl]; congr 1; simp only [Nat.min_def]; split <;> omega)
      (fun j v hj => by
        rw [Addr.add_lit, hWc, hW1, World.cell?_setCells_out b _ _ _ _ (fun h _ => absurd h hvb)]
        exact hvs j v hj)
      (fun j hj => by rw [hWc]; exact hsp1 _ (by omega)) (fun j hj => by rw [hWf, hW1, World.frozen?_setCells]; exact hfz _ (by omega)) h1v
  rw [← hW1] at hcp1
  clear hdl hsz hcl hvl
  go_enter Tryz.func291, Tryz.ntmps291
  go_wp2_with (simp only [hov])
  go_region_law (refine step_copy_runI rfl _ _ 133 133 rfl _ _ (by simp [Act.eval, Act.put]) (by simp [Act.eval, Act.put]) (hcp1 _ _ _) ?_)
  go_wp2_with (at_builtin; refine wpList_copy_runI _ rfl _ _ 133 133 rfl _ _ rfl rfl (hcp2 _ (fun _ => rfl) (fun _ => rfl) _ _) ?_)
  go_ret
  first | exact ⟨rfl, rfl⟩ | exact ⟨rfl, by rw [hW1]⟩
set_option maxHeartbeats 4000000 in
set_option maxRecDepth 100000 in
/-- There is no room: a new row. -/
theorem insert_grow (b n c i vb voff m vc : Nat) (cs vs : List Value) (w : World) (hi : i < n) (hm : 0 < m) (hnc : n ≤ c) (hroom : c < n + m) (hbig : n + m ≤ 1000000)
    (hcl : cs.length = n * 4) (hvl : vs.length = m * 4)
    (hcs : ∀ j v, cs[j]? = some v → w.cell? ⟨b, j, none⟩ = some v)
    (hvs : ∀ j v, vs[j]? = some v → w.cell? ⟨vb, voff + j, none⟩ = some v) (h1c : ∀ v ∈ cs, v.oneCell' = true) (h1v : ∀ v ∈ vs, v.oneCell' = true) :
    Calls Tryz.prog 291 #[.slice (some ⟨b, 0, none⟩) n c, .int .i64 i, .slice (some ⟨vb, voff, none⟩) m vc] w fun e w' =>
      ∃ (G : Nat) (ROW : Array Value), (n + m ≤ G ∧ G ≤ 9223372036854775807) ∧ ROW.size = G * 4 ∧ (∀ j, j < i * 4 → ROW[j]? = cs[j]?) ∧ e = .returned (.slice (some ⟨w.heap.size, 0, none⟩) (n + m) G) ∧
      w' = (((w.alloc (.cells ROW 154)).drew.setCells w.heap.size (i * 4) vs).drew).setCells w.heap.size ((i + m) * 4) (cs.drop (i * 4)) := by
  obtain ⟨i0, hi0, hz0, hzs, hzb⟩ := info_parts (show (Tryz.prog.info? 154).map (fun i => (i.zero, i.size, i.bytes)) = some (some (.agg #[.string ⟨#[]⟩, .string ⟨#[]⟩, .int .i64 0, .int .i64 0]), 4, 48) by kernel_rfl)
  have hz1 : ¬ ((m : Int) = 0) := by omega
  have hz2 : ¬ ((i : Int) = (n : Int)) := by omega
  have hz3 : (c : Int) < (n : Int) + (m : Int) := by omega
  have hsz : (Tryz.prog.info? 154).map (·.size) = some 4 := by kernel_rfl
  have hbw : b < w.heap.size := block_lt_of_cell (hcs 0 _ (List.getElem?_eq_getElem (by omega)))
  have hvw : vb < w.heap.size := block_lt_of_cell (hvs 0 _ (List.getElem?_eq_getElem (by omega)))
  have hkk : (n : Int) + (m : Int) - (i : Int) = ((n + m - i : Nat) : Int) := by omega
  have hik : i + (n + m - i) = n + m := by omega
  have hold : (Builtin.firstCells i0.size i (.slice (some ⟨b, 0, none⟩) i c)).run Tryz.prog w.drew = .ok (cs.take (i * 4)).toArray w.drew := by
    rw [hzs]
    exact run_firstCells_some w.drew 4 i ⟨b, 0, none⟩ i c (cs.take (i * 4)) (by rw [List.length_take]; omega) (fun j v hj => by
      rw [Addr.add_lit]
      rw [List.getElem?_take] at hj
      split at hj
      · rw [Nat.zero_add]; exact hcs j v hj
      · cases hj)
  have hrz : ∀ ty, (Builtin.append_ #[133, 3] ty #[.slice (some ⟨b, 0, none⟩) i c, .int .i64 ((n : Int) + (m : Int) - (i : Int))]).run Tryz.prog w =
      .ok (.slice (some ⟨w.heap.size, 0, none⟩) (n + m) (grownCap w (n + m) c 154)) (w.drew.alloc (.cells ((cs.take (i * 4)).toArray ++ Builtin.zeroCells (Value.agg #[.string ⟨#[]⟩, .string ⟨#[]⟩, .int .i64 0, .int .i64 0]).cells (n + m - i) ++ Builtin.zeroCells (Value.agg #[.string ⟨#[]⟩, .string ⟨#[]⟩, .int .i64 0, .int .i64 0]).cells (grownCap w (n + m) c 154 - (n + m))) 154)) := fun ty => by
    have h := Lib.run_append_grow_zeros w 133 3 ty 154 i0 _ .i64 .i64 Tryz.underlying133 Tryz.underlying3 hi0 hz0 (some ⟨b, 0, none⟩) i c (cs.take (i * 4)) hold (n + m - i) (by omega) (by omega) (by omega) (by omega) (by rw [hzb]; omega)
      (by rw [hzb, hik]; exact growslice_fits hroom (by omega))
    rw [hik] at h
    rw [hkk]
    exact h
  obtain ⟨G, hG⟩ : ∃ G, G = grownCap w (n + m) c 154 := ⟨_, rfl⟩
  obtain ⟨ROW, hROW⟩ : ∃ ROW : Array Value, ROW = (cs.take (i * 4)).toArray ++ Builtin.zeroCells (Value.agg #[.string ⟨#[]⟩, .string ⟨#[]⟩, .int .i64 0, .int .i64 0]).cells (n + m - i) ++ Builtin.zeroCells (Value.agg #[.string ⟨#[]⟩, .string ⟨#[]⟩, .int .i64 0, .int .i64 0]).cells (G - (n + m)) := ⟨_, rfl⟩
  rw [← hG] at hrz
  rw [← hROW] at hrz
  have hGn : n + m ≤ G := by rw [hG]; exact grownCap_ge w _ _ _
  have hRs : ROW.size = G * 4 := by
    rw [hROW]
    have h4 : (Value.agg #[Value.string ⟨#[]⟩, Value.string ⟨#[]⟩, Value.int .i64 0, Value.int .i64 0]).cells.size = 4 := rfl
    simp only [Array.size_append, List.size_toArray, List.length_take, hcl, Builtin.zeroCells, Array.size_map, Array.size_range, h4]
    rw [Nat.min_eq_left (by omega)]
    omega
  have hRp : ∀ j, j < i * 4 → ROW[j]? = cs[j]? := by
    intro j hj
    have hl : (cs.take (i * 4)).toArray.size = i * 4 := by rw [List.size_toArray, List.length_take]; omega
    rw [hROW, Array.append_assoc, Array.getElem?_append_left (by omega), List.getElem?_toArray, List.getElem?_take, if_pos hj]
  obtain ⟨W1, hW1⟩ : ∃ W1, W1 = w.drew.alloc (.cells ROW 154) := ⟨_, rfl⟩
  rw [← hW1] at hrz
  have hN : ∀ j, j < (n + m) * 4 → (W1.cell? ⟨w.heap.size, j, none⟩).isSome = true := fun j hj => by
    rw [hW1, World.cell?_alloc_at (w := w.drew) ROW _ w.heap.size j rfl, Array.getElem?_eq_getElem (by omega)]; rfl
  have hNf : ∀ j, W1.frozen? ⟨w.heap.size, j, none⟩ = false := fun j => by rw [hW1]; exact World.frozen?_alloc_at (w := w.drew) ROW _ w.heap.size j rfl
  have hOb : ∀ j v, w.cell? ⟨b, j, none⟩ = some v → W1.cell? ⟨b, j, none⟩ = some v := fun j v h => by rw [hW1, World.cell?_alloc_past (w := w.drew) _ b j hbw]; exact h
  have hOv : ∀ j v, w.cell? ⟨vb, j, none⟩ = some v → W1.cell? ⟨vb, j, none⟩ = some v := fun j v h => by rw [hW1, World.cell?_alloc_past (w := w.drew) _ vb j hvw]; exact h
  have hdl : (cs.drop (i * 4)).length = (n - i) * 4 := by rw [List.length_drop, hcl]; omega
  have hcpA : ∀ (W : World), (∀ x, W.cell? x = W1.cell? x) → (∀ x, W.frozen? x = W1.frozen? x) → ∀ ty dc, (Builtin.copy_ #[133, 133] ty #[.slice (some ⟨w.heap.size, i * 4, none⟩) (n + m - i) dc, .slice (some ⟨vb, voff, none⟩) m vc]).run Tryz.prog W = .ok (goInt (Nat.min m (n + m - i))) (W.setCells w.heap.size (i * 4) vs) := fun W hWc hWf ty dc =>
    run_copy_z W _ _ ty 154 4 w.heap.size (i * 4) (n + m - i) dc ⟨vb, voff, none⟩ m vc vs Tryz.underlying133 hsz (by rw [hvl]; congr 1; simp only [Nat.min_def]; split <;> omega)
      (fun j v hj => by rw [Addr.add_lit, hWc]; exact hOv _ v (hvs j v hj))
      (fun j hj => by rw [hWc]; exact hN _ (by omega)) (fun j hj => by rw [hWf]; exact hNf _) h1v
  have hbN : b ≠ w.heap.size := by omega
  have hcpB : ∀ (W : World), (∀ x, W.cell? x = (W1.setCells w.heap.size (i * 4) vs).cell? x) → (∀ x, W.frozen? x = (W1.setCells w.heap.size (i * 4) vs).frozen? x) → ∀ ty dc sc, (Builtin.copy_ #[133, 133] ty #[.slice (some ⟨w.heap.size, (i + m) * 4, none⟩) (n + m - (i + m)) dc, .slice (some ⟨b, i * 4, none⟩) (n - i) sc]).run Tryz.prog W = .ok (goInt (Nat.min (n - i) (n + m - (i + m)))) (W.setCells w.heap.size ((i + m) * 4) (cs.drop (i * 4))) := fun W hWc hWf ty dc sc =>
    run_copy_z W _ _ ty 154 4 w.heap.size ((i + m) * 4) (n + m - (i + m)) dc ⟨b, i * 4, none⟩ (n - i) sc (cs.drop (i * 4)) Tryz.underlying133 hsz (by rw [hdl]; congr 1; simp only [Nat.min_def]; split <;> omega)
      (fun j v hj => by
        rw [Addr.add_lit, hWc, World.cell?_setCells_out _ _ _ _ _ (fun h _ => absurd h hbN)]
        exact hOb _ v (hcs (i * 4 + j) v (by rwa [List.getElem?_drop] at hj)))
      (fun j hj => by rw [hWc]; exact isSome_setCells w.heap.size vs (i * 4) W1 (fun t ht => hN _ (by rw [hvl] at ht; omega)) _ (hN _ (by rw [hdl] at hj; omega)))
      (fun j hj => by rw [hWf, World.frozen?_setCells]; exact hNf _) (fun v hv => h1c v (List.mem_of_mem_drop hv))
  have hG63 : G ≤ 9223372036854775807 := by
    have := grownCap_le_maxLen w (n + m) c 154 (by unfold maxLen; omega)
    rw [← hG] at this
    unfold maxLen at this
    omega
  have hGi : ¬ (G = i) := by omega
  have hGim : ¬ (G = i + m) := by omega
  have hci : ¬ (c = i) := by omega
  have hc63 : c ≤ 9223372036854775807 := by omega
  subst hW1
  have hE1 : ∀ x, ((w.alloc (.cells ROW 154)).drew).cell? x = (w.drew.alloc (.cells ROW 154)).cell? x := fun x => rfl
  have hE2 : ∀ x, ((w.alloc (.cells ROW 154)).drew).frozen? x = (w.drew.alloc (.cells ROW 154)).frozen? x := fun x => rfl
  have hF1 : ∀ x, (((w.alloc (.cells ROW 154)).drew.setCells w.heap.size (i * 4) vs).drew).cell? x = ((w.drew.alloc (.cells ROW 154)).setCells w.heap.size (i * 4) vs).cell? x := fun x => rfl
  have hF2 : ∀ x, (((w.alloc (.cells ROW 154)).drew.setCells w.heap.size (i * 4) vs).drew).frozen? x = ((w.drew.alloc (.cells ROW 154)).setCells w.heap.size (i * 4) vs).frozen? x := fun x => rfl
  have hw1 : IntKind.i64.wrap ((i : Int) + (m : Int)) = (i : Int) + (m : Int) := by rw [IntKind.wrap_i64]; omega
  have hb1 : (0 : Int) ≤ (i : Int) + (m : Int) := by omega
  have hin : i ≤ n := by omega
  have htn : ((i : Int) + (m : Int)).toNat = i + m := by omega
  have hb3 : (i : Int) ≤ (n : Int) := by omega
  refine Calls.mono (R := fun e w' => e = .returned (.slice (some ⟨w.heap.size, 0, none⟩) (n + m) G) ∧ w' = (((w.alloc (.cells ROW 154)).drew.setCells w.heap.size (i * 4) vs).drew).setCells w.heap.size ((i + m) * 4) (cs.drop (i * 4))) ?_ (fun e w' h => ⟨G, ROW, ⟨hGn, hG63⟩, hRs, hRp, h⟩)
  clear hkk hik hold hROW hG hRs hRp hdl hsz hcl hvl hzs hzb hz0 hi0
  go_enter Tryz.func291, Tryz.ntmps291
  go_wp2_with (first
    | (at_builtin; refine Lib.wpList_append_run _ rfl _ _ _ _ rfl _ _ rfl rfl _ _ (hrz _) ?_)
    | (at_builtin; refine wpList_copy_runI _ rfl _ _ 133 133 rfl _ _ rfl rfl (hcpA _ hE1 hE2 _ _) ?_)
    | (at_builtin; refine wpList_copy_runI _ rfl _ _ 133 133 rfl _ _ rfl rfl (hcpB _ (fun _ => rfl) (fun _ => rfl) _ _ _) ?_))
  go_region_law (refine step_copy_runI rfl _ _ 133 133 rfl (.slice (some ⟨w.heap.size, (i + m) * 4, none⟩) (n + m - (i + m)) (G - (i + m))) (.slice (some ⟨b, i * 4, none⟩) (n - i) (c - i)) (by simp [Act.eval, Act.put]) (by simp [Act.eval, Act.put]) (hcpB _ hF1 hF2 3 (G - (i + m)) (c - i)) ?_)
  go_wp2
  go_ret
  exact ⟨rfl, rfl⟩
end Go.Ev

namespace Go.Ev
section
variable {P : Program} {ops : Array Oper} {Q : Exit → Act → World → Prop} {md : Region.Mode} {S : World → Prop} {d : Option Tmp} {op : Op} {t : TypeId} {ps : String} {af : Array Edge} {g : Option (Tmp × Bool)} {fuel : Nat} {listed : Array Bool} {a : Act} {w : World} {v : Value}
theorem tkH (i : Nat) (hi : ops[i]? = some ⟨d, op, t, ps, af, g⟩) (hc : (Region.noSelect ops && Region.free md ops listed i && (Region.ready md ops listed).contains i) = true)
    (hQ : ∀ c a w, Q (.panic c) (a.put d v) w → Q (.panic c) a w) (hw : Region.wanted ⟨d, op, t, ps, af, g⟩ (yielded ops a.tmps) = true) (hS : S w) (hy : ∀ w, S w → (execOp a.eval ⟨d, op, t, ps, af, g⟩).run P w = .ok (.value v) w)
    (h : wpAnyH P md ops Q S fuel (listed.setIfInBounds i true) (a.put d v) w) : wpAnyH P md ops Q S (fuel + 1) listed a w := by
  simp only [Bool.and_eq_true] at hc
  exact wpAnyH_take hi hc.1.1 hc.1.2 hc.2 hQ (.inl ⟨hw, hy⟩) hS h
theorem skH (i : Nat) (hi : ops[i]? = some ⟨d, op, t, ps, af, g⟩) (hc : (Region.noSelect ops && Region.free md ops listed i && (Region.ready md ops listed).contains i) = true)
    (hQ : ∀ c a w, Q (.panic c) (a.put d undef) w → Q (.panic c) a w) (hw : Region.wanted ⟨d, op, t, ps, af, g⟩ (yielded ops a.tmps) = false) (hS : S w)
    (h : wpAnyH P md ops Q S fuel (listed.setIfInBounds i true) (a.put d undef) w) : wpAnyH P md ops Q S (fuel + 1) listed a w := by
  simp only [Bool.and_eq_true] at hc
  exact wpAnyH_take hi hc.1.1 hc.1.2 hc.2 hQ (.inr ⟨hw, rfl⟩) hS h
theorem wpOp_of {i : Nat} {K : Act → World → Prop} (hi : ops[i]? = some ⟨d, op, t, ps, af, g⟩)
    (h : if Region.wanted ⟨d, op, t, ps, af, g⟩ (yielded ops a.tmps) = true then Oper.wp P ⟨d, op, t, ps, af, g⟩ a w K Q else K (a.put d undef) w) : wpOp P ops Q i K a w := by
  unfold wpOp
  simp only [hi]
  split
  · rename_i hw; rw [if_pos hw] at h; exact .inl h
  · rename_i hw; rw [if_neg hw] at h; exact h
theorem rdH (i : Nat) (hr : Region.ready md ops listed = [i]) (hi : ops[i]? = some ⟨d, op, t, ps, af, g⟩)
    (h : ∀ K' : Act → World → Prop, (∀ a w, S w → wpAnyH P md ops Q S fuel (listed.setIfInBounds i true) a w → K' a w) → if Region.wanted ⟨d, op, t, ps, af, g⟩ (yielded ops a.tmps) = true then Oper.wp P ⟨d, op, t, ps, af, g⟩ a w K' Q else K' (a.put d undef) w) :
    wpAnyH P md ops Q S (fuel + 1) listed a w :=
  wpAnyH_all hr (by simp) fun j hj => by
    have e : j = i := by simpa using hj
    subst e
    exact wpOp_of hi (h _ fun _ _ hs hh => ⟨hs, hh⟩)
end
end Go.Ev

namespace Go.Ev
theorem if_on {p : Prop} [Decidable p] {a b : Prop} (h : p) (ha : a) : if p then a else b := by rw [if_pos h]; exact ha
def intsV (l : List Int) : List Value := l.map (Value.int .i64)
end Go.Ev



set_option linter.unusedVariables false
set_option linter.unusedSimpArgs false
namespace Go.Ev
open Go.Proofs Go.RowKit
theorem push_all : ∀ (l : List UInt8) (r : ByteArray), (l.map fun x => (x.toNat : Int)).foldl (fun r n => r.push (UInt8.ofNat n.toNat)) r = ⟨r.data ++ l.toArray⟩
  | [], r => by
    apply ByteArray.ext
    simp
  | x :: l, r => by
    rw [List.map_cons, List.foldl_cons, push_all l]
    apply ByteArray.ext
    have hx : UInt8.ofNat (x.toNat : Int).toNat = x := by
      rw [Int.toNat_natCast]
      exact UInt8.ofNat_toNat
    show (r.data.push (UInt8.ofNat (x.toNat : Int).toNat)) ++ l.toArray = r.data ++ (x :: l).toArray
    rw [hx]
    apply Array.ext'
    simp
theorem bytes_exact (W : World) (b k n c : Nat) (f : Nat → UInt8) (h : ∀ j, j < n → W.cell? ⟨b, k + j, none⟩ = some (.int .u8 (f j).toNat)) :
    (convert 62 9 (.slice (some ⟨b, k, none⟩) n c)).run Tryz.prog W = .ok (.string ⟨((List.range n).map f).toArray⟩) W := by
  rw [run_convert_bytes_string W _ _ 5 _ _ _ Tryz.underlying62 Tryz.underlying5 Tryz.underlying9]
  have hl := run_loadCells_list (P := Tryz.prog) (w := W) ⟨b, k, none⟩ ((((List.range n).map f).map fun x => (x.toNat : Int)).map (Value.int .u8)) (fun j v hj => by
    rw [List.map_map, List.map_map, List.getElem?_map, Option.map_eq_some_iff] at hj
    obtain ⟨i, hi, rfl⟩ := hj
    obtain ⟨h1, h2⟩ := List.getElem?_eq_some_iff.1 hi
    rw [List.getElem_range] at h2
    subst h2
    rw [Addr.add_lit]
    exact h _ (by simpa using h1))
  simp only [List.length_map, List.length_range] at hl
  have hr := run_bytesToString W ⟨b, k, none⟩ n c _ hl
  rw [hr, push_all]
  congr 2
  apply ByteArray.ext
  apply Array.ext'
  simp
end Go.Ev









set_option linter.unusedVariables false
set_option linter.unusedSimpArgs false
namespace Go.Ev
open Go.Proofs Go.RowKit Go.Lib
abbrev strV (l : Bytes) : Value := .string ⟨l.toArray⟩
end Go.Ev





























set_option linter.unusedVariables false
set_option linter.unusedSimpArgs false
namespace Go.Ev
open Go.Proofs Go.RowKit
theorem own_base {w : World} {b b' : Nat} {e : TypeId} {z : Nat} {v : Value} {n : Nat} {xs : List Value} (h : w.ownsRow b e z v n xs) (hb : b' ≤ b) : w.ownsRow b' e z v n xs := by
  refine ⟨h.1, h.2.imp id ?_⟩
  rintro ⟨g, cap, cur, hv, h1, h2⟩
  exact ⟨g, cap, cur, hv, Nat.le_trans hb h1, h2⟩
end Go.Ev

set_option linter.unusedVariables false
set_option linter.unusedSimpArgs false
namespace Go.Ev
open Go.Proofs Go.RowKit
theorem own_below {w w' : World} {base : Nat} {e : TypeId} {z : Nat} {v : Value} {n : Nat} {xs : List Value} (h : w.ownsRow base e z v n xs) (hb : Below w.heap.size w w') : w'.ownsRow base e z v n xs := own_keeps h (Keeps.of_below (S := fun _ => False) hb) (fun _ _ h => h)
end Go.Ev



















set_option linter.unusedVariables false
set_option linter.unusedSimpArgs false
namespace Go.Ev
open Go.Proofs Go.RowKit
def pairCs (q : Pair) : List Value := [strV q.1, strV q.2]
def pairsCs : List Pair → List Value
  | [] => []
  | q :: l => pairCs q ++ pairsCs l
theorem pairsCs_len : ∀ l : List Pair, (pairsCs l).length = l.length * 2
  | [] => rfl
  | q :: l => by simp [pairsCs, pairCs, pairsCs_len l]; omega
theorem pairsCs_app : ∀ a b : List Pair, pairsCs (a ++ b) = pairsCs a ++ pairsCs b
  | [], _ => rfl
  | q :: a, b => by simp [pairsCs, pairsCs_app a b]
theorem pairsCs_one : ∀ l : List Pair, ∀ u ∈ pairsCs l, u.oneCell' = true
  | [], u, h => by simp [pairsCs] at h
  | q :: l, u, h => by
    simp only [pairsCs, pairCs, List.cons_append, List.nil_append, List.mem_cons] at h
    rcases h with rfl | rfl | h
    · rfl
    · rfl
    · exact pairsCs_one l u h
theorem pairsCs_at : ∀ (l : List Pair) (k : Nat) (hk : k < l.length), (pairsCs l)[k * 2]? = some (strV l[k].1) ∧ (pairsCs l)[k * 2 + 1]? = some (strV l[k].2)
  | q :: l, 0, _ => ⟨rfl, rfl⟩
  | q :: l, k + 1, h => by
    have ih := pairsCs_at l k (by simpa using h)
    rw [show (k + 1) * 2 = k * 2 + 2 by omega]
    simpa [pairsCs, pairCs] using ih
end Go.Ev

set_option linter.unusedVariables false
set_option linter.unusedSimpArgs false
namespace Go.Ev
open Go.Proofs Go.RowKit
theorem infoPair : (Tryz.prog.info? 59).map (fun i => (i.zero, i.size, i.bytes)) = some (some (.agg #[strV [], strV []]), 2, 32) := by kernel_rfl
theorem row_pair (w : World) (q : Pair) (T : TypeId) (B : Nat) (hB : B = w.heap.size) : ∀ j v, (pairsCs [q])[j]? = some v → (w.alloc (.cells #[strV q.1, strV q.2] T)).cell? ((⟨B, 0, none⟩ : Addr).add j) = some v := by
  intro j v h
  subst hB
  rw [addr_add]
  have hb := Blk.new w T #[strV q.1, strV q.2]
  match j with
  | 0 => cases h; exact hb.cell 0
  | 1 => cases h; exact hb.cell 1
  | j + 2 => simp [pairsCs, pairCs] at h
end Go.Ev

set_option linter.unusedVariables false
set_option linter.unusedSimpArgs false
namespace Go.Ev
open Go.Proofs Go.RowKit
set_option maxHeartbeats 2000000 in
theorem cloneP_any (A : Addr) (n c : Nat) (l : List Pair) (w : World) (hv : Sl w 2 (.slice (some A) n c) n (pairsCs l)) (hn : n ≤ 100000) :
    Calls Tryz.prog 23 #[.slice (some A) n c] w fun e w' =>
      ∃ v', e = .returned v' ∧ w'.ownsRow w.heap.size 59 2 v' n (pairsCs l) ∧ Below w.heap.size w w' := by
  obtain ⟨i0, hi, hz0, hz1, hz2⟩ := info_parts (show (Tryz.prog.info? 59).map (fun i => (i.zero, i.size, i.bytes)) = some (some (.agg #[strV [], strV []]), 2, 32) by kernel_rfl)
  have q22 : ∀ (w : World) (a : Option Addr) (n c n' c' : Nat), (binOp .eql 28 (.slice a n c) (.slice none n' c')).run Tryz.prog w = .ok (.bool a.isNone) w := fun w a n c n' c' => Lib.run_eql_slice_nil w _ 59 a n c n' c' Tryz.underlying28
  go_enter Tryz.func23, Tryz.ntmps23
  go_wp2_with (at_builtin; go_must (refine wpList_append_own _ rfl _ _ 28 rfl w.heap.size 59 i0 _ 2 32 Tryz.underlying28 hi hz0 hz1 hz2 rfl (by decide) _ _ _ rfl (World.ownsRow_made w #[] 0 (Nat.le_refl _) (Nat.zero_le _) rfl) A n c (pairsCs l) rfl ?c0 ?c1 ?c2 ?c3 ?c4 ?c5 ?_))
  case c0 =>
    obtain ⟨_, _, e0, h0, h1, h2⟩ := hv
    simpa using h1
  case c1 =>
    obtain ⟨_, _, e0, h0, h1, h2⟩ := hv
    intro j u hu
    have hj := (List.getElem?_eq_some_iff.1 hu).1
    obtain ⟨b, o, eA, h4, h5⟩ := h2 (by omega)
    simp only [Value.slice.injEq] at e0
    rw [← e0.1] at eA
    cases eA
    rw [Addr.add_lit]
    exact Lib.cell?_alloc_some _ (h5 j u hu)
  case c2 => exact pairsCs_one l
  case c3 => unfold maxLen; omega
  case c4 => omega
  case c5 => simp
  intro v' w1 hown hgrow hnil
  go_wp2
  go_ret
  exact ⟨v', rfl, by simpa using hown, ((Below.refl _ w).alloc (Nat.le_refl _) _).grown hgrow (by simp) (by intro k hk; simp [Value.ownBlock] at hk; omega)⟩
theorem cloneP_nil (c : Nat) (w : World) :
    Calls Tryz.prog 23 #[.slice none 0 c] w fun e w' => e = .returned (.slice none 0 0) ∧ Below w.heap.size w w' := by
  have q22 : ∀ (w : World) (a : Option Addr) (n c n' c' : Nat), (binOp .eql 28 (.slice a n c) (.slice none n' c')).run Tryz.prog w = .ok (.bool a.isNone) w := fun w a n c n' c' => Lib.run_eql_slice_nil w _ 59 a n c n' c' Tryz.underlying28
  go_enter Tryz.func23, Tryz.ntmps23
  go_wp2
  go_ret
  exact ⟨rfl, Below.refl _ _⟩
def OwnPPost (l : List Pair) (w : World) (e : Ending) (w' : World) : Prop := ∃ v', e = .returned v' ∧ w'.ownsRow w.heap.size 59 2 v' l.length (pairsCs l) ∧ Below w.heap.size w w'
theorem cloneP_all (A : Option Addr) (n c : Nat) (l : List Pair) (w : World) (hv : Sl w 2 (.slice A n c) n (pairsCs l)) (hn : n ≤ 100000) :
    Calls Tryz.prog 23 #[.slice A n c] w (OwnPPost l w) := by
  have hl : l.length = n := by
    obtain ⟨_, _, _, _, h1, _⟩ := hv
    rw [pairsCs_len] at h1
    omega
  cases A with
  | none =>
    obtain ⟨A', c', e0, h0, h1, h2⟩ := hv
    cases e0
    have h0 : n = 0 := by
      by_cases h : 0 < n
      · obtain ⟨_, _, e, _⟩ := h2 h; cases e
      · omega
    subst h0
    have : l = [] := List.eq_nil_of_length_eq_zero hl
    subst this
    exact (cloneP_nil c w).mono fun e w' ⟨he, hb⟩ => ⟨_, he, World.ownsRow_nil _ _ _ _, hb⟩
  | some A => exact (cloneP_any A n c l w hv hn).mono fun e w' ⟨v', he, ho, hb⟩ => ⟨v', he, by rw [hl]; exact ho, hb⟩
set_option maxHeartbeats 2000000 in
theorem cloneZ_any (A : Addr) (n c : Nat) (l : List Value) (h1l : ∀ u ∈ l, u.oneCell' = true) (w : World) (hv : Sl w 1 (.slice (some A) n c) n l) (hn : n ≤ 100000) :
    Calls Tryz.prog 75 #[.slice (some A) n c] w fun e w' =>
      ∃ v', e = .returned v' ∧ w'.ownsRow w.heap.size 3 1 v' n l ∧ Below w.heap.size w w' := by
  obtain ⟨i0, hi, hz0, hz1, hz2⟩ := info_parts (show (Tryz.prog.info? 3).map (fun i => (i.zero, i.size, i.bytes)) = some (some (.int .i64 0), 1, 8) by kernel_rfl)
  have q22 : ∀ (w : World) (a : Option Addr) (n c n' c' : Nat), (binOp .eql 27 (.slice a n c) (.slice none n' c')).run Tryz.prog w = .ok (.bool a.isNone) w := fun w a n c n' c' => Lib.run_eql_slice_nil w _ 3 a n c n' c' Tryz.underlying27
  go_enter Tryz.func75, Tryz.ntmps75
  go_wp2_with (at_builtin; go_must (refine wpList_append_own _ rfl _ _ 27 rfl w.heap.size 3 i0 _ 1 8 Tryz.underlying27 hi hz0 hz1 hz2 rfl (by decide) _ _ _ rfl (World.ownsRow_made w #[] 0 (Nat.le_refl _) (Nat.zero_le _) rfl) A n c l rfl ?c0 ?c1 ?c2 ?c3 ?c4 ?c5 ?_))
  case c0 =>
    obtain ⟨_, _, e0, h0, h1, h2⟩ := hv
    simpa using h1
  case c1 =>
    obtain ⟨_, _, e0, h0, h1, h2⟩ := hv
    intro j u hu
    have hj := (List.getElem?_eq_some_iff.1 hu).1
    obtain ⟨b, o, eA, h4, h5⟩ := h2 (by omega)
    simp only [Value.slice.injEq] at e0
    rw [← e0.1] at eA
    cases eA
    rw [Addr.add_lit]
    exact Lib.cell?_alloc_some _ (h5 j u hu)
  case c2 => exact h1l
  case c3 => unfold maxLen; omega
  case c4 => omega
  case c5 => simp
  intro v' w1 hown hgrow hnil
  go_wp2
  go_ret
  exact ⟨v', rfl, by simpa using hown, ((Below.refl _ w).alloc (Nat.le_refl _) _).grown hgrow (by simp) (by intro k hk; simp [Value.ownBlock] at hk; omega)⟩
theorem cloneZ_nil (c : Nat) (w : World) :
    Calls Tryz.prog 75 #[.slice none 0 c] w fun e w' => e = .returned (.slice none 0 0) ∧ Below w.heap.size w w' := by
  have q22 : ∀ (w : World) (a : Option Addr) (n c n' c' : Nat), (binOp .eql 27 (.slice a n c) (.slice none n' c')).run Tryz.prog w = .ok (.bool a.isNone) w := fun w a n c n' c' => Lib.run_eql_slice_nil w _ 3 a n c n' c' Tryz.underlying27
  go_enter Tryz.func75, Tryz.ntmps75
  go_wp2
  go_ret
  exact ⟨rfl, Below.refl _ _⟩
theorem cloneZ_all (A : Option Addr) (n c : Nat) (l : List Value) (h1l : ∀ u ∈ l, u.oneCell' = true) (w : World) (hv : Sl w 1 (.slice A n c) n l) (hn : n ≤ 100000) :
    Calls Tryz.prog 75 #[.slice A n c] w fun e w' => ∃ A' n' c', e = .returned (.slice A' n' c') ∧ Below w.heap.size w w' := by
  cases A with
  | none =>
    have hn0 : n = 0 := by
      obtain ⟨A', c', e0, h0, h1, h2⟩ := hv
      cases e0
      by_cases h : 0 < n
      · obtain ⟨_, _, e, _⟩ := h2 h; cases e
      · omega
    subst hn0
    exact (cloneZ_nil c w).mono fun e w' ⟨he, hb⟩ => ⟨_, _, _, he, hb⟩
  | some A =>
    exact (cloneZ_any A n c l h1l w hv hn).mono fun e w' ⟨v', he, ho, hb⟩ => by
      obtain ⟨A', c', rfl, -⟩ := Sl.of_own ho
      exact ⟨_, _, _, he, hb⟩
end Go.Ev

set_option linter.unusedVariables false
set_option linter.unusedSimpArgs false
namespace Go.Ev
open Go.Proofs Go.RowKit
theorem bytes_beq (a b : Bytes) : ((⟨a.toArray⟩ : ByteArray) == ⟨b.toArray⟩) = decide (a = b) := by
  show (a.toArray == b.toArray) = decide (a = b)
  rw [Bool.eq_iff_iff]
  simp
set_option maxHeartbeats 2000000 in
set_option maxRecDepth 100000 in
theorem samePairs_any (A B : Option Addr) (n m c d : Nat) (a b : List Pair) (w : World) (ha : Sl w 2 (.slice A n c) n (pairsCs a)) (hb : Sl w 2 (.slice B m d) m (pairsCs b)) (hn : n ≤ 1000000) (hm : m ≤ 1000000) :
    Calls Tryz.prog 12 #[.slice A n c, .slice B m d] w fun e w' => e = .returned (.bool (decide (a = b))) ∧ Below w.heap.size w w' := by
  have hla : n = a.length := by obtain ⟨_, _, _, _, h1, _⟩ := ha; rw [pairsCs_len] at h1; omega
  have hlb : m = b.length := by obtain ⟨_, _, _, _, h1, _⟩ := hb; rw [pairsCs_len] at h1; omega
  subst hla hlb
  by_cases hl : a.length = b.length
  · have hl' : ((a.length : Int) != (b.length : Int)) = false := by simp [hl]
    have HL := Lib.hid hl
    go_enter Tryz.func12, Tryz.ntmps12
    clear hl
    go_wp2_with (fail)
    go_loopg [5] a.length (fun gk s5 wr => ∃ i : Nat, s5 = .int .i64 (i : Int) ∧ i + gk = a.length ∧ Hid (a.take i = b.take i) ∧ Below w.heap.size w wr)
    case atStart => exact ⟨0, rfl, by omega, rfl, Below.refl _ _⟩
    case round =>
      obtain ⟨i, rfl, hi, hsame, hbw⟩ := hrel
      by_cases h1 : i < a.length
      · have h1' : (i : Int) < (a.length : Int) := by omega
        have h2 : i < b.length := by have := HL.out; omega
        have h2' : (i : Int) < (b.length : Int) := by omega
        have hi0 : (0 : Int) ≤ (i : Int) := by omega
        have hw1 : IntKind.i64.wrap ((i : Int) + 1) = (i : Int) + 1 := IntWalk.i64_in _ (by omega)
        obtain ⟨_, _, e0, _, _, hcl⟩ := ha.below hbw
        cases e0
        obtain ⟨ba, oa, rfl, _, hca⟩ := hcl (by omega)
        obtain ⟨_, _, e0, _, _, hcl2⟩ := hb.below hbw
        cases e0
        obtain ⟨bb, ob, rfl, _, hcb⟩ := hcl2 (by omega)
        obtain ⟨p1, p2⟩ := pairsCs_at a i h1
        obtain ⟨p3, p4⟩ := pairsCs_at b i h2
        have x1 : wr.cell? ⟨ba, oa + i * 2, none⟩ = _ := hca _ _ p1
        have x2 : wr.cell? ⟨ba, oa + i * 2 + 1, none⟩ = _ := hca _ _ p2
        have x3 : wr.cell? ⟨bb, ob + i * 2, none⟩ = _ := hcb _ _ p3
        have x4 : wr.cell? ⟨bb, ob + i * 2 + 1, none⟩ = _ := hcb _ _ p4
        have HSt : Hid (a[i] = b[i] → a.take (i + 1) = b.take (i + 1)) := fun e => by
          rw [List.take_succ_eq_append_getElem h1, List.take_succ_eq_append_getElem h2, hsame.out, e]
        have HNe : Hid (a[i] ≠ b[i] → decide (a = b) = false) := fun e => by
          refine decide_eq_false fun e2 => e ?_
          subst e2; rfl
        clear p1 p2 p3 p4 hca hcb hcl hcl2 ha hb
        generalize a[i] = qa at *
        generalize b[i] = qb at *
        obtain ⟨k1, v1⟩ := qa
        obtain ⟨k2, v2⟩ := qb
        have hk := bytes_beq k1 k2
        have hv := bytes_beq v1 v2
        by_cases he : k1 = k2 ∧ v1 = v2
        · obtain ⟨rfl, rfl⟩ := he
          clear hk hv
          go_wp2_with (fail)
          refine wp_region_any (by kernel_rfl) ?_
          change wpAny _ _ _ _ _ _ _ (World.drew _)
          try simp only [Act.put, lT, l0, lS]
          refine tk 0 (v := ?_) rfl (by kernel_rfl) (fun _ _ _ h => h) (by rfl) ?hy ?_
          case hy => intro w; go_simp; try with_reducible rfl
          try simp only [Act.put, lT, l0, lS]
          refine tk 1 (v := ?_) rfl (by kernel_rfl) (fun _ _ _ h => h) (by rfl) ?hy ?_
          case hy => intro w; go_simp; try with_reducible rfl
          try simp only [Act.put, lT, l0, lS]
          refine tk 2 (v := ?_) rfl (by kernel_rfl) (fun _ _ _ h => h) (by rfl) ?hy ?_
          case hy => intro w; go_simp; try with_reducible rfl
          try simp only [Act.put, lT, l0, lS]
          refine tk 4 (v := ?_) rfl (by kernel_rfl) (fun _ _ _ h => h) (by rfl) ?hy ?_
          case hy => intro w; go_simp; try with_reducible rfl
          try simp only [Act.put, lT, l0, lS]
          refine tk 5 (v := ?_) rfl (by kernel_rfl) (fun _ _ _ h => h) (by rfl) ?hy ?_
          case hy => intro w; go_simp; try with_reducible rfl
          try simp only [Act.put, lT, l0, lS]
          refine tk 6 (v := ?_) rfl (by kernel_rfl) (fun _ _ _ h => h) (by rfl) ?hy ?_
          case hy => intro w; go_simp; try with_reducible rfl
          try simp only [Act.put, lT, l0, lS]
          try simp only [Act.put, lT, l0, lS]
          refine tkR 3 (v := ?_) rfl (by kernel_rfl) (fun _ _ _ h => h) (by rfl) ?hy ?_
          case hy => intro w hE; have q0 := hE.cell x1; have q1 := hE.cell x2; go_simp; try with_reducible rfl
          try simp only [Act.put, lT, l0, lS]
          try simp only [Act.put, lT, l0, lS]
          refine tkR 7 (v := ?_) rfl (by kernel_rfl) (fun _ _ _ h => h) (by rfl) ?hy ?_
          case hy => intro w hE; have q0 := hE.cell x3; have q1 := hE.cell x4; go_simp; try with_reducible rfl
          try simp only [Act.put, lT, l0, lS]
          refine rd 8 (by kernel_rfl) rfl (fun K hK => ?_)
          go_simp
          refine hK _ _ ?_
          clear hK K
          refine rd 9 (by kernel_rfl) rfl (fun K hK => ?_)
          go_simp
          refine hK _ _ ?_
          clear hK K
          refine wpAny_done (by kernel_rfl) ?_ _
          go_wp2_with (fail)
          go_roundg (gk - 1)
          case measure => omega
          case rel => exact ⟨i + 1, by simp, by omega, HSt.out (by first | rfl | trivial), hbw.drew⟩
        · have HF : Hid (decide (a = b) = false) := HNe.out fun e => he (by simpa using e)
          by_cases hkk : k1 = k2
          · have hvv : ¬ v1 = v2 := fun e => he ⟨hkk, e⟩
            subst hkk
            rw [decide_eq_false hvv] at hv
            clear hk he
            go_wp2_with (fail)
            refine wp_region_any (by kernel_rfl) ?_
            change wpAny _ _ _ _ _ _ _ (World.drew _)
            try simp only [Act.put, lT, l0, lS]
            refine tk 0 (v := ?_) rfl (by kernel_rfl) (fun _ _ _ h => h) (by rfl) ?hy ?_
            case hy => intro w; go_simp; try with_reducible rfl
            try simp only [Act.put, lT, l0, lS]
            refine tk 1 (v := ?_) rfl (by kernel_rfl) (fun _ _ _ h => h) (by rfl) ?hy ?_
            case hy => intro w; go_simp; try with_reducible rfl
            try simp only [Act.put, lT, l0, lS]
            refine tk 2 (v := ?_) rfl (by kernel_rfl) (fun _ _ _ h => h) (by rfl) ?hy ?_
            case hy => intro w; go_simp; try with_reducible rfl
            try simp only [Act.put, lT, l0, lS]
            refine tk 4 (v := ?_) rfl (by kernel_rfl) (fun _ _ _ h => h) (by rfl) ?hy ?_
            case hy => intro w; go_simp; try with_reducible rfl
            try simp only [Act.put, lT, l0, lS]
            refine tk 5 (v := ?_) rfl (by kernel_rfl) (fun _ _ _ h => h) (by rfl) ?hy ?_
            case hy => intro w; go_simp; try with_reducible rfl
            try simp only [Act.put, lT, l0, lS]
            refine tk 6 (v := ?_) rfl (by kernel_rfl) (fun _ _ _ h => h) (by rfl) ?hy ?_
            case hy => intro w; go_simp; try with_reducible rfl
            try simp only [Act.put, lT, l0, lS]
            try simp only [Act.put, lT, l0, lS]
            refine tkR 3 (v := ?_) rfl (by kernel_rfl) (fun _ _ _ h => h) (by rfl) ?hy ?_
            case hy => intro w hE; have q0 := hE.cell x1; have q1 := hE.cell x2; go_simp; try with_reducible rfl
            try simp only [Act.put, lT, l0, lS]
            try simp only [Act.put, lT, l0, lS]
            refine tkR 7 (v := ?_) rfl (by kernel_rfl) (fun _ _ _ h => h) (by rfl) ?hy ?_
            case hy => intro w hE; have q0 := hE.cell x3; have q1 := hE.cell x4; go_simp; try with_reducible rfl
            try simp only [Act.put, lT, l0, lS]
            refine rd 8 (by kernel_rfl) rfl (fun K hK => ?_)
            go_simp
            refine hK _ _ ?_
            clear hK K
            refine rd 9 (by kernel_rfl) rfl (fun K hK => ?_)
            go_simp
            refine hK _ _ ?_
            clear hK K
            refine wpAny_done (by kernel_rfl) ?_ _
            go_wp2_with (fail)
            go_ret
            exact ⟨by rw [HF.out] <;> rfl, hbw.drew⟩
          · rw [decide_eq_false hkk] at hk
            clear he
            go_wp2_with (fail)
            refine wp_region_any (by kernel_rfl) ?_
            change wpAny _ _ _ _ _ _ _ (World.drew _)
            try simp only [Act.put, lT, l0, lS]
            refine tk 0 (v := ?_) rfl (by kernel_rfl) (fun _ _ _ h => h) (by rfl) ?hy ?_
            case hy => intro w; go_simp; try with_reducible rfl
            try simp only [Act.put, lT, l0, lS]
            refine tk 1 (v := ?_) rfl (by kernel_rfl) (fun _ _ _ h => h) (by rfl) ?hy ?_
            case hy => intro w; go_simp; try with_reducible rfl
            try simp only [Act.put, lT, l0, lS]
            refine tk 2 (v := ?_) rfl (by kernel_rfl) (fun _ _ _ h => h) (by rfl) ?hy ?_
            case hy => intro w; go_simp; try with_reducible rfl
            try simp only [Act.put, lT, l0, lS]
            refine tk 4 (v := ?_) rfl (by kernel_rfl) (fun _ _ _ h => h) (by rfl) ?hy ?_
            case hy => intro w; go_simp; try with_reducible rfl
            try simp only [Act.put, lT, l0, lS]
            refine tk 5 (v := ?_) rfl (by kernel_rfl) (fun _ _ _ h => h) (by rfl) ?hy ?_
            case hy => intro w; go_simp; try with_reducible rfl
            try simp only [Act.put, lT, l0, lS]
            refine tk 6 (v := ?_) rfl (by kernel_rfl) (fun _ _ _ h => h) (by rfl) ?hy ?_
            case hy => intro w; go_simp; try with_reducible rfl
            try simp only [Act.put, lT, l0, lS]
            try simp only [Act.put, lT, l0, lS]
            refine tkR 3 (v := ?_) rfl (by kernel_rfl) (fun _ _ _ h => h) (by rfl) ?hy ?_
            case hy => intro w hE; have q0 := hE.cell x1; have q1 := hE.cell x2; go_simp; try with_reducible rfl
            try simp only [Act.put, lT, l0, lS]
            try simp only [Act.put, lT, l0, lS]
            refine tkR 7 (v := ?_) rfl (by kernel_rfl) (fun _ _ _ h => h) (by rfl) ?hy ?_
            case hy => intro w hE; have q0 := hE.cell x3; have q1 := hE.cell x4; go_simp; try with_reducible rfl
            try simp only [Act.put, lT, l0, lS]
            refine rd 8 (by kernel_rfl) rfl (fun K hK => ?_)
            go_simp
            refine hK _ _ ?_
            clear hK K
            refine rd 9 (by kernel_rfl) rfl (fun K hK => ?_)
            go_simp
            refine hK _ _ ?_
            clear hK K
            refine wpAny_done (by kernel_rfl) ?_ _
            go_wp2_with (fail)
            go_ret
            exact ⟨by rw [HF.out] <;> rfl, hbw.drew⟩
      · have h1' : ¬ (i : Int) < (a.length : Int) := by omega
        have HE : Hid (decide (a = b) = true) := by
          have hii : i = a.length := by omega
          have h3 := hsame.out
          have h4 := HL.out
          rw [hii, List.take_length, h4, List.take_length] at h3
          exact decide_eq_true h3
        clear ha hb hsame
        go_wp2_with (fail)
        go_ret
        exact ⟨by rw [HE.out] <;> rfl, hbw⟩
  · have hl' : ((a.length : Int) != (b.length : Int)) = true := by
      simp only [bne_iff_ne, ne_eq]
      omega
    have HE : Hid (decide (a = b) = false) := decide_eq_false fun e => hl (by rw [e])
    clear hl ha hb
    go_enter Tryz.func12, Tryz.ntmps12
    go_wp2_with (fail)
    go_ret
    exact ⟨by rw [HE.out] <;> rfl, Below.refl _ _⟩
end Go.Ev

set_option linter.unusedVariables false
set_option linter.unusedSimpArgs false
namespace Go.Ev
open Go.Proofs Go.RowKit
def nameF (i k : Nat) : Nat → UInt8
  | 0 => 109
  | 1 => UInt8.ofNat (65 + i % 26)
  | 2 => UInt8.ofNat (65 + i / 26 % 26)
  | 3 => UInt8.ofNat (48 + k % 10)
  | 4 => UInt8.ofNat (48 + k / 10 % 10)
  | _ => UInt8.ofNat (48 + k / 100 % 10)
def nameB (i k : Nat) : Bytes := (List.range 6).map (nameF i k)
theorem u8_of {n : Nat} {z : Int} (h : z = (n : Int)) (hn : n < 256) : Value.int .u8 z = .int .u8 ((UInt8.ofNat n).toNat : Int) := by
  rw [h]
  congr 1
  rw [UInt8.toNat_ofNat']
  omega
set_option maxRecDepth 100000 in
theorem name_any (i k : Nat) (w : World) (hi : i ≤ 100000) (hk : k ≤ 100000) :
    Calls Tryz.prog 135 #[.int .i64 (i : Int), .int .i64 (k : Int)] w fun e w' => e = .returned (strV (nameB i k)) ∧ Below w.heap.size w w' := by
  have hb : Blk (w.alloc (.cells #[.int .u8 109, .int .u8 (65 + (i : Int) % 26), .int .u8 (65 + (i : Int) / 26 % 26), .int .u8 (48 + (k : Int) % 10), .int .u8 (48 + (k : Int) / 10 % 10), .int .u8 (48 + (k : Int) / 100 % 10)] 5)) w.heap.size 5 #[.int .u8 109, .int .u8 (65 + (i : Int) % 26), .int .u8 (65 + (i : Int) / 26 % 26), .int .u8 (48 + (k : Int) % 10), .int .u8 (48 + (k : Int) / 10 % 10), .int .u8 (48 + (k : Int) / 100 % 10)] := Blk.new _ _ _
  have hcv := bytes_exact _ w.heap.size 0 6 6 (nameF i k) (fun j hj => by
    rw [Nat.zero_add, hb.cell]
    match j with
    | 0 => rfl
    | 1 => exact congrArg some (u8_of (by omega) (by omega))
    | 2 => exact congrArg some (u8_of (by omega) (by omega))
    | 3 => exact congrArg some (u8_of (by omega) (by omega))
    | 4 => exact congrArg some (u8_of (by omega) (by omega))
    | 5 => exact congrArg some (u8_of (by omega) (by omega))
    | j + 6 => omega)
  have HB := Lib.hid ((Below.refl w.heap.size w).alloc (Nat.le_refl _) (.cells #[.int .u8 109, .int .u8 (65 + (i : Int) % 26), .int .u8 (65 + (i : Int) / 26 % 26), .int .u8 (48 + (k : Int) % 10), .int .u8 (48 + (k : Int) / 10 % 10), .int .u8 (48 + (k : Int) / 100 % 10)] 5))
  clear hb
  go_enter Tryz.func135, Tryz.ntmps135
  go_wp2_with (fail)
  go_ret
  exact ⟨rfl, HB.out⟩
end Go.Ev



set_option linter.unusedVariables false
set_option linter.unusedSimpArgs false
namespace Go.Ev
open Go.Proofs Go.RowKit
set_option maxRecDepth 100000 in
theorem stillTexts_nil {w : World} {g : Nat} (h : w.cell? ⟨g, 0, none⟩ = some (.slice none 0 0)) : Calls Tryz.prog 25 #[.pointer (some ⟨g, 0, none⟩)] w fun e w' => e = .returned (.bool true) ∧ w = w' := by
  go_enter Tryz.func25, Tryz.ntmps25
  go_wp2_with (fail)
  go_loopg [3] 0 (fun gk s3 wr => s3 = .int .i64 0 ∧ w = wr)
  case atStart => exact ⟨rfl, rfl⟩
  case round =>
    obtain ⟨rfl, rfl⟩ := hrel
    go_wp2_with (fail)
    go_ret
    exact ⟨rfl, rfl⟩
set_option maxRecDepth 100000 in
theorem putTexts_nil {w : World} {g : Nat} (h : w.cell? ⟨g, 0, none⟩ = some (.slice none 0 0)) : Calls Tryz.prog 38 #[.pointer (some ⟨g, 0, none⟩)] w fun e w' => e = .returned (.tuple #[]) ∧ w = w' := by
  go_enter Tryz.func38, Tryz.ntmps38
  go_wp2_with (fail)
  go_loopg [2] 0 (fun gk s2 wr => s2 = .int .i64 0 ∧ w = wr)
  case atStart => exact ⟨rfl, rfl⟩
  case round =>
    obtain ⟨rfl, rfl⟩ := hrel
    go_wp2_with (fail)
    go_end0
    exact ⟨rfl, rfl⟩
set_option maxRecDepth 100000 in
theorem growTexts_nil {w : World} {g : Nat} (h : w.cell? ⟨g, 0, none⟩ = some (.slice none 0 0)) : Calls Tryz.prog 47 #[.pointer (some ⟨g, 0, none⟩)] w fun e w' => e = .returned (.slice none 0 0) ∧ w = w' := by
  go_enter Tryz.func47, Tryz.ntmps47
  go_wp2_with (fail)
  go_loopg [3, 4] 0 (fun gk s3 s4 wr => s3 = .slice none 0 0 ∧ s4 = .int .i64 0 ∧ w = wr)
  case atStart => exact ⟨rfl, rfl, rfl⟩
  case round =>
    obtain ⟨rfl, rfl, rfl⟩ := hrel
    go_wp2_with (fail)
    go_ret
    exact ⟨rfl, rfl⟩
set_option maxRecDepth 100000 in
theorem markedTexts_nil (w : World) : Calls Tryz.prog 58 #[.slice none 0 0] w fun e w' => e = .returned (.bool true) ∧ w = w' := by
  go_enter Tryz.func58, Tryz.ntmps58
  go_wp2_with (fail)
  go_loopg [3] 0 (fun gk s3 wr => s3 = .int .i64 0 ∧ w = wr)
  case atStart => exact ⟨rfl, rfl⟩
  case round =>
    obtain ⟨rfl, rfl⟩ := hrel
    go_wp2_with (fail)
    go_ret
    exact ⟨rfl, rfl⟩
set_option maxRecDepth 100000 in
theorem stillInts_nil {w : World} {g : Nat} (h : w.cell? ⟨g, 2, none⟩ = some (.slice none 0 0)) : Calls Tryz.prog 26 #[.pointer (some ⟨g, 0, none⟩)] w fun e w' => e = .returned (.bool true) ∧ w = w' := by
  go_enter Tryz.func26, Tryz.ntmps26
  go_wp2_with (fail)
  go_loopg [3] 0 (fun gk s3 wr => s3 = .int .i64 0 ∧ w = wr)
  case atStart => exact ⟨rfl, rfl⟩
  case round =>
    obtain ⟨rfl, rfl⟩ := hrel
    go_wp2_with (fail)
    go_ret
    exact ⟨rfl, rfl⟩
set_option maxRecDepth 100000 in
theorem putInts_nil {w : World} {g : Nat} (h : w.cell? ⟨g, 2, none⟩ = some (.slice none 0 0)) : Calls Tryz.prog 39 #[.pointer (some ⟨g, 0, none⟩)] w fun e w' => e = .returned (.tuple #[]) ∧ w = w' := by
  go_enter Tryz.func39, Tryz.ntmps39
  go_wp2_with (fail)
  go_loopg [2] 0 (fun gk s2 wr => s2 = .int .i64 0 ∧ w = wr)
  case atStart => exact ⟨rfl, rfl⟩
  case round =>
    obtain ⟨rfl, rfl⟩ := hrel
    go_wp2_with (fail)
    go_end0
    exact ⟨rfl, rfl⟩
set_option maxRecDepth 100000 in
theorem growInts_nil {w : World} {g : Nat} (h : w.cell? ⟨g, 2, none⟩ = some (.slice none 0 0)) : Calls Tryz.prog 48 #[.pointer (some ⟨g, 0, none⟩)] w fun e w' => e = .returned (.slice none 0 0) ∧ w = w' := by
  go_enter Tryz.func48, Tryz.ntmps48
  go_wp2_with (fail)
  go_loopg [3, 4] 0 (fun gk s3 s4 wr => s3 = .slice none 0 0 ∧ s4 = .int .i64 0 ∧ w = wr)
  case atStart => exact ⟨rfl, rfl, rfl⟩
  case round =>
    obtain ⟨rfl, rfl, rfl⟩ := hrel
    go_wp2_with (fail)
    go_ret
    exact ⟨rfl, rfl⟩
set_option maxRecDepth 100000 in
theorem markedInts_nil (w : World) : Calls Tryz.prog 59 #[.slice none 0 0] w fun e w' => e = .returned (.bool true) ∧ w = w' := by
  go_enter Tryz.func59, Tryz.ntmps59
  go_wp2_with (fail)
  go_loopg [3] 0 (fun gk s3 wr => s3 = .int .i64 0 ∧ w = wr)
  case atStart => exact ⟨rfl, rfl⟩
  case round =>
    obtain ⟨rfl, rfl⟩ := hrel
    go_wp2_with (fail)
    go_ret
    exact ⟨rfl, rfl⟩
set_option maxRecDepth 100000 in
theorem stillItems_nil {w : World} {g : Nat} (h : w.cell? ⟨g, 4, none⟩ = some (.slice none 0 0)) : Calls Tryz.prog 27 #[.pointer (some ⟨g, 0, none⟩)] w fun e w' => e = .returned (.bool true) ∧ w = w' := by
  go_enter Tryz.func27, Tryz.ntmps27
  go_wp2_with (fail)
  go_loopg [3] 0 (fun gk s3 wr => s3 = .int .i64 0 ∧ w = wr)
  case atStart => exact ⟨rfl, rfl⟩
  case round =>
    obtain ⟨rfl, rfl⟩ := hrel
    go_wp2_with (fail)
    go_ret
    exact ⟨rfl, rfl⟩
set_option maxRecDepth 100000 in
theorem putItems_nil {w : World} {g : Nat} (h : w.cell? ⟨g, 4, none⟩ = some (.slice none 0 0)) : Calls Tryz.prog 40 #[.pointer (some ⟨g, 0, none⟩)] w fun e w' => e = .returned (.tuple #[]) ∧ w = w' := by
  go_enter Tryz.func40, Tryz.ntmps40
  go_wp2_with (fail)
  go_loopg [2] 0 (fun gk s2 wr => s2 = .int .i64 0 ∧ w = wr)
  case atStart => exact ⟨rfl, rfl⟩
  case round =>
    obtain ⟨rfl, rfl⟩ := hrel
    go_wp2_with (fail)
    go_end0
    exact ⟨rfl, rfl⟩
set_option maxRecDepth 100000 in
theorem growItems_nil {w : World} {g : Nat} (h : w.cell? ⟨g, 4, none⟩ = some (.slice none 0 0)) : Calls Tryz.prog 49 #[.pointer (some ⟨g, 0, none⟩)] w fun e w' => e = .returned (.slice none 0 0) ∧ w = w' := by
  go_enter Tryz.func49, Tryz.ntmps49
  go_wp2_with (fail)
  go_loopg [3, 4] 0 (fun gk s3 s4 wr => s3 = .slice none 0 0 ∧ s4 = .int .i64 0 ∧ w = wr)
  case atStart => exact ⟨rfl, rfl, rfl⟩
  case round =>
    obtain ⟨rfl, rfl, rfl⟩ := hrel
    go_wp2_with (fail)
    go_ret
    exact ⟨rfl, rfl⟩
set_option maxRecDepth 100000 in
theorem markedItems_nil (w : World) : Calls Tryz.prog 60 #[.slice none 0 0] w fun e w' => e = .returned (.bool true) ∧ w = w' := by
  go_enter Tryz.func60, Tryz.ntmps60
  go_wp2_with (fail)
  go_loopg [3] 0 (fun gk s3 wr => s3 = .int .i64 0 ∧ w = wr)
  case atStart => exact ⟨rfl, rfl⟩
  case round =>
    obtain ⟨rfl, rfl⟩ := hrel
    go_wp2_with (fail)
    go_ret
    exact ⟨rfl, rfl⟩
set_option maxRecDepth 100000 in
theorem stillChildren_nil {w : World} {g : Nat} (h : w.cell? ⟨g, 6, none⟩ = some (.slice none 0 0)) : Calls Tryz.prog 28 #[.pointer (some ⟨g, 0, none⟩)] w fun e w' => e = .returned (.bool true) ∧ w = w' := by
  go_enter Tryz.func28, Tryz.ntmps28
  go_wp2_with (fail)
  go_loopg [3] 0 (fun gk s3 wr => s3 = .int .i64 0 ∧ w = wr)
  case atStart => exact ⟨rfl, rfl⟩
  case round =>
    obtain ⟨rfl, rfl⟩ := hrel
    go_wp2_with (fail)
    go_ret
    exact ⟨rfl, rfl⟩
set_option maxRecDepth 100000 in
theorem putChildren_nil {w : World} {g : Nat} (h : w.cell? ⟨g, 6, none⟩ = some (.slice none 0 0)) : Calls Tryz.prog 41 #[.pointer (some ⟨g, 0, none⟩)] w fun e w' => e = .returned (.tuple #[]) ∧ w = w' := by
  go_enter Tryz.func41, Tryz.ntmps41
  go_wp2_with (fail)
  go_loopg [2] 0 (fun gk s2 wr => s2 = .int .i64 0 ∧ w = wr)
  case atStart => exact ⟨rfl, rfl⟩
  case round =>
    obtain ⟨rfl, rfl⟩ := hrel
    go_wp2_with (fail)
    go_end0
    exact ⟨rfl, rfl⟩
set_option maxRecDepth 100000 in
theorem growChildren_nil {w : World} {g : Nat} (h : w.cell? ⟨g, 6, none⟩ = some (.slice none 0 0)) : Calls Tryz.prog 50 #[.pointer (some ⟨g, 0, none⟩)] w fun e w' => e = .returned (.slice none 0 0) ∧ w = w' := by
  go_enter Tryz.func50, Tryz.ntmps50
  go_wp2_with (fail)
  go_loopg [3, 4] 0 (fun gk s3 s4 wr => s3 = .slice none 0 0 ∧ s4 = .int .i64 0 ∧ w = wr)
  case atStart => exact ⟨rfl, rfl, rfl⟩
  case round =>
    obtain ⟨rfl, rfl, rfl⟩ := hrel
    go_wp2_with (fail)
    go_ret
    exact ⟨rfl, rfl⟩
set_option maxRecDepth 100000 in
theorem markedChildren_nil (w : World) : Calls Tryz.prog 61 #[.slice none 0 0] w fun e w' => e = .returned (.bool true) ∧ w = w' := by
  go_enter Tryz.func61, Tryz.ntmps61
  go_wp2_with (fail)
  go_loopg [3] 0 (fun gk s3 wr => s3 = .int .i64 0 ∧ w = wr)
  case atStart => exact ⟨rfl, rfl⟩
  case round =>
    obtain ⟨rfl, rfl⟩ := hrel
    go_wp2_with (fail)
    go_ret
    exact ⟨rfl, rfl⟩
set_option maxRecDepth 100000 in
theorem stillEntries_nil {w : World} {g : Nat} (h : w.cell? ⟨g, 10, none⟩ = some (.slice none 0 0)) : Calls Tryz.prog 30 #[.pointer (some ⟨g, 0, none⟩)] w fun e w' => e = .returned (.bool true) ∧ w = w' := by
  go_enter Tryz.func30, Tryz.ntmps30
  go_wp2_with (fail)
  go_loopg [3] 0 (fun gk s3 wr => s3 = .int .i64 0 ∧ w = wr)
  case atStart => exact ⟨rfl, rfl⟩
  case round =>
    obtain ⟨rfl, rfl⟩ := hrel
    go_wp2_with (fail)
    go_ret
    exact ⟨rfl, rfl⟩
set_option maxRecDepth 100000 in
theorem putEntries_nil {w : World} {g : Nat} (h : w.cell? ⟨g, 10, none⟩ = some (.slice none 0 0)) : Calls Tryz.prog 43 #[.pointer (some ⟨g, 0, none⟩)] w fun e w' => e = .returned (.tuple #[]) ∧ w = w' := by
  go_enter Tryz.func43, Tryz.ntmps43
  go_wp2_with (fail)
  go_loopg [2] 0 (fun gk s2 wr => s2 = .int .i64 0 ∧ w = wr)
  case atStart => exact ⟨rfl, rfl⟩
  case round =>
    obtain ⟨rfl, rfl⟩ := hrel
    go_wp2_with (fail)
    go_end0
    exact ⟨rfl, rfl⟩
set_option maxRecDepth 100000 in
theorem growEntries_nil {w : World} {g : Nat} (h : w.cell? ⟨g, 10, none⟩ = some (.slice none 0 0)) : Calls Tryz.prog 52 #[.pointer (some ⟨g, 0, none⟩)] w fun e w' => e = .returned (.slice none 0 0) ∧ w = w' := by
  go_enter Tryz.func52, Tryz.ntmps52
  go_wp2_with (fail)
  go_loopg [3, 4] 0 (fun gk s3 s4 wr => s3 = .slice none 0 0 ∧ s4 = .int .i64 0 ∧ w = wr)
  case atStart => exact ⟨rfl, rfl, rfl⟩
  case round =>
    obtain ⟨rfl, rfl, rfl⟩ := hrel
    go_wp2_with (fail)
    go_ret
    exact ⟨rfl, rfl⟩
set_option maxRecDepth 100000 in
theorem markedEntries_nil (w : World) : Calls Tryz.prog 63 #[.slice none 0 0] w fun e w' => e = .returned (.bool true) ∧ w = w' := by
  go_enter Tryz.func63, Tryz.ntmps63
  go_wp2_with (fail)
  go_loopg [3] 0 (fun gk s3 wr => s3 = .int .i64 0 ∧ w = wr)
  case atStart => exact ⟨rfl, rfl⟩
  case round =>
    obtain ⟨rfl, rfl⟩ := hrel
    go_wp2_with (fail)
    go_ret
    exact ⟨rfl, rfl⟩
set_option maxRecDepth 100000 in
theorem stillMsgs_nil {w : World} {g : Nat} (h : w.cell? ⟨g, 12, none⟩ = some (.slice none 0 0)) : Calls Tryz.prog 31 #[.pointer (some ⟨g, 0, none⟩)] w fun e w' => e = .returned (.bool true) ∧ w = w' := by
  go_enter Tryz.func31, Tryz.ntmps31
  go_wp2_with (fail)
  go_loopg [3] 0 (fun gk s3 wr => s3 = .int .i64 0 ∧ w = wr)
  case atStart => exact ⟨rfl, rfl⟩
  case round =>
    obtain ⟨rfl, rfl⟩ := hrel
    go_wp2_with (fail)
    go_ret
    exact ⟨rfl, rfl⟩
set_option maxRecDepth 100000 in
theorem putMsgs_nil {w : World} {g : Nat} (h : w.cell? ⟨g, 12, none⟩ = some (.slice none 0 0)) : Calls Tryz.prog 36 #[.pointer (some ⟨g, 0, none⟩)] w fun e w' => e = .returned (.tuple #[]) ∧ w = w' := by
  go_enter Tryz.func36, Tryz.ntmps36
  go_wp2_with (fail)
  go_loopg [2] 0 (fun gk s2 wr => s2 = .int .i64 0 ∧ w = wr)
  case atStart => exact ⟨rfl, rfl⟩
  case round =>
    obtain ⟨rfl, rfl⟩ := hrel
    go_wp2_with (fail)
    go_end0
    exact ⟨rfl, rfl⟩
set_option maxRecDepth 100000 in
theorem growMsgs_nil {w : World} {g : Nat} (h : w.cell? ⟨g, 12, none⟩ = some (.slice none 0 0)) : Calls Tryz.prog 53 #[.pointer (some ⟨g, 0, none⟩)] w fun e w' => e = .returned (.slice none 0 0) ∧ w = w' := by
  go_enter Tryz.func53, Tryz.ntmps53
  go_wp2_with (fail)
  go_loopg [3, 4] 0 (fun gk s3 s4 wr => s3 = .slice none 0 0 ∧ s4 = .int .i64 0 ∧ w = wr)
  case atStart => exact ⟨rfl, rfl, rfl⟩
  case round =>
    obtain ⟨rfl, rfl, rfl⟩ := hrel
    go_wp2_with (fail)
    go_ret
    exact ⟨rfl, rfl⟩
set_option maxRecDepth 100000 in
theorem markedMsgs_nil (w : World) : Calls Tryz.prog 64 #[.slice none 0 0] w fun e w' => e = .returned (.bool true) ∧ w = w' := by
  go_enter Tryz.func64, Tryz.ntmps64
  go_wp2_with (fail)
  go_loopg [3] 0 (fun gk s3 wr => s3 = .int .i64 0 ∧ w = wr)
  case atStart => exact ⟨rfl, rfl⟩
  case round =>
    obtain ⟨rfl, rfl⟩ := hrel
    go_wp2_with (fail)
    go_ret
    exact ⟨rfl, rfl⟩
set_option maxRecDepth 100000 in
theorem stillDues_nil {w : World} {g : Nat} (h : w.cell? ⟨g, 14, none⟩ = some (.slice none 0 0)) : Calls Tryz.prog 32 #[.pointer (some ⟨g, 0, none⟩)] w fun e w' => e = .returned (.bool true) ∧ w = w' := by
  go_enter Tryz.func32, Tryz.ntmps32
  go_wp2_with (fail)
  go_loopg [3] 0 (fun gk s3 wr => s3 = .int .i64 0 ∧ w = wr)
  case atStart => exact ⟨rfl, rfl⟩
  case round =>
    obtain ⟨rfl, rfl⟩ := hrel
    go_wp2_with (fail)
    go_ret
    exact ⟨rfl, rfl⟩
set_option maxRecDepth 100000 in
theorem putDues_nil {w : World} {g : Nat} (h : w.cell? ⟨g, 14, none⟩ = some (.slice none 0 0)) : Calls Tryz.prog 44 #[.pointer (some ⟨g, 0, none⟩)] w fun e w' => e = .returned (.tuple #[]) ∧ w = w' := by
  go_enter Tryz.func44, Tryz.ntmps44
  go_wp2_with (fail)
  go_loopg [2] 0 (fun gk s2 wr => s2 = .int .i64 0 ∧ w = wr)
  case atStart => exact ⟨rfl, rfl⟩
  case round =>
    obtain ⟨rfl, rfl⟩ := hrel
    go_wp2_with (fail)
    go_end0
    exact ⟨rfl, rfl⟩
set_option maxRecDepth 100000 in
theorem growDues_nil {w : World} {g : Nat} (h : w.cell? ⟨g, 14, none⟩ = some (.slice none 0 0)) : Calls Tryz.prog 54 #[.pointer (some ⟨g, 0, none⟩)] w fun e w' => e = .returned (.slice none 0 0) ∧ w = w' := by
  go_enter Tryz.func54, Tryz.ntmps54
  go_wp2_with (fail)
  go_loopg [3, 4] 0 (fun gk s3 s4 wr => s3 = .slice none 0 0 ∧ s4 = .int .i64 0 ∧ w = wr)
  case atStart => exact ⟨rfl, rfl, rfl⟩
  case round =>
    obtain ⟨rfl, rfl, rfl⟩ := hrel
    go_wp2_with (fail)
    go_ret
    exact ⟨rfl, rfl⟩
set_option maxRecDepth 100000 in
theorem markedDues_nil (w : World) : Calls Tryz.prog 65 #[.slice none 0 0] w fun e w' => e = .returned (.bool true) ∧ w = w' := by
  go_enter Tryz.func65, Tryz.ntmps65
  go_wp2_with (fail)
  go_loopg [3] 0 (fun gk s3 wr => s3 = .int .i64 0 ∧ w = wr)
  case atStart => exact ⟨rfl, rfl⟩
  case round =>
    obtain ⟨rfl, rfl⟩ := hrel
    go_wp2_with (fail)
    go_ret
    exact ⟨rfl, rfl⟩
set_option maxRecDepth 100000 in
theorem stillPackets_nil {w : World} {g : Nat} (h : w.cell? ⟨g, 16, none⟩ = some (.slice none 0 0)) : Calls Tryz.prog 33 #[.pointer (some ⟨g, 0, none⟩)] w fun e w' => e = .returned (.bool true) ∧ w = w' := by
  go_enter Tryz.func33, Tryz.ntmps33
  go_wp2_with (fail)
  go_loopg [3] 0 (fun gk s3 wr => s3 = .int .i64 0 ∧ w = wr)
  case atStart => exact ⟨rfl, rfl⟩
  case round =>
    obtain ⟨rfl, rfl⟩ := hrel
    go_wp2_with (fail)
    go_ret
    exact ⟨rfl, rfl⟩
set_option maxRecDepth 100000 in
theorem putPackets_nil {w : World} {g : Nat} (h : w.cell? ⟨g, 16, none⟩ = some (.slice none 0 0)) : Calls Tryz.prog 45 #[.pointer (some ⟨g, 0, none⟩)] w fun e w' => e = .returned (.tuple #[]) ∧ w = w' := by
  go_enter Tryz.func45, Tryz.ntmps45
  go_wp2_with (fail)
  go_loopg [2] 0 (fun gk s2 wr => s2 = .int .i64 0 ∧ w = wr)
  case atStart => exact ⟨rfl, rfl⟩
  case round =>
    obtain ⟨rfl, rfl⟩ := hrel
    go_wp2_with (fail)
    go_end0
    exact ⟨rfl, rfl⟩
set_option maxRecDepth 100000 in
theorem growPackets_nil {w : World} {g : Nat} (h : w.cell? ⟨g, 16, none⟩ = some (.slice none 0 0)) : Calls Tryz.prog 55 #[.pointer (some ⟨g, 0, none⟩)] w fun e w' => e = .returned (.slice none 0 0) ∧ w = w' := by
  go_enter Tryz.func55, Tryz.ntmps55
  go_wp2_with (fail)
  go_loopg [3, 4] 0 (fun gk s3 s4 wr => s3 = .slice none 0 0 ∧ s4 = .int .i64 0 ∧ w = wr)
  case atStart => exact ⟨rfl, rfl, rfl⟩
  case round =>
    obtain ⟨rfl, rfl, rfl⟩ := hrel
    go_wp2_with (fail)
    go_ret
    exact ⟨rfl, rfl⟩
set_option maxRecDepth 100000 in
theorem markedPackets_nil (w : World) : Calls Tryz.prog 66 #[.slice none 0 0] w fun e w' => e = .returned (.bool true) ∧ w = w' := by
  go_enter Tryz.func66, Tryz.ntmps66
  go_wp2_with (fail)
  go_loopg [3] 0 (fun gk s3 wr => s3 = .int .i64 0 ∧ w = wr)
  case atStart => exact ⟨rfl, rfl⟩
  case round =>
    obtain ⟨rfl, rfl⟩ := hrel
    go_wp2_with (fail)
    go_ret
    exact ⟨rfl, rfl⟩
set_option maxRecDepth 100000 in
theorem stillEvents_nil {w : World} {g : Nat} (h : w.cell? ⟨g, 18, none⟩ = some (.slice none 0 0)) : Calls Tryz.prog 34 #[.pointer (some ⟨g, 0, none⟩)] w fun e w' => e = .returned (.bool true) ∧ w = w' := by
  go_enter Tryz.func34, Tryz.ntmps34
  go_wp2_with (fail)
  go_loopg [3] 0 (fun gk s3 wr => s3 = .int .i64 0 ∧ w = wr)
  case atStart => exact ⟨rfl, rfl⟩
  case round =>
    obtain ⟨rfl, rfl⟩ := hrel
    go_wp2_with (fail)
    go_ret
    exact ⟨rfl, rfl⟩
set_option maxRecDepth 100000 in
theorem putEvents_nil {w : World} {g : Nat} (h : w.cell? ⟨g, 18, none⟩ = some (.slice none 0 0)) : Calls Tryz.prog 46 #[.pointer (some ⟨g, 0, none⟩)] w fun e w' => e = .returned (.tuple #[]) ∧ w = w' := by
  go_enter Tryz.func46, Tryz.ntmps46
  go_wp2_with (fail)
  go_loopg [2] 0 (fun gk s2 wr => s2 = .int .i64 0 ∧ w = wr)
  case atStart => exact ⟨rfl, rfl⟩
  case round =>
    obtain ⟨rfl, rfl⟩ := hrel
    go_wp2_with (fail)
    go_end0
    exact ⟨rfl, rfl⟩
set_option maxRecDepth 100000 in
theorem growEvents_nil {w : World} {g : Nat} (h : w.cell? ⟨g, 18, none⟩ = some (.slice none 0 0)) : Calls Tryz.prog 56 #[.pointer (some ⟨g, 0, none⟩)] w fun e w' => e = .returned (.slice none 0 0) ∧ w = w' := by
  go_enter Tryz.func56, Tryz.ntmps56
  go_wp2_with (fail)
  go_loopg [3, 4] 0 (fun gk s3 s4 wr => s3 = .slice none 0 0 ∧ s4 = .int .i64 0 ∧ w = wr)
  case atStart => exact ⟨rfl, rfl, rfl⟩
  case round =>
    obtain ⟨rfl, rfl, rfl⟩ := hrel
    go_wp2_with (fail)
    go_ret
    exact ⟨rfl, rfl⟩
set_option maxRecDepth 100000 in
theorem markedEvents_nil (w : World) : Calls Tryz.prog 67 #[.slice none 0 0] w fun e w' => e = .returned (.bool true) ∧ w = w' := by
  go_enter Tryz.func67, Tryz.ntmps67
  go_wp2_with (fail)
  go_loopg [3] 0 (fun gk s3 wr => s3 = .int .i64 0 ∧ w = wr)
  case atStart => exact ⟨rfl, rfl⟩
  case round =>
    obtain ⟨rfl, rfl⟩ := hrel
    go_wp2_with (fail)
    go_ret
    exact ⟨rfl, rfl⟩
set_option maxRecDepth 100000 in
theorem stillSteps_nil {w : World} {g : Nat} (h : w.cell? ⟨g, 20, none⟩ = some (.slice none 0 0)) : Calls Tryz.prog 35 #[.pointer (some ⟨g, 0, none⟩)] w fun e w' => e = .returned (.bool true) ∧ w = w' := by
  go_enter Tryz.func35, Tryz.ntmps35
  go_wp2_with (fail)
  go_loopg [3] 0 (fun gk s3 wr => s3 = .int .i64 0 ∧ w = wr)
  case atStart => exact ⟨rfl, rfl⟩
  case round =>
    obtain ⟨rfl, rfl⟩ := hrel
    go_wp2_with (fail)
    go_ret
    exact ⟨rfl, rfl⟩
set_option maxRecDepth 100000 in
theorem putSteps_nil {w : World} {g : Nat} (h : w.cell? ⟨g, 20, none⟩ = some (.slice none 0 0)) : Calls Tryz.prog 37 #[.pointer (some ⟨g, 0, none⟩)] w fun e w' => e = .returned (.tuple #[]) ∧ w = w' := by
  go_enter Tryz.func37, Tryz.ntmps37
  go_wp2_with (fail)
  go_loopg [2] 0 (fun gk s2 wr => s2 = .int .i64 0 ∧ w = wr)
  case atStart => exact ⟨rfl, rfl⟩
  case round =>
    obtain ⟨rfl, rfl⟩ := hrel
    go_wp2_with (fail)
    go_end0
    exact ⟨rfl, rfl⟩
set_option maxRecDepth 100000 in
theorem growSteps_nil {w : World} {g : Nat} (h : w.cell? ⟨g, 20, none⟩ = some (.slice none 0 0)) : Calls Tryz.prog 57 #[.pointer (some ⟨g, 0, none⟩)] w fun e w' => e = .returned (.slice none 0 0) ∧ w = w' := by
  go_enter Tryz.func57, Tryz.ntmps57
  go_wp2_with (fail)
  go_loopg [3, 4] 0 (fun gk s3 s4 wr => s3 = .slice none 0 0 ∧ s4 = .int .i64 0 ∧ w = wr)
  case atStart => exact ⟨rfl, rfl, rfl⟩
  case round =>
    obtain ⟨rfl, rfl, rfl⟩ := hrel
    go_wp2_with (fail)
    go_ret
    exact ⟨rfl, rfl⟩
set_option maxRecDepth 100000 in
theorem markedSteps_nil (w : World) : Calls Tryz.prog 68 #[.slice none 0 0] w fun e w' => e = .returned (.bool true) ∧ w = w' := by
  go_enter Tryz.func68, Tryz.ntmps68
  go_wp2_with (fail)
  go_loopg [3] 0 (fun gk s3 wr => s3 = .int .i64 0 ∧ w = wr)
  case atStart => exact ⟨rfl, rfl⟩
  case round =>
    obtain ⟨rfl, rfl⟩ := hrel
    go_wp2_with (fail)
    go_ret
    exact ⟨rfl, rfl⟩
end Go.Ev



set_option linter.unusedVariables false
set_option linter.unusedSimpArgs false
namespace Go.Ev
open Go.Proofs Go.RowKit
abbrev rowV (g n c : Nat) : Value := .slice (some ⟨g, 0, none⟩) n c
end Go.Ev



set_option linter.unusedVariables false
set_option linter.unusedSimpArgs false
namespace Go.Ev
open Go.Proofs Go.RowKit
def Pl (w : World) (b : Nat) (v : Value) (xs : List Int) : Prop := w.cell? ⟨b, 0, none⟩ = some v ∧ w.frozen? ⟨b, 0, none⟩ = false ∧ b < w.heap.size ∧ w.ownsRow 0 3 1 v xs.length (intsV xs) ∧ v.ownBlock ≠ some b
end Go.Ev

set_option linter.unusedVariables false
set_option linter.unusedSimpArgs false
namespace Go.Ev
open Go.Proofs Go.RowKit
theorem Pl.row {w : World} {b : Nat} {v : Value} {xs : List Int} (h : Pl w b v xs) (hp : 0 < xs.length) : ∃ g c, v = rowV g xs.length c ∧ b ≠ g ∧ g < w.heap.size := by
  obtain ⟨hc, hf, hbl, hown, hne⟩ := h
  rcases hown.2 with ⟨_, h0⟩ | ⟨g, cap, cur, hv, hbb, hheap, _⟩
  · omega
  · exact ⟨g, cap, hv, fun e => hne (by rw [hv, e]; rfl), (Array.getElem?_eq_some_iff.1 hheap).1⟩
end Go.Ev





namespace Go.Proofs
open Go.Shelf
def Tryz.repeatL_ren : Go.Shelf.Ren := ⟨fun | 105 => 200 | 212 => 260 | 99 => 261 | 165 => 262 | 166 => 199 | 170 => 201 | 169 => 203 | 263 => 312 | 264 => 313 | 206 => 314 | 240 => 259 | 241 => 315 | 276 => 311 | 277 => 349 | n => n, fun | 9 => 9 | 3 => 3 | 4 => 4 | 20 => 20 | 0 => 0 | 46 => 351 | 109 => 352 | 5 => 5 | 72 => 288 | 76 => 293 | 51 => 354 | 146 => 413 | 53 => 415 | 148 => 416 | 70 => 286 | 37 => 62 | 75 => 290 | 127 => 355 | 164 => 411 | 80 => 297 | n => n, fun | n => n⟩
theorem Tryz.repeatL : Go.Proofs.Lays.n105 Tryz.prog Tryz.repeatL_ren := {
  mixed := by kernel_rfl
  f99 := Tryz.func261.trans (congrArg some (by kernel_rfl))
  f105 := Tryz.func200.trans (congrArg some (by kernel_rfl))
  f165 := Tryz.func262.trans (congrArg some (by kernel_rfl))
  f166 := Tryz.func199.trans (congrArg some (by kernel_rfl))
  f169 := Tryz.func203.trans (congrArg some (by kernel_rfl))
  f170 := Tryz.func201.trans (congrArg some (by kernel_rfl))
  f206 := Tryz.func314.trans (congrArg some (by kernel_rfl))
  f212 := Tryz.func260.trans (congrArg some (by kernel_rfl))
  f240 := Tryz.func259.trans (congrArg some (by kernel_rfl))
  f241 := Tryz.func315.trans (congrArg some (by kernel_rfl))
  f263 := Tryz.func312.trans (congrArg some (by kernel_rfl))
  f264 := Tryz.func313.trans (congrArg some (by kernel_rfl))
  f276 := Tryz.func311.trans (congrArg some (by kernel_rfl))
  f277 := Tryz.func349.trans (congrArg some (by kernel_rfl))
  t0 := Tryz.underlying0
  a0 := Tryz.isAgg0
  z0 := Tryz.sizeOf0
  v0 := Tryz.zeroValue0
  t3 := Tryz.underlying3
  a3 := Tryz.isAgg3
  z3 := Tryz.sizeOf3
  v3 := Tryz.zeroValue3
  t4 := Tryz.underlying4
  a4 := Tryz.isAgg4
  z4 := Tryz.sizeOf4
  v4 := Tryz.zeroValue4
  t5 := Tryz.underlying5
  a5 := Tryz.isAgg5
  z5 := Tryz.sizeOf5
  v5 := Tryz.zeroValue5
  t9 := Tryz.underlying9
  a9 := Tryz.isAgg9
  z9 := Tryz.sizeOf9
  v9 := Tryz.zeroValue9
  t20 := Tryz.underlying20
  a20 := Tryz.isAgg20
  z20 := Tryz.sizeOf20
  v20 := Tryz.zeroValue20
  t37 := Tryz.underlying62
  a37 := Tryz.isAgg62
  z37 := Tryz.sizeOf62
  v37 := Tryz.zeroValue62
  t46 := Tryz.underlying351
  a46 := Tryz.isAgg351
  z46 := Tryz.sizeOf351
  v46 := Tryz.zeroValue351
  t51 := Tryz.underlying354
  a51 := Tryz.isAgg354
  z51 := Tryz.sizeOf354
  v51 := Tryz.zeroValue354
  t53 := Tryz.underlying415
  a53 := Tryz.isAgg415
  z53 := Tryz.sizeOf415
  v53 := Tryz.zeroValue415
  t70 := Tryz.underlying286
  a70 := Tryz.isAgg286
  z70 := Tryz.sizeOf286
  v70 := Tryz.zeroValue286
  t72 := Tryz.underlying288
  a72 := Tryz.isAgg288
  z72 := Tryz.sizeOf288
  v72 := Tryz.zeroValue288
  t75 := Tryz.underlying290
  a75 := Tryz.isAgg290
  z75 := Tryz.sizeOf290
  v75 := Tryz.zeroValue290
  t76 := Tryz.underlying293
  a76 := Tryz.isAgg293
  z76 := Tryz.sizeOf293
  v76 := Tryz.zeroValue293
  t109 := Tryz.underlying352
  a109 := Tryz.isAgg352
  z109 := Tryz.sizeOf352
  v109 := Tryz.zeroValue352
  t127 := Tryz.underlying355
  a127 := Tryz.isAgg355
  z127 := Tryz.sizeOf355
  v127 := Tryz.zeroValue355
  t146 := Tryz.underlying413
  a146 := Tryz.isAgg413
  z146 := Tryz.sizeOf413
  v146 := Tryz.zeroValue413
  t148 := Tryz.underlying416
  a148 := Tryz.isAgg416
  z148 := Tryz.sizeOf416
  v148 := Tryz.zeroValue416
  t164 := Tryz.underlying411
  a164 := Tryz.isAgg411
  z164 := Tryz.sizeOf411
  v164 := Tryz.zeroValue411 }
end Go.Proofs





namespace Go.Ev
open Go.RowKit Go.ChangeMaps
abbrev Ent := Int × Value × Nat
section
variable {P : Program} {w : World} {b c : Nat} {l : List Ent} {t kt et : TypeId}
end
end Go.Ev



set_option linter.unusedVariables false
set_option linter.unusedSimpArgs false
namespace Go.Ev
open Go.Proofs Go.RowKit
structure Pc where
  d : Nat
  f : Nat
  mb : Nat
  db : Nat
  wb : Nat
  sb : Nat
  sv : Value
  sy : Value
  nw : Value
def Pc.ids (p : Nat) (c : Pc) : List Nat := [p, c.d, c.f, c.sb, c.mb, c.db, c.wb]
def Pc.S (p : Nat) (c : Pc) (k : Nat) : Prop := k ∈ c.ids p ∨ c.sv.ownBlock = some k ∨ c.sy.ownBlock = some k ∨ c.nw.ownBlock = some k
abbrev ptrV (b : Nat) : Value := .pointer (some ⟨b, 0, none⟩)
section
variable {w w' : World} {p : Nat} {c : Pc} {most n L : Nat} {made was : List Ent} {mc wc dc : Nat} {spare : List Int}
theorem Pl.keeps {S : Nat → Prop} {b : Nat} {v : Value} {xs : List Int} (h : Pl w b v xs) (hk : Keeps S w w') (hb : ¬ S b) (hv : ∀ k, v.ownBlock = some k → ¬ S k) : Pl w' b v xs := by
  obtain ⟨h1, h2, h3, h4, h5⟩ := h
  exact ⟨(hk.cell (p := ⟨b, 0, none⟩) h3 hb).trans h1, (hk.frozen (p := ⟨b, 0, none⟩) h3 hb).trans h2, Nat.lt_of_lt_of_le h3 hk.size, own_keeps h4 hk hv, h5⟩
end
end Go.Ev



















set_option linter.unusedVariables false
set_option linter.unusedSimpArgs false
namespace Go.Ev
open Go.Proofs Go.RowKit
def Pg.ok (x : Pg) : Prop := 1 ≤ x.kind ∧ x.kind ≤ 255 ∧ 0 ≤ x.next ∧ x.next ≤ 4294967295 ∧ x.body.length ≤ 240
section
variable {p : Nat} {c : Pc} {most cnt : Nat} {M : Store}
end
end Go.Ev











set_option linter.unusedVariables false
set_option linter.unusedSimpArgs false
namespace Go.Ev
open Go.Proofs Go.RowKit
theorem own_apart {w : World} {b1 b2 z1 z2 n1 n2 : Nat} {e1 e2 : TypeId} {v1 v2 : Value} {x1 x2 : List Value} (h1 : w.ownsRow b1 e1 z1 v1 n1 x1) (h2 : w.ownsRow b2 e2 z2 v2 n2 x2) (he : e1 ≠ e2) : ∀ k, v1.ownBlock = some k → v2.ownBlock ≠ some k := by
  intro k h3 h4
  rcases h1.2 with ⟨rfl, _⟩ | ⟨g, cap, cur, rfl, _, hg, _⟩
  · cases h3
  · rcases h2.2 with ⟨rfl, _⟩ | ⟨g2, cap2, cur2, rfl, _, hg2, _⟩
    · cases h4
    · simp only [Value.ownBlock, Option.some.injEq] at h3 h4
      subst h3 h4
      rw [hg] at hg2
      simp at hg2
      exact he hg2.2
section
variable {p : Nat} {c : Pc} {most cnt : Nat} {M : Store}
end
end Go.Ev











































namespace Go.Ev
open Go.RowKit
theorem append_elder {P : Program} {w w' : World} {base : Nat} {t ty e : TypeId} {i : TypeInfo} {z : Value} {size bytes : Nat} (ht : P.underlying t = some (.slice e)) (hi : P.info? e = some i) (hz : i.zero = some z)
    (hsize : i.size = size) (hby : i.bytes = bytes) (hsz : 0 < size) {v v' : Value} {n : Nat} {xs : List Value} (hown : w.ownsRow base e size v n xs)
    {a : Addr} {m c : Nat} {news : List Value} (hl : news.length = m * size) (hnews : ∀ j u, news[j]? = some u → w.cell? (a.add j) = some u) (h1 : ∀ u ∈ news, u.oneCell' = true)
    (h63 : n + m ≤ maxLen) (hbytes : (n + m) * bytes ≤ 140737488355328) (hr : (Builtin.append_ #[t, t] ty #[v, .slice (some a) m c]).run P w = .ok v' w') (hown2 : w'.ownsRow base e size v' (n + m) (xs ++ news)) :
    w'.ownsRow base e size v n xs := by
  subst hsize hby
  unfold maxLen at h63
  rcases hown.2 with ⟨rfl, rfl⟩ | ⟨g, cap, cur, rfl, hbg, hg, hnc, hcm, hcs, htake⟩
  · have hx : xs = [] := List.eq_nil_of_length_eq_zero (by simpa using hown.1)
    subst hx
    exact World.ownsRow_nil _ _ _ _
  · by_cases hroom : n + m ≤ cap
    · rw [run_append_room (P := P) w t ty e i ht hi g n cap cur hg a m c news hl hnews h1 hroom (by rw [hl, hcs, ← Nat.add_mul]; exact Nat.mul_le_mul_right _ hroom)] at hr
      cases hr
      refine ⟨hown.1, .inr ?_⟩
      rcases hown2.2 with ⟨e0, _⟩ | ⟨g2, cap2, cur2, e0, hb2, hg2, hn2, hm2, hs2, ht2⟩
      · cases e0
      · cases e0
        refine ⟨g, cap, cur2, rfl, hbg, hg2, hnc, hm2, hs2, ?_⟩
        have h3 : (cur2.toList.take ((n + m) * i.size)).take (n * i.size) = (xs ++ news).take (n * i.size) := by rw [ht2]
        rw [List.take_take, Nat.min_eq_left (Nat.mul_le_mul_right _ (by omega)), ← hown.1, List.take_left] at h3
        rw [hown.1] at h3
        exact h3
    · rw [run_append_grow (P := P) w t ty e i z ht hi hz ⟨g, 0, none⟩ n cap xs hown.1 (hown.cells (g := g) rfl) a m c news hl hnews (by omega) (by omega) (growslice_fits (by omega) hbytes)] at hr
      cases hr
      exact own_keeps (S := fun _ => False) hown ((Keeps.refl _ w).drew.alloc _) (fun _ _ h => h)
theorem wpList_append_atE {P : Program} {w : World} {ops : Array Oper} {rest : List Oper} {o : Oper} {a : Act} {Q : Exit → Act → World → Prop} (hgd : o.guard = none) (s x : Operand) (t : TypeId)
    (ho : o.op = .call { callee := .builtin .append, args := #[s, x], argTypes := #[t, t] })
    (base : Nat) (e : TypeId) (i : TypeInfo) (z : Value) (size bytes : Nat) (ht : P.underlying t = some (.slice e)) (hi : P.info? e = some i) (hz : i.zero = some z)
    (hsize : i.size = size) (hby : i.bytes = bytes) (hzs : z.cells.size = size) (hsz : 0 < size)
    (v : Value) (n : Nat) (xs : List Value) (hs : a.eval s = v) (hown : w.ownsRow base e size v n xs)
    (ad : Addr) (m c : Nat) (news : List Value) (hx : a.eval x = .slice (some ad) m c) (hl : news.length = m * size) (hnews : ∀ j u, news[j]? = some u → w.cell? (ad.add j) = some u) (h1 : ∀ u ∈ news, u.oneCell' = true)
    (h63 : n + m ≤ maxLen) (hbytes : (n + m) * bytes ≤ 140737488355328) (hbase : base ≤ w.heap.size)
    (h : ∀ v' w', w'.ownsRow base e size v' (n + m) (xs ++ news) → w.grownBy w' v.ownBlock → (∀ k, v'.ownBlock = some k → v.ownBlock = some k ∨ w.heap.size ≤ k) → w'.ownsRow base e size v n xs → wpList P ops Q rest (a.put o.dst v') w') : wpList P ops Q (o :: rest) a w :=
  wpList_plain hgd fun K hK => by
    obtain ⟨v', w', hr, h2, h3, h4⟩ := run_append_own (P := P) w base t o.type e i z size bytes ht hi hz hsize hby hzs hsz v n xs hown ad m c news hl hnews h1 h63 hbytes hbase
    have h5 := append_where ht hi hz hsize hby hsz hown hl hnews h1 h63 hbytes hr
    have h6 := append_elder ht hi hz hsize hby hsz hown hl hnews h1 h63 hbytes hr h2
    unfold Oper.wp execOp
    simp only [ho, resolve, invoke, builtin, Sem.run_bind, Sem.run_pure, Result.andThen_ok, List.map_toArray, List.map_cons, List.map_nil, hs, hx, hr]
    exact hK _ _ (h v' w' h2 h3 h5 h6)
end Go.Ev
