/-
  What some functions come to, by plain functions. Texts without a byte at their ends: what strings.trimRightByte comes to. DERIVED: THE SHELF's CONTRACTS AT THIS DUMP, IN PLAIN WORDS (tools/lay-plain.mjs out of 'YthfdbfbfldmmaaaGreatDoorKeysLay.lean', which tools/lay-shelf.mjs wrote): THE SAME DECLARATIONS UNDER THE SAME NAMES: 'import', 'namespace', 'open', 'def', 'theorem' AND NOTHING ELSE: no command of the shelf's: FOR A HAND-IN. Each laying: the table of numbers ('.._ren') and one theorem, a field a fact of the dump's own or the kernel's comparison; each contract: ONE APPLICATION. Lists of pairs that are lent, with a mark behind them; a receiver's pairs; a receiver that has nothing (snap). A book of lists of pairs that are rows of one's own: they grow; does none share memory with another one? (Printed by booko2_print.py out of GwBook4 and GwBook5.) A book of lists of pairs that are rows of one's own: is each list as it was, and does none share memory with another one? (Printed by booko2_print.py out of GwBook5.) Are messages, entries, batches small enough: some truth, whatever they are. Rows of elements of several cells each: where a cell of an element lies; what an argument's reading says of a row, element by element.
-/
import Derived.Test.YthfdbfbfldmmaaaGreatDoorMEvRun
import Derived.Test.YthfdbfbfldmmaaaGreatDoorMEvT
import Derived.WalkKit
import Derived.Outline
import Derived.Lib.Hide
import Derived.Shelf.SlGeneric
import Derived.Shelf.SlIterI.Nil
import Derived.Shelf.SortM.Plain
import Derived.Shelf.SortM.SortNone
import Derived.Ground.GgzProg
import Derived.Ground.SlgmProg
import Derived.Test.YthfdbfbfldmmaaaGreatDoorProg
import Derived.Test.YthfdbfbfldmmaaaGreatDoorMGwBookO
import Derived.Test.YthfdbfbfldmmaaaGreatDoorMGvAppendE
import Derived.Test.YthfdbfbfldmmaaaGreatDoorMGvTake
import Derived.Deep.RegionHeld3
import Derived.Lib.SmallJoins
import Derived.Deep.Slices
set_option linter.unusedVariables false
set_option linter.unusedSimpArgs false
set_option linter.unusedVariables false
set_option linter.unusedSimpArgs false
namespace Go.Ev
noncomputable section
def crcBit (x : Nat) : Nat := ifB (Nat.beq (x % 2) 1) (Nat.xor (x / 2) 0xedb88320) (x / 2)
def crcByte (x b : Nat) : Nat := crcBit (crcBit (crcBit (crcBit (crcBit (crcBit (crcBit (crcBit (Nat.xor x b))))))))
def crcBytes : List UInt8 → Nat → Nat
  | [], x => x
  | b :: l, x => natC (crcByte x b.toNat) (crcBytes l 0) fun y => crcBytes l (Nat.succ y)
def crcAll : List AV → Nat → Option Nat
  | [], x => some x
  | .str s :: l, x => gd (Nat.ble (lenL s) 4294967296) (crcAll l (crcBytes s x))
  | _ :: _, _ => none
def crcA (args : List AV) (s : St) : Option (AV × St) :=
  match args with
  | [.sl b off len _] => gd (Nat.ble len 4294967296) (oB (s.row b) fun r => oB (cut r.c off len) fun l => oB (crcAll l 0xffffffff) fun x => some (.int .i64 (Nat.xor x 0xffffffff), s))
  | _ => none
def trimL (c : Nat) (l : List UInt8) : List UInt8 :=
  List.rec (motive := fun _ => List UInt8) [] (fun b _ ih => listC ih (ifB (Nat.beq b.toNat c) [] [b]) fun x y => b :: x :: y) l
def trimA (args : List AV) (s : St) : Option (AV × St) :=
  match args with
  | [.str l, .int .u8 (.ofNat c)] => gd (Nat.ble (lenL l) 4294967296 && Nat.blt c 256) (some (.str (trimL c l), s))
  | _ => none
/-! ### The keys of a map, collected, or sorted -/
/-- Is a number among these? -/
def memN (f : Nat) (l : List Nat) : Bool := List.rec (motive := fun _ => Bool) false (fun a _ ih => ifB (Nat.beq f a) true ih) l
def intKeysA (es : List (AV × AV × Nat)) : Option (List Int) :=
  List.rec (motive := fun _ => Option (List Int)) (some []) (fun e _ ih => match e.1 with
    | .int .i64 n => oB ih fun l => some (n :: l)
    | _ => none) es
def insSort (x : Int) (l : List Int) : List Int :=
  List.rec (motive := fun _ => List Int) [x] (fun y r ih => ifB (ltA y x) (y :: ih) (x :: y :: r)) l
def sortI (l : List Int) : List Int := List.rec (motive := fun _ => List Int) [] (fun x _ ih => insSort x ih) l
def intCells (l : List Int) : List AV := List.rec (motive := fun _ => List AV) [] (fun x _ ih => .int .i64 x :: ih) l
def wfI : Int → Bool
  | .ofNat n => Nat.blt n 9223372036854775808
  | .negSucc n => Nat.blt n 9223372036854775808
def stampsA (clock : Nat) (es : List (AV × AV × Nat)) : Nat → Bool :=
  List.rec (motive := fun _ => Nat → Bool) (fun _ => true) (fun e _ ih lo => Nat.ble lo e.2.2 && (Nat.blt e.2.2 clock && ih (Nat.succ e.2.2))) es
def strictFrom (l : List Int) : Int → Bool :=
  List.rec (motive := fun _ => Int → Bool) (fun _ => true) (fun y _ ih x => ltA x y && ih y) l
def strictA (l : List Int) : Bool := listC l true fun x r => strictFrom r x
def mapKeysA (q : List (AV × AV × Nat) × Nat) : Option (List Int) :=
  oB (intKeysA q.1) fun l => gd (stampsA q.2 q.1 0 && (allL wfI l && (strictA (sortI l) && Nat.ble (lenL l) 1000000))) (some l)
def keysOfA (its : List FuncId) (s : St) (args : List AV) : Option (List Int) :=
  match args with
  | [.fn g [] [.ptr b 0]] => gd (memN g its) (oB (s.row b) fun r => match r.c with
    | [.mp m] => oB (s.mapAt m) mapKeysA
    | [.nilm] => some []
    | _ => none)
  | _ => none
def rowOf (s : St) (e : TypeId) (l : List Int) : Option (AV × St) :=
  listC l (some (.nils, s)) fun x r => oB (s.new (.cells ⟨intCells (x :: r), e, true, 0, false⟩)) fun p => some (.sl p.1 0 (lenL (x :: r)) (.op 1), p.2)
/-! ### slices.Insert ahead of the end -/
def insertA (s : St) (e : TypeId) (z : Nat) (args : List AV) : Option (AV × St) :=
  match args with
  | [.sl b 0 n (.op z'), .int .i64 (.ofNat i), .sl vb vo m (.known _)] => gd (Nat.beq z' z && (Nat.blt i n && (Nat.blt 0 m && (Nat.ble (n + m) 1000000 && !(Nat.beq vb b)))))
    (oB (s.row b) fun r => gd (r.opn && (Nat.beq e r.e && (Nat.beq r.fz 0 && !r.sg))) (oB (cut r.c 0 (n * z)) fun old => oB (s.row vb) fun q => gd (Nat.beq e q.e && (Nat.beq q.fz 0 && !q.sg)) (oB (cut q.c vo (m * z)) fun new =>
      gd (allL AV.one old && allL AV.one new) (grownA (s.put b .gone) e z (n + m) (appL (takeL old (i * z)) (appL new (dropL old (i * z)))) 0 false))))
  | _ => none
structure Memo where
  f : FuncId
  args : List AV
  nx : Nat
  pre : List (Nat × AO)
  v : AV
  nx' : Nat
  post : List (Nat × AO)
def eqEntries : List (AV × AV × Nat) → List (AV × AV × Nat) → Bool
  | [], [] => true
  | a :: l, b :: r => eqAV 20 a.1 b.1 && (eqAV 20 a.2.1 b.2.1 && (Nat.beq a.2.2 b.2.2 && eqEntries l r))
  | _, _ => false
def eqAO : AO → AO → Bool
  | .cells a, .cells b => Nat.beq a.e b.e && (a.opn == b.opn && (Nat.beq a.fz b.fz && (a.sg == b.sg && allEq (eqAV 20) a.c b.c)))
  | .map es k, .map es' k' => Nat.beq k k' && eqEntries es es'
  | .chan n b x y, .chan n' b' x' y' => Nat.beq n n' && (Nat.beq x x' && (Nat.beq y y' && allEq (eqAV 20) b b'))
  | .dfr, .dfr => true
  | .done, .done => true
  | _, _ => false
def hasAll (s : St) : List (Nat × AO) → Bool
  | [] => true
  | p :: l => (match s.h.get p.1 with | some o => eqAO o p.2 | none => false) && hasAll s l
def fillT : List (Nat × AO) → T AO → T AO
  | [], h => h
  | p :: l, h => fillT l (h.set depth p.1 p.2)
def goneT : List (Nat × AO) → T AO → T AO
  | [], h => h
  | p :: l, h => goneT l (h.set depth p.1 .gone)
def keysOk : List (Nat × AO) → Bool
  | [] => true
  | p :: l => Nat.ble p.1 top && keysOk l
def memoA (m : Memo) (args : List AV) (s : St) : Option (AV × St) :=
  gd (Nat.beq s.nx m.nx && (allEq (eqAV 20) args m.args && hasAll s m.pre)) (some (m.v, ⟨fillT m.post (goneT m.pre s.h), m.nx'⟩))
def memosA (f : FuncId) (args : List AV) (s : St) : List Memo → Option (AV × St)
  | [] => none
  | m :: ms => ifB (Nat.beq f m.f) (match memoA m args s with | some r => some r | none => memosA f args s ms) (memosA f args s ms)
def memoOk (m : Memo) : Option (AV × St) → Bool
  | some p => eqAV 20 p.1 m.v && (Nat.beq p.2.nx m.nx' && (keysOk m.pre && (keysOk m.post && hasAll p.2 m.post)))
  | none => false
def memoSt (m : Memo) : St := ⟨fillT m.pre .nil, m.nx⟩
structure Ids where
  crc : FuncId
  trim : FuncId
  sorted : FuncId
  collect : FuncId
  its : List FuncId
  intT : TypeId
  ins : Bool
  insert : FuncId
  itemT : TypeId
def atMost1 (l : List Int) : Option (List Int) := listC l (some l) fun _ r => listC r (some l) fun _ _ => none
def known (K : Ids) (f : FuncId) (args : List AV) (s : St) : Option (AV × St) :=
  ifB (Nat.beq f K.crc) (crcA args s)
    (ifB (Nat.beq f K.trim) (trimA args s) (ifB (Nat.beq f K.sorted) (oB (keysOfA K.its s args) fun l => rowOf s K.intT (sortI l))
      (ifB (Nat.beq f K.collect) (oB (keysOfA K.its s args) fun l => oB (atMost1 l) fun l => rowOf s K.intT l)
        (ifB (K.ins && Nat.beq f K.insert) (insertA s K.itemT 4 args) none))))
def prims (K : Ids) (l : List FuncId) (ms : List Memo) : Prims := fun f args s =>
  match known K f args s with
  | some r => some r
  | none => ifB (memN f l) (listC args (some (.bool true, s)) fun _ _ => none) (memosA f args s ms)
end
end Go.Ev

set_option linter.unusedVariables false
set_option linter.unusedSimpArgs false
namespace Go.Ev
open Go.Proofs Go.RowKit
def stayN (c : UInt8) (s : ByteArray) : Nat → Nat
  | 0 => 0
  | k + 1 => if s.data.toList[k]? = some c then stayN c s k else k + 1
theorem stayN_le (c : UInt8) (s : ByteArray) : ∀ k, stayN c s k ≤ k
  | 0 => Nat.le_refl _
  | k + 1 => by unfold stayN; split <;> have := stayN_le c s k <;> omega
theorem extract_all (s : ByteArray) : s.extract 0 s.size = s := by
  simp
def strLen : Value → Nat
  | .string s => s.size
  | _ => 0
theorem extract_get (s : ByteArray) (k : Nat) (hk : k ≤ s.size) (h : k - 1 < (s.extract 0 k).size) (h0 : 0 < k) : s.data.toList[k - 1]? = some (s.extract 0 k)[k - 1] := by
  have h1 : k - 1 < s.size := by omega
  have h2 : (s.extract 0 k)[k - 1] = s[k - 1] := by
    rw [ByteArray.getElem_extract]
    simp
  rw [h2, Array.getElem?_toList]
  exact Array.getElem?_eq_getElem h1
theorem stay_eq {c : UInt8} {s : ByteArray} {k : Nat} (h0 : 0 < k) (h : s.data.toList[k - 1]? = some c) : stayN c s (k - 1) = stayN c s k := by
  obtain ⟨j, rfl⟩ : ∃ j, k = j + 1 := ⟨k - 1, by omega⟩
  simp only [Nat.add_sub_cancel] at *
  conv => rhs; unfold stayN
  rw [if_pos h]
theorem stay_ne {c b : UInt8} {s : ByteArray} {k : Nat} (h0 : 0 < k) (h : s.data.toList[k - 1]? = some b) (hne : b ≠ c) : stayN c s k = k := by
  obtain ⟨j, rfl⟩ : ∃ j, k = j + 1 := ⟨k - 1, by omega⟩
  simp only [Nat.add_sub_cancel] at *
  unfold stayN
  rw [if_neg]
  rw [h]
  simpa using hne
theorem byte_beq {b c : UInt8} {t : Bool} (h : (((b.toNat : Nat) : Int) == ((c.toNat : Nat) : Int)) = t) : decide (b = c) = t := by
  rw [← h]
  rw [Bool.eq_iff_iff]
  simp only [decide_eq_true_eq, beq_iff_eq]
  constructor
  · rintro rfl; rfl
  · intro e; exact UInt8.toNat_inj.1 (by omega)
theorem ret_val {a b : Value} (h : a = b) : Ending.returned a = .returned b := by rw [h]
theorem extract_two (s : ByteArray) (k : Nat) : (s.extract 0 k).extract 0 (k - 1) = s.extract 0 (k - 1) := by
  apply ByteArray.ext
  simp
set_option maxHeartbeats 1000000 in
theorem trim_any (s : ByteArray) (c : UInt8) (w : World) (hs : s.size ≤ 4294967296) :
    Calls Tryz.prog 265 #[.string s, .int .u8 c.toNat] w fun e w' => e = .returned (.string (s.extract 0 (stayN c s s.size))) ∧ w' = w := by
  go_enter Tryz.func265, Tryz.ntmps265
  go_wp2
  go_loop [0] (fun v => ∃ k : Nat, k ≤ s.size ∧ v = .string (s.extract 0 k) ∧ stayN c s k = stayN c s s.size) (fun v => strLen v)
  case atStart => exact ⟨s.size, Nat.le_refl _, by rw [extract_all], rfl⟩
  case round =>
    obtain ⟨k, hk, rfl, hst⟩ := hrel
    have hst' := Lib.hid hst
    clear hst
    go_wp2
    · rename_i h0 _ _ hb
      have hsz : k - 1 < (s.extract 0 k).size := by simp; omega
      have h1 := extract_get s k hk hsz h0
      have h2 := of_decide_eq_true (byte_beq hb)
      rw [h2] at h1
      refine ⟨⟨k - 1, by omega, by rw [extract_two], ?_⟩, ?_⟩
      · rw [stay_eq h0 h1, hst'.out]
      · simp [strLen]; omega
    · rename_i h0 _ _ hb
      have hsz : k - 1 < (s.extract 0 k).size := by simp; omega
      have h1 := extract_get s k hk hsz h0
      have h2 := of_decide_eq_false (byte_beq hb)
      have h3 := stay_ne h0 h1 h2
      go_ret
      exact ⟨ret_val (by rw [← hst'.out, h3]; rfl), rfl⟩
    · rename_i h0 _
      have h1 : k = 0 := by omega
      subst h1
      go_ret
      exact ⟨ret_val (by rw [← hst'.out]; rfl), rfl⟩
/-! ### The evaluator's list -/
theorem stay_snoc (c b : UInt8) (l : List UInt8) : ∀ k, k ≤ l.length → stayN c ⟨(l ++ [b]).toArray⟩ k = stayN c ⟨l.toArray⟩ k
  | 0, _ => rfl
  | k + 1, h => by
    unfold stayN
    have e : (l ++ [b])[k]? = l[k]? := List.getElem?_append_left (by omega)
    simp only [e, stay_snoc c b l k (by omega)]
theorem trimL_snoc (c b : UInt8) : ∀ l : List UInt8, trimL c.toNat (l ++ [b]) = if b = c then trimL c.toNat l else l ++ [b]
  | [] => by
    show ifB (Nat.beq b.toNat c.toNat) [] [b] = _
    by_cases h : b = c
    · subst h; simp [trimL]
    · have : Nat.beq b.toNat c.toNat = false := by
        rw [nbeq, decide_eq_false_iff_not]
        exact fun e => h (UInt8.toNat_inj.1 e)
      rw [this, if_neg h]; rfl
  | a :: l => by
    show listC (trimL c.toNat (l ++ [b])) (ifB (Nat.beq a.toNat c.toNat) [] [a]) (fun x y => a :: x :: y) = _
    rw [trimL_snoc c b l]
    by_cases h : b = c
    · rw [if_pos h, if_pos h]; rfl
    · rw [if_neg h, if_neg h]
      cases l <;> rfl
theorem trimL_eq (c : UInt8) : ∀ (n : Nat) (l : List UInt8), l.length = n → trimL c.toNat l = l.take (stayN c ⟨l.toArray⟩ l.length)
  | 0, l, h => by
    have := List.length_eq_zero_iff.1 h
    subst this; rfl
  | n + 1, l, h => by
    obtain ⟨r, b, rfl⟩ : ∃ r b, l = r ++ [b] := by
      rcases List.eq_nil_or_concat l with rfl | ⟨r, b, rfl⟩
      · simp at h
      · exact ⟨r, b, by simp⟩
    have hr : r.length = n := by simpa using h
    rw [trimL_snoc, List.length_append, List.length_singleton]
    have e : (⟨(r ++ [b]).toArray⟩ : ByteArray).data.toList[r.length]? = some b := by simp
    unfold stayN
    rw [e]
    by_cases hb : b = c
    · subst hb
      rw [if_pos rfl, if_pos rfl, stay_snoc b b r r.length (Nat.le_refl _), List.take_append_of_le_length (stayN_le _ _ _)]
      exact trimL_eq b n r hr
    · rw [if_neg hb, if_neg (by simpa using hb), List.take_of_length_le (by simp)]
end Go.Ev

namespace Go.Proofs
open Go.Shelf
def Tryz.keysA_ren : Go.Shelf.Ren := ⟨fun | 7 => 237 | 10 => 297 | n => n, fun | 23 => 237 | 26 => 3 | 3 => 220 | 28 => 273 | 0 => 0 | 27 => 272 | 33 => 227 | 4 => 4 | n => n, fun | n => n⟩
theorem Tryz.keysA : Go.Proofs.SlLaysZI.n7 Tryz.prog Tryz.keysA_ren := {
  mixed := by kernel_rfl
  f7 := ⟨Tryz.f237.name, by decide, Tryz.func237.trans (congrArg some (by kernel_rfl))⟩
  f10 := ⟨Tryz.f297.name, by decide, Tryz.func297.trans (congrArg some (by kernel_rfl))⟩
  t0 := Tryz.underlying0
  a0 := Tryz.isAgg0
  z0 := Tryz.sizeOf0
  v0 := Tryz.zeroValue0
  t4 := Tryz.underlying4
  a4 := Tryz.isAgg4
  z4 := Tryz.sizeOf4
  v4 := Tryz.zeroValue4
  t23 := Tryz.underlying237
  a23 := Tryz.isAgg237
  z23 := Tryz.sizeOf237
  v23 := Tryz.zeroValue237
  t26 := Tryz.underlying3
  a26 := Tryz.isAgg3
  z26 := Tryz.sizeOf3
  v26 := Tryz.zeroValue3
  t27 := Tryz.underlying272
  a27 := Tryz.isAgg272
  z27 := Tryz.sizeOf272
  v27 := Tryz.zeroValue272
  t28 := Tryz.underlying273
  a28 := Tryz.isAgg273
  z28 := Tryz.sizeOf273
  v28 := Tryz.zeroValue273
  t33 := Tryz.underlying227
  a33 := Tryz.isAgg227
  z33 := Tryz.sizeOf227
  v33 := Tryz.zeroValue227 }
def Tryz.keysB_ren : Go.Shelf.Ren := ⟨fun | 7 => 238 | 10 => 298 | n => n, fun | 23 => 238 | 26 => 3 | 3 => 190 | 28 => 273 | 0 => 0 | 27 => 272 | 33 => 227 | 4 => 4 | n => n, fun | n => n⟩
theorem Tryz.keysB : Go.Proofs.SlLaysZI.n7 Tryz.prog Tryz.keysB_ren := {
  mixed := by kernel_rfl
  f7 := ⟨Tryz.f238.name, by decide, Tryz.func238.trans (congrArg some (by kernel_rfl))⟩
  f10 := ⟨Tryz.f298.name, by decide, Tryz.func298.trans (congrArg some (by kernel_rfl))⟩
  t0 := Tryz.underlying0
  a0 := Tryz.isAgg0
  z0 := Tryz.sizeOf0
  v0 := Tryz.zeroValue0
  t4 := Tryz.underlying4
  a4 := Tryz.isAgg4
  z4 := Tryz.sizeOf4
  v4 := Tryz.zeroValue4
  t23 := Tryz.underlying238
  a23 := Tryz.isAgg238
  z23 := Tryz.sizeOf238
  v23 := Tryz.zeroValue238
  t26 := Tryz.underlying3
  a26 := Tryz.isAgg3
  z26 := Tryz.sizeOf3
  v26 := Tryz.zeroValue3
  t27 := Tryz.underlying272
  a27 := Tryz.isAgg272
  z27 := Tryz.sizeOf272
  v27 := Tryz.zeroValue272
  t28 := Tryz.underlying273
  a28 := Tryz.isAgg273
  z28 := Tryz.sizeOf273
  v28 := Tryz.zeroValue273
  t33 := Tryz.underlying227
  a33 := Tryz.isAgg227
  z33 := Tryz.sizeOf227
  v33 := Tryz.zeroValue227 }
def Tryz.keysC_ren : Go.Shelf.Ren := ⟨fun | 7 => 188 | 10 => 242 | n => n, fun | 23 => 232 | 26 => 3 | 3 => 3 | 28 => 273 | 0 => 0 | 27 => 272 | 33 => 227 | 4 => 4 | n => n, fun | n => n⟩
theorem Tryz.keysC : Go.Proofs.SlLaysZI.n7 Tryz.prog Tryz.keysC_ren := {
  mixed := by kernel_rfl
  f7 := ⟨Tryz.f188.name, by decide, Tryz.func188.trans (congrArg some (by kernel_rfl))⟩
  f10 := ⟨Tryz.f242.name, by decide, Tryz.func242.trans (congrArg some (by kernel_rfl))⟩
  t0 := Tryz.underlying0
  a0 := Tryz.isAgg0
  z0 := Tryz.sizeOf0
  v0 := Tryz.zeroValue0
  t4 := Tryz.underlying4
  a4 := Tryz.isAgg4
  z4 := Tryz.sizeOf4
  v4 := Tryz.zeroValue4
  t23 := Tryz.underlying232
  a23 := Tryz.isAgg232
  z23 := Tryz.sizeOf232
  v23 := Tryz.zeroValue232
  t26 := Tryz.underlying3
  a26 := Tryz.isAgg3
  z26 := Tryz.sizeOf3
  v26 := Tryz.zeroValue3
  t27 := Tryz.underlying272
  a27 := Tryz.isAgg272
  z27 := Tryz.sizeOf272
  v27 := Tryz.zeroValue272
  t28 := Tryz.underlying273
  a28 := Tryz.isAgg273
  z28 := Tryz.sizeOf273
  v28 := Tryz.zeroValue273
  t33 := Tryz.underlying227
  a33 := Tryz.isAgg227
  z33 := Tryz.sizeOf227
  v33 := Tryz.zeroValue227 }
def Tryz.sortedZ_ren : Go.Shelf.Ren := ⟨fun | 6 => 236 | 8 => 187 | 9 => 209 | 11 => 241 | 13 => 272 | 12 => 271 | 23 => 329 | 24 => 330 | 14 => 320 | 15 => 321 | 16 => 322 | 17 => 323 | 18 => 324 | 19 => 325 | 20 => 326 | 21 => 327 | 22 => 328 | 25 => 353 | 26 => 354 | 27 => 355 | 28 => 356 | 29 => 357 | 30 => 358 | 31 => 377 | n => n, fun | 26 => 3 | 28 => 273 | 24 => 27 | 0 => 0 | 3 => 3 | 37 => 351 | 48 => 354 | 50 => 415 | 4 => 4 | 40 => 424 | 39 => 423 | 45 => 53 | 5 => 5 | 9 => 9 | 51 => 459 | 55 => 282 | 57 => 484 | 58 => 485 | 33 => 227 | n => n, fun | n => n⟩
theorem Tryz.sortedZ : Go.Proofs.SlLaysZI.n6 Tryz.prog Tryz.sortedZ_ren := {
  mixed := by kernel_rfl
  f6 := ⟨Tryz.f236.name, by decide, Tryz.func236.trans (congrArg some (by kernel_rfl))⟩
  f8 := ⟨Tryz.f187.name, by decide, Tryz.func187.trans (congrArg some (by kernel_rfl))⟩
  f11 := ⟨Tryz.f241.name, by decide, Tryz.func241.trans (congrArg some (by kernel_rfl))⟩
  t0 := Tryz.underlying0
  a0 := Tryz.isAgg0
  z0 := Tryz.sizeOf0
  v0 := Tryz.zeroValue0
  t24 := Tryz.underlying27
  a24 := Tryz.isAgg27
  z24 := Tryz.sizeOf27
  v24 := Tryz.zeroValue27
  t26 := Tryz.underlying3
  a26 := Tryz.isAgg3
  z26 := Tryz.sizeOf3
  v26 := Tryz.zeroValue3
  t28 := Tryz.underlying273
  a28 := Tryz.isAgg273
  z28 := Tryz.sizeOf273
  v28 := Tryz.zeroValue273
  i26 := by kernel_rfl }
def Tryz.sortZ_ren : Go.Shelf.Ren := ⟨fun | 5 => 209 | 8 => 272 | 7 => 271 | 19 => 329 | 20 => 330 | 10 => 320 | 11 => 321 | 12 => 322 | 13 => 323 | 14 => 324 | 15 => 325 | 16 => 326 | 17 => 327 | 18 => 328 | 30 => 353 | 31 => 354 | 32 => 355 | 33 => 356 | 34 => 357 | 35 => 358 | 40 => 377 | n => n, fun | 23 => 27 | 25 => 3 | 3 => 3 | 32 => 351 | 22 => 27 | 0 => 0 | 44 => 354 | 46 => 415 | 4 => 4 | 36 => 424 | 35 => 423 | 41 => 53 | 5 => 5 | 9 => 9 | 53 => 459 | 57 => 282 | 63 => 484 | 64 => 485 | n => n, fun | n => n⟩
theorem Tryz.sortZ : Go.Proofs.SlLaysM.n5 Tryz.prog Tryz.sortZ_ren := {
  mixed := by kernel_rfl
  f5 := ⟨Tryz.f209.name, by decide, Tryz.func209.trans (congrArg some (by kernel_rfl))⟩
  f7 := ⟨Tryz.f271.name, by decide, Tryz.func271.trans (congrArg some (by kernel_rfl))⟩
  f8 := Tryz.func272.trans (congrArg some (by kernel_rfl))
  f10 := ⟨Tryz.f320.name, by decide, Tryz.func320.trans (congrArg some (by kernel_rfl))⟩
  f11 := ⟨Tryz.f321.name, by decide, Tryz.func321.trans (congrArg some (by kernel_rfl))⟩
  f12 := ⟨Tryz.f322.name, by decide, Tryz.func322.trans (congrArg some (by kernel_rfl))⟩
  f13 := ⟨Tryz.f323.name, by decide, Tryz.func323.trans (congrArg some (by kernel_rfl))⟩
  f14 := ⟨Tryz.f324.name, by decide, Tryz.func324.trans (congrArg some (by kernel_rfl))⟩
  f15 := ⟨Tryz.f325.name, by decide, Tryz.func325.trans (congrArg some (by kernel_rfl))⟩
  f16 := ⟨Tryz.f326.name, by decide, Tryz.func326.trans (congrArg some (by kernel_rfl))⟩
  f17 := ⟨Tryz.f327.name, by decide, Tryz.func327.trans (congrArg some (by kernel_rfl))⟩
  f18 := ⟨Tryz.f328.name, by decide, Tryz.func328.trans (congrArg some (by kernel_rfl))⟩
  f19 := Tryz.func329.trans (congrArg some (by kernel_rfl))
  f20 := Tryz.func330.trans (congrArg some (by kernel_rfl))
  f30 := ⟨Tryz.f353.name, by decide, Tryz.func353.trans (congrArg some (by kernel_rfl))⟩
  f31 := Tryz.func354.trans (congrArg some (by kernel_rfl))
  f32 := Tryz.func355.trans (congrArg some (by kernel_rfl))
  f33 := ⟨Tryz.f356.name, by decide, Tryz.func356.trans (congrArg some (by kernel_rfl))⟩
  f34 := ⟨Tryz.f357.name, by decide, Tryz.func357.trans (congrArg some (by kernel_rfl))⟩
  f35 := ⟨Tryz.f358.name, by decide, Tryz.func358.trans (congrArg some (by kernel_rfl))⟩
  f40 := ⟨Tryz.f377.name, by decide, Tryz.func377.trans (congrArg some (by kernel_rfl))⟩
  t0 := Tryz.underlying0
  a0 := Tryz.isAgg0
  z0 := Tryz.sizeOf0
  v0 := Tryz.zeroValue0
  t3 := Tryz.underlying3
  a3 := Tryz.isAgg3
  z3 := Tryz.sizeOf3
  v3 := Tryz.zeroValue3
  t4 := Tryz.underlying4
  a4 := Tryz.isAgg4
  z4 := Tryz.sizeOf4
  v4 := Tryz.zeroValue4
  t5 := Tryz.underlying5
  a5 := Tryz.isAgg5
  z5 := Tryz.sizeOf5
  v5 := Tryz.zeroValue5
  t9 := Tryz.underlying9
  a9 := Tryz.isAgg9
  z9 := Tryz.sizeOf9
  v9 := Tryz.zeroValue9
  t22 := Tryz.underlying27
  a22 := Tryz.isAgg27
  z22 := Tryz.sizeOf27
  v22 := Tryz.zeroValue27
  t23 := Tryz.underlying27
  a23 := Tryz.isAgg27
  z23 := Tryz.sizeOf27
  v23 := Tryz.zeroValue27
  t25 := Tryz.underlying3
  a25 := Tryz.isAgg3
  z25 := Tryz.sizeOf3
  v25 := Tryz.zeroValue3
  t32 := Tryz.underlying351
  a32 := Tryz.isAgg351
  z32 := Tryz.sizeOf351
  v32 := Tryz.zeroValue351
  t35 := Tryz.underlying423
  a35 := Tryz.isAgg423
  z35 := Tryz.sizeOf423
  v35 := Tryz.zeroValue423
  t36 := Tryz.underlying424
  a36 := Tryz.isAgg424
  z36 := Tryz.sizeOf424
  v36 := Tryz.zeroValue424
  t41 := Tryz.underlying53
  a41 := Tryz.isAgg53
  z41 := Tryz.sizeOf53
  v41 := Tryz.zeroValue53
  t44 := Tryz.underlying354
  a44 := Tryz.isAgg354
  z44 := Tryz.sizeOf354
  v44 := Tryz.zeroValue354
  t46 := Tryz.underlying415
  a46 := Tryz.isAgg415
  z46 := Tryz.sizeOf415
  v46 := Tryz.zeroValue415
  t53 := Tryz.underlying459
  a53 := Tryz.isAgg459
  z53 := Tryz.sizeOf459
  v53 := Tryz.zeroValue459
  t57 := Tryz.underlying282
  a57 := Tryz.isAgg282
  z57 := Tryz.sizeOf282
  v57 := Tryz.zeroValue282
  t63 := Tryz.underlying484
  a63 := Tryz.isAgg484
  z63 := Tryz.sizeOf484
  v63 := Tryz.zeroValue484
  t64 := Tryz.underlying485
  a64 := Tryz.isAgg485
  z64 := Tryz.sizeOf485
  v64 := Tryz.zeroValue485 }
end Go.Proofs

set_option linter.unusedVariables false
set_option linter.unusedSimpArgs false
namespace Go.Ev
open Go.Proofs Go.RowKit
def markW : Bytes := [109, 97, 114, 107]
set_option maxHeartbeats 4000000 in
set_option maxRecDepth 100000 in
theorem lent_ok (A : Option Addr) (k c : Nat) (qs : List Pair) (w : World) (h : Sl w 2 (.slice A k c) k (pairsCs qs)) (hA : A = none → c = 0) (hk : k ≤ 100000) :
    Calls Tryz.prog 7 #[.slice A k c] w fun e w' => ∃ g cap, e = .returned (.slice (some ⟨g, 0, none⟩) k cap) ∧ w'.ownsRow w.heap.size 59 2 (.slice (some ⟨g, 0, none⟩) (k + 1) cap) (k + 1) (pairsCs (qs ++ [(markW, [])])) ∧ Below w.heap.size w w' := by
  obtain ⟨i0, hi, hz0, hz1, hz2⟩ := info_parts infoPr
  have H := Lib.hid (And.intro h hA)
  clear h hA
  go_enter Tryz.func7, Tryz.ntmps7
  go_wp2_with (at_builtin; go_must (refine wpList_append_sl rfl _ _ 28 rfl w.heap.size 59 i0 _ 2 32 Tryz.underlying28 hi hz0 hz1 hz2 rfl (by decide) (.slice none 0 0) 0 [] rfl (World.ownsRow_nil _ _ _ _) A k c (pairsCs qs) rfl H.out.1 H.out.2 (pairsCs_one _) (by unfold maxLen; omega) (by omega) (Nat.le_refl _) ?_))
  intro v1 w1 own1 hg1
  have hb1 : Below w.heap.size w w1 := (Below.refl _ w).grown hg1 (Nat.le_refl _) (fun k hk => by cases hk)
  obtain ⟨A1, c1, rfl, -⟩ := Sl.of_own own1
  have H1 := Lib.hid (And.intro own1 hb1)
  clear own1 hb1 hg1
  go_wp2_with (at_builtin; go_must (refine wpList_append_at rfl _ _ 28 rfl w.heap.size 59 i0 _ 2 32 Tryz.underlying28 hi hz0 hz1 hz2 rfl (by decide) _ k (pairsCs qs) rfl (own_below H1.out.1 ((Below.refl _ w1).alloc (Nat.le_refl _) _)) ⟨w1.heap.size, 0, none⟩ 1 1 (pairsCs [(markW, [])]) rfl rfl (fun j u hu => ?hc) (pairsCs_one _) (by unfold maxLen; omega) (by omega) (by have := H1.out.2.size; simp only [World.alloc, Array.size_push]; omega) ?_))
  case hc =>
    rw [addr_add]
    have hb := Blk.new w1 59 #[strV markW, strV []]
    have hc := hb.cell j
    match j, hu with
    | 0, hu => cases hu; exact hb.cell 0
    | 1, hu => cases hu; exact hb.cell 1
    | j + 2, hu => cases hu
  intro v2 w2 own2 hg2 _
  rw [← pairsCs_app] at own2
  have hb2 : Below w.heap.size w w2 := (bel_then H1.out.2 ((Below.refl _ w1).alloc (Nat.le_refl _) _)).grown hg2 (by have := H1.out.2.size; simp only [World.alloc, Array.size_push]; omega) (fun q e => (H1.out.1.lt q e).1)
  obtain ⟨A2, c2, rfl, hA2⟩ := own_form own2
  obtain ⟨g, rfl⟩ := hA2 (by omega)
  have hkc : k ≤ c2 := by
    rcases own2.2 with ⟨e, _⟩ | ⟨_, _, _, e, _, _, h, _⟩
    · cases e
    · cases e; omega
  have H2 := Lib.hid (And.intro own2 hb2)
  clear own2 hb2 hg2
  have hk0 : (0 : Int) ≤ (k : Int) := by omega
  have hkc' : (k : Int) ≤ (c2 : Int) := by omega
  go_wp2_with (fail)
  go_ret
  exact ⟨g, c2, rfl, H2.out⟩
set_option maxHeartbeats 4000000 in
set_option maxRecDepth 100000 in
theorem stays_ok (g cap k : Nat) (A : Option Addr) (c : Nat) (qs : List Pair) (B : Nat) (w : World) (h : w.ownsRow B 59 2 (.slice (some ⟨g, 0, none⟩) (k + 1) cap) (k + 1) (pairsCs (qs ++ [(markW, [])]))) (hs : Sl w 2 (.slice A k c) k (pairsCs qs)) (hk : k ≤ 100000) :
    Calls Tryz.prog 13 #[.slice (some ⟨g, 0, none⟩) k cap, .slice A k c] w fun e w' => e = .returned (.bool true) ∧ Below w.heap.size w w' := by
  have hlq : qs.length = k := by
    obtain ⟨_, _, _, _, h1, _⟩ := hs
    rw [pairsCs_len] at h1
    omega
  have hcap : k + 1 ≤ cap := by
    rcases h.2 with ⟨e, _⟩ | ⟨_, _, _, e, _, _, h, _⟩
    · cases e
    · cases e; exact h
  have hgl : g < w.heap.size := (h.lt g rfl).2
  have hcs := h.cells (g := g) rfl
  have hsl : Sl w 2 (.slice (some ⟨g, 0, none⟩) k cap) k (pairsCs qs) := by
    refine ⟨_, _, rfl, by omega, by rw [pairsCs_len, hlq], fun _ => ⟨g, 0, rfl, hgl, fun j u hu => ?_⟩⟩
    have hj := (List.getElem?_eq_some_iff.1 hu).1
    have := hcs j u (by rw [pairsCs_app, List.getElem?_append_left hj]; exact hu)
    rw [addr_add] at this
    exact this
  have hS := samePairs_any _ _ _ _ _ _ qs qs w hsl hs (by omega) (by omega)
  simp only [decide_true] at hS
  have x0 : w.cell? ⟨g, k * 2, none⟩ = some (strV markW) := by
    have := hcs (k * 2) (strV markW) (by
      rw [pairsCs_app, List.getElem?_append_right (by rw [pairsCs_len]; omega), pairsCs_len, show k * 2 - qs.length * 2 = 0 by omega]
      rfl)
    rw [addr_add, Nat.zero_add] at this
    exact this
  have HS := Lib.hid hS
  have hw1 : IntKind.i64.wrap ((k : Int) + 1) = (k : Int) + 1 := IntWalk.i64_in _ (by omega)
  have hk0 : (0 : Int) ≤ (k : Int) := by omega
  have hk1 : (0 : Int) ≤ (k : Int) + 1 := by omega
  have hk2 : ((k : Int) + 1) ≤ (cap : Int) := by omega
  have hk3 : (k : Int) < (k : Int) + 1 := by omega
  have hkn : ((k : Int) + 1).toNat = k + 1 := by omega
  clear hS hsl hcs h hs hlq
  go_enter Tryz.func13, Tryz.ntmps13
  go_wp2_with (fail)
  go_must (refine HS.out.mono ?_)
  rintro e w1 ⟨rfl, hb1⟩
  have x1 : w1.cell? ⟨g, k * 2, none⟩ = some (strV markW) := (hb1.cell (p := ⟨g, k * 2, none⟩) hgl).trans x0
  go_wp2_with (fail)
  go_ret
  exact ⟨rfl, hb1⟩
set_option maxHeartbeats 4000000 in
theorem rcvPairs_ok (B b : Nat) (s : RcM) (mem : Value) (ch : Option Nat) (pv : Value) (l : List Pair) (w : World) (h : RcvIs w B b s mem ch pv) (hx : s.xs = pairsCs l) (hn : s.n ≤ 100000) :
    Calls Tryz.prog 10 #[.pointer (some ⟨b, 0, none⟩)] w fun e w' => ∃ v', e = .returned v' ∧ w'.ownsRow w.heap.size 59 2 v' l.length (pairsCs l) ∧ Below w.heap.size w w' := by
  have x7 : w.cell? ⟨b, 7, none⟩ = some pv := h.blk.cell 7
  have hlt := h.blk.lt
  have hr := h.row
  rw [hx] at hr
  obtain ⟨A, c, rfl, -⟩ := Sl.of_own hr
  have HC := Lib.hid (cloneP_all A s.n c l w (Sl.of_own hr) hn)
  clear h hr
  go_enter Tryz.func10, Tryz.ntmps10
  go_wp2_with (fail)
  go_must (refine HC.out.mono ?_)
  rintro e w1 ⟨v', rfl, ho, hb⟩
  obtain ⟨A1, c1, rfl, -⟩ := Sl.of_own ho
  have H1 := Lib.hid (And.intro ho hb)
  clear ho hb
  go_wp2_with (fail)
  go_ret
  exact ⟨_, rfl, H1.out⟩
set_option maxHeartbeats 4000000 in
theorem begin_ok (w : World) : Calls Tryz.prog 5 #[] w fun e w' => e = .returned (.pointer (some ⟨w.heap.size, 0, none⟩)) ∧ w' = w.alloc (.cells (rcvCs false 0 0 0 (.slice none 0 0) false none (.slice none 0 0)) 33) := by
  go_enter Tryz.func5, Tryz.ntmps5
  go_wp2_with (fail)
  go_ret
  exact ⟨rfl, rfl⟩
end Go.Ev

set_option linter.unusedVariables false
set_option linter.unusedSimpArgs false
namespace Go.Ev
open Go.Proofs Go.RowKit
theorem own_elder {W W' : World} {B B' : Nat} {e : TypeId} {z : Nat} {v u : Value} {n m : Nat} {xs ys : List Value} (hz : 0 < z) (hv : W.ownsRow B e z v n xs) (hu : W.ownsRow B' e z u m (xs ++ ys)) (hu' : W'.ownsRow B' e z u m (xs ++ ys)) (hg : W.grownBy W' u.ownBlock) : W'.ownsRow B e z v n xs := by
  rcases hv.2 with ⟨rfl, rfl⟩ | ⟨g, cap, cur, rfl, hb, hc, hn, hm, hs, ht⟩
  · have hx : xs = [] := List.eq_nil_of_length_eq_zero (by simpa using hv.1)
    subst hx
    exact World.ownsRow_nil _ _ _ _
  · by_cases hub : u.ownBlock = some g
    · rcases hu.2 with ⟨e2, _⟩ | ⟨g2, cap2, cur2, e2, hb2, hc2, hn2, hm2, hs2, ht2⟩
      · rw [e2] at hub; cases hub
      · rw [e2] at hub
        cases hub
        rcases hu'.2 with ⟨e3, _⟩ | ⟨g3, cap3, cur3, e3, hb3, hc3, hn3, hm3, hs3, ht3⟩
        · rw [e2] at e3; cases e3
        · rw [e2] at e3
          cases e3
          have hcc : cur = cur2 := by
            have := hc.symm.trans hc2
            injection this with this
            injection this
          subst hcc
          have hcz : cap * z = cap2 * z := hs.symm.trans hs2
          have hcap : cap = cap2 := Nat.eq_of_mul_eq_mul_right hz hcz
          subst hcap
          refine ⟨hv.1, .inr ⟨_, cap, cur3, rfl, hb, hc3, hn, hm, hs3, ?_⟩⟩
          have h3 : (cur3.toList.take (m * z)).take (n * z) = (xs ++ ys).take (n * z) := by rw [ht3]
          have hle : n * z ≤ m * z := by rw [← hv.1, ← hu.1, List.length_append]; omega
          rw [List.take_take, Nat.min_eq_left hle, ← hv.1, List.take_left] at h3
          rw [hv.1] at h3
          exact h3
    · exact ⟨hv.1, .inr ⟨g, cap, cur, rfl, hb, (hg.block g (Array.getElem?_eq_some_iff.1 hc).1 (fun e => hub e.symm)).trans hc, hn, hm, hs, ht⟩⟩
section
variable {W W' : World} {B B2 g : Nat} {pv wv : Value} {ms ws : List Value}
def GrO (W : World) (B N : Nat) (ms : List Value) (ls : List (List Pair)) (gs : List Value) : Prop := ∀ (j : Nat) (v : Value) (l : List Pair), gs[j]? = some v → ls[j]? = some l → W.ownsRow B 59 2 v (l.length + 72) (pairsCs (markP j 0 (l.length + 72))) ∧ ∀ k, v.ownBlock = some k → N ≤ k ∨ ∃ u, ms[j]? = some u ∧ u.ownBlock = some k
theorem GrO.done {N : Nat} {ls : List (List Pair)} {gs : List Value} (hl : gs.length = ls.length) (h : GrO W B N ms ls gs) : SlL W gs (marksL ls 72) := by
  refine ⟨by rw [marksL_len, hl], fun j v l h1 h2 => ?_⟩
  obtain ⟨l0, h3, rfl⟩ := marksL_at h2
  have := Sl.of_own (h j v l0 h1 h3).1
  rw [markP_len]
  exact this
theorem GrO.keeps {S : Nat → Prop} {N : Nat} {ls : List (List Pair)} {gs : List Value} (h : GrO W B N ms ls gs) (hk : Keeps S W W') (hS : ∀ k, S k → k < N ∧ ∀ (j : Nat) (u : Value), j < gs.length → ms[j]? = some u → u.ownBlock ≠ some k) : GrO W' B N ms ls gs := fun j v l h1 h2 =>
  ⟨own_keeps (h j v l h1 h2).1 hk fun k e hs => ((h j v l h1 h2).2 k e).elim (fun h3 => absurd (hS k hs).1 (by omega)) (fun ⟨u, h3, h4⟩ => (hS k hs).2 j u (List.getElem?_eq_some_iff.1 h1).1 h3 h4), (h j v l h1 h2).2⟩
theorem GrO.step {N : Nat} {ls : List (List Pair)} {gs : List Value} {v vo : Value} {l : List Pair} (h : GrO W B N ms ls gs) (ho : W.ownsRow B 59 2 v (l.length + 72) (pairsCs (markP gs.length 0 (l.length + 72)))) (hl : ls[gs.length]? = some l)
    (hw : ∀ k, v.ownBlock = some k → N ≤ k ∨ ∃ u, ms[gs.length]? = some u ∧ u.ownBlock = some k) (hoo : W.ownsRow B2 28 1 vo gs.length gs) (hg : W.grownBy W' vo.ownBlock) : GrO W' B N ms ls (gs ++ [v]) := by
  intro j v1 l1 h1 h2
  have hK : Keeps (fun k => vo.ownBlock = some k) W W' := (Keeps.refl _ W).grown hg fun k e _ => e
  rw [List.getElem?_append] at h1
  split at h1
  · obtain ⟨h3, h4⟩ := h j v1 l1 h1 h2
    exact ⟨own_keeps h3 hK fun k e => own_apart h3 hoo (by decide) k e, h4⟩
  · have hj : j = gs.length := by
      have h4 : j - gs.length < 1 := (List.getElem?_eq_some_iff.1 h1).1
      omega
    subst hj
    rw [Nat.sub_self] at h1
    cases h1
    rw [hl] at h2
    cases h2
    exact ⟨own_keeps ho hK fun k e => own_apart ho hoo (by decide) k e, hw⟩
def GrowPO (ls : List (List Pair)) (ms : List Value) (B2 : Nat) (W : World) (e : Ending) (w' : World) : Prop := ∃ A n c gs, e = .returned (.slice A n c) ∧ Sl w' 1 (.slice A n c) n gs ∧ n = ls.length ∧ SlL w' gs (marksL ls 72) ∧ RowsO w' B2 ms (marksL ls 0) ∧ Keeps (OfP ms) W w'
structure OneO (wo : World) (B2 i nl k : Nat) (vi v : Value) (wr : World) : Prop where
  own : wr.ownsRow B2 59 2 v (nl + k) (pairsCs (markP i 0 (nl + k)))
  at' : ∀ q, v.ownBlock = some q → wo.heap.size ≤ q ∨ vi.ownBlock = some q
  elder : wr.ownsRow B2 59 2 vi nl (pairsCs (markP i 0 nl))
  keeps : Keeps (fun q => vi.ownBlock = some q) wo wr
theorem OneO.step {wo wr w3 w5 : World} {B2 i nl k d : Nat} {vi v v5 : Value} (h : OneO wo B2 i nl k vi v wr) (hb3 : Below wr.heap.size wr w3) (own5 : w5.ownsRow B2 59 2 v5 (nl + k + d) (pairsCs (markP i 0 (nl + k)) ++ pairsCs (markP i (nl + k) d))) (hg5 : w3.grownBy w5 v.ownBlock)
    (hat : ∀ q, v5.ownBlock = some q → v.ownBlock = some q ∨ w3.heap.size ≤ q) (he : w5.ownsRow B2 59 2 v (nl + k) (pairsCs (markP i 0 (nl + k)))) : OneO wo B2 i nl (k + d) vi v5 w5 := by
  have hz : wo.heap.size ≤ w3.heap.size := Nat.le_trans h.keeps.size hb3.size
  have hsp : pairsCs (markP i 0 (nl + k)) = pairsCs (markP i 0 nl) ++ pairsCs (markP i nl k) := by rw [← pairsCs_app, markP_app']
  refine ⟨?_, fun q e => (hat q e).elim (fun e2 => h.at' q e2) (fun e2 => .inl (Nat.le_trans hz e2)), ?_, ?_⟩
  · rw [← pairsCs_app, markP_app' i (nl + k) d] at own5
    rw [← Nat.add_assoc]
    exact own5
  · have h3 := own_below h.own hb3
    rw [hsp] at h3 he
    exact own_elder (by decide) (own_below h.elder hb3) h3 he hg5
  · exact (h.keeps.trans (S' := fun _ => False) (Keeps.of_below hb3) fun _ _ h => h.elim).grown hg5 fun q e hlt => (h.at' q e).elim (fun h => absurd hlt (by omega)) id
set_option maxHeartbeats 4000000 in
set_option maxRecDepth 100000 in
theorem growPairsO_any (ls : List (List Pair)) (h : BookAt W B g pv wv ms ws) (hr : RowsO W B2 ms (marksL ls 0)) (ha : Apart ms) (hB2 : B2 ≤ W.heap.size) (hb : ∀ (i : Nat) (l : List Pair), ls[i]? = some l → l.length ≤ 9000) (hn : ms.length ≤ 1000) :
    Calls Tryz.prog 51 #[ptrV g] W (GrowPO ls ms B2 W) := by
  obtain ⟨i0, hinf, q0, q1, q2⟩ := info_parts infoPair
  obtain ⟨j0, hinj, r0, r1, r2⟩ := info_parts infoPairs
  obtain ⟨n, hn1⟩ : ∃ n, ms.length = n := ⟨_, rfl⟩
  have hp := Sl.of_own h.pr
  rw [hn1] at hp hn
  obtain ⟨Ap, cp, rfl, -⟩ := Sl.of_own h.pr
  rw [hn1] at hp
  have hfar := hr.far h
  have hpb : ∀ k, (Value.slice Ap ms.length cp).ownBlock = some k → k < W.heap.size ∧ ¬ OfP ms k := fun k hk => ⟨(h.pr.lt k hk).2, hfar k (.inr (.inl hk))⟩
  have HA := Lib.hid (And.intro hp (And.intro hpb (And.intro h.blk (And.intro hn1 (And.intro (hfar g (.inl rfl)) (And.intro ha hB2))))))
  have HR0 := Lib.hid hr
  have HR00 := Lib.hid hr
  clear h hr hp hn1 hfar hpb ha
  go_enter Tryz.func51, Tryz.ntmps51
  go_wp2_with (fail)
  go_loopg [3, 4, 5, 6] n (fun gk s3 s4 s5 s6 wr => ∃ (i : Nat) (gs : List Value), s4 = .int .i64 (i : Int) ∧ i + gk = n ∧ Hid (gs.length = i) ∧ Hid (wr.ownsRow W.heap.size 28 1 s3 i gs) ∧ Hid (GrO wr B2 W.heap.size ms ls gs) ∧ Hid (RowsO wr B2 ms (marksL ls 0)) ∧ Hid (Keeps (OfP ms) W wr))
  case atStart => exact ⟨0, [], rfl, by omega, rfl, World.ownsRow_nil _ _ _ _, (fun j v l h1 _ => by simp at h1), HR0.out, Keeps.refl _ _⟩
  case round =>
    obtain ⟨i, gs, rfl, hi, hgs, hrow, hgr, hro, hkw⟩ := hrel
    clear HR0
    obtain ⟨wo, hwo⟩ : ∃ x, x = wr := ⟨_, rfl⟩
    subst hwo
    obtain ⟨Ao, co, rfl, -⟩ := Sl.of_own hrow.out
    have c8 : wo.cell? ⟨g, 8, none⟩ = some (.slice Ap ms.length cp) := (HA.out.2.2.1.keeps hkw.out HA.out.2.2.2.2.1).cell 8
    rw [HA.out.2.2.2.1] at c8
    by_cases h1 : i < n
    · have h1' : (i : Int) < (n : Int) := by omega
      have hi0 : (0 : Int) ≤ (i : Int) := by omega
      have hw1 : IntKind.i64.wrap ((i : Int) + 1) = (i : Int) + 1 := IntWalk.i64_in _ (by omega)
      have him : i < ms.length := by rw [HA.out.2.2.2.1]; exact h1
      have hil : i < ls.length := by have := hro.out.1; rw [marksL_len] at this; omega
      obtain ⟨v, hv⟩ : ∃ v, ms[i]? = some v := ⟨_, List.getElem?_eq_getElem him⟩
      obtain ⟨l, hl⟩ : ∃ l, ls[i]? = some l := ⟨_, List.getElem?_eq_getElem hil⟩
      have hlm : (marksL ls 0)[i]? = some (markP i 0 l.length) := by simp [marksL, List.getElem?_mapIdx, hl]
      have hcl := hro.out.2 i v _ hv hlm
      rw [markP_len] at hcl
      obtain ⟨A, cA, rfl, -⟩ := own_form hcl
      obtain ⟨_, _, e0, _, _, hc⟩ := HA.out.1
      cases e0
      obtain ⟨ba, oa, rfl, hlt, hca⟩ := hc (by omega)
      have hba := HA.out.2.1 ba rfl
      have x1 : wo.cell? ⟨ba, oa + i, none⟩ = some (.slice A l.length cA) := by rw [hkw.out.cell hba.1 hba.2]; exact hca _ _ hv
      have HVI : Hid (∀ k, (Value.slice A l.length cA).ownBlock = some k → k < W.heap.size) := fun k e => (HR00.out.2 i _ _ hv hlm).lt k e |>.2
      have hlb := hb i l hl
      obtain ⟨nl, hnl⟩ : ∃ m, l.length = m := ⟨_, rfl⟩
      rw [hnl] at x1 hlb HVI
      have hone0 : OneO wo B2 i nl 0 (.slice A nl cA) (.slice A nl cA) wo := by
        rw [hnl] at hcl
        exact ⟨hcl, fun q e => .inr e, hcl, Keeps.refl _ _⟩
      have hvn : ms[i]? = some (.slice A nl cA) := by rw [← hnl]; exact hv
      have HU := Lib.hid (And.intro hl (And.intro hnl (And.intro hvn hone0)))
      clear hcl hlm hv hl hca hc hlt hnl him hil hba hone0 hvn
      go_wp2_with (fail)
      clear c8 x1
      obtain ⟨gq, hgq⟩ : ∃ x, x = gk := ⟨_, rfl⟩
      subst hgq
      go_loopg [5, 6] 12 (fun gk s5 s6 wr => ∃ k : Nat, s6 = .int .i64 (k : Int) ∧ k + gk = 12 ∧ Hid (OneO wo B2 i nl k (.slice A nl cA) s5 wr))
      case atStart => exact ⟨0, rfl, by omega, HU.out.2.2.2⟩
      case round =>
        obtain ⟨k, rfl, hk, hone⟩ := hrel
        by_cases h2 : k < 12
        · have h2' : (k : Int) < 12 := by omega
          have hw2 : IntKind.i64.wrap ((k : Int) + 1) = (k : Int) + 1 := IntWalk.i64_in _ (by omega)
          obtain ⟨Av, cv, rfl, -⟩ := Sl.of_own hone.out.own
          have HO := Lib.hid hone.out
          obtain ⟨m, hm⟩ : ∃ m, nl + k = m := ⟨_, rfl⟩
          have hone2 := hone.out.own
          rw [hm] at hone2
          have HN2 := Lib.hid hone2
          clear hone2
          have HM := Lib.hid (markPairs_any i m 1 wr (by omega) (by omega))
          have HMe := Lib.hid hm
          rw [hm]
          clear hone hm
          go_wp2_with (fail)
          go_must (refine HM.out.mono ?_)
          rintro e w3 ⟨y, rfl, hy, hb3⟩
          obtain ⟨_, _, e3, _, _, hc3⟩ := Sl.of_own hy
          subst e3
          obtain ⟨b3, o3, rfl, _, hc3⟩ := hc3 (by omega)
          have HY := Lib.hid (And.intro (own_below HN2.out hb3) (And.intro hb3 hc3))
          clear hy hb3 hc3
          go_wp2_with (at_builtin; go_must (refine wpList_append_atE rfl _ _ 28 rfl B2 59 i0 _ 2 32 Tryz.underlying28 hinf q0 q1 q2 rfl (by decide) _ m (pairsCs (markP i 0 m)) rfl HY.out.1 ⟨b3, o3, none⟩ 1 _ (pairsCs (markP i m 1)) rfl rfl (fun j u hu => by rw [addr_add]; exact HY.out.2.2 j u hu) (pairsCs_one _) (by have := HMe.out; unfold maxLen; omega) (by have := HMe.out; omega) (Nat.le_trans HA.out.2.2.2.2.2.2 (Nat.le_trans hkw.out.size (Nat.le_trans HO.out.keeps.size HY.out.2.1.size))) ?_))
          intro v5 w5 own5 hg5 hat5 hel5
          have HN : Hid (OneO wo B2 i nl (k + 1) (.slice A nl cA) v5 w5) := by
            have hme := HMe.out
            subst hme
            exact HO.out.step (d := 1) HY.out.2.1 own5 hg5 hat5 hel5
          clear hat5 hel5
          obtain ⟨A5, c5, rfl, -⟩ := Sl.of_own own5
          clear own5 hg5
          go_wp2_with (fail)
          go_roundg (gk - 1)
          case measure => omega
          case rel => exact ⟨k + 1, by simp, by omega, HN⟩
        · have h2' : ¬ (k : Int) < 12 := by omega
          have hkn : k = 12 := by omega
          subst hkn
          obtain ⟨Av, cv, rfl, -⟩ := Sl.of_own hone.out.own
          have HO := Lib.hid hone.out
          have HM := Lib.hid (markPairs_any i (nl + 12) 60 wr (by omega) (by omega))
          obtain ⟨m, hm⟩ : ∃ m, nl + 12 = m := ⟨_, rfl⟩
          have hone2 := hone.out.own
          rw [hm] at HM hone2
          have HN2 := Lib.hid hone2
          have HMe := Lib.hid hm
          rw [hm]
          clear hone hone2 hm
          go_wp2_with (fail)
          go_must (refine HM.out.mono ?_)
          rintro e w3 ⟨y, rfl, hy, hb3⟩
          obtain ⟨_, _, e3, _, _, hc3⟩ := Sl.of_own hy
          subst e3
          obtain ⟨b3, o3, rfl, _, hc3⟩ := hc3 (by omega)
          have HY := Lib.hid (And.intro (own_below HN2.out hb3) (And.intro hb3 hc3))
          clear hy hb3 hc3
          go_wp2_with (at_builtin; go_must (refine wpList_append_atE rfl _ _ 28 rfl B2 59 i0 _ 2 32 Tryz.underlying28 hinf q0 q1 q2 rfl (by decide) _ m (pairsCs (markP i 0 m)) rfl HY.out.1 ⟨b3, o3, none⟩ 60 _ (pairsCs (markP i m 60)) rfl (by rw [pairsCs_len, markP_len]) (fun j u hu => by rw [addr_add]; exact HY.out.2.2 j u hu) (pairsCs_one _) (by have := HMe.out; unfold maxLen; omega) (by have := HMe.out; omega) (Nat.le_trans HA.out.2.2.2.2.2.2 (Nat.le_trans hkw.out.size (Nat.le_trans HO.out.keeps.size HY.out.2.1.size))) ?_))
          intro v5 w5 own5 hg5 hat5 hel5
          have hN : OneO wo B2 i nl (12 + 60) (.slice A nl cA) v5 w5 := by
            have hme := HMe.out
            subst hme
            exact HO.out.step (d := 60) HY.out.2.1 own5 hg5 hat5 hel5
          have hfi : ∀ q, (Value.slice A nl cA).ownBlock = some q → OfP ms q := fun q e => ⟨i, _, HU.out.2.2.1, e⟩
          have hlq : ∀ q, (Value.slice A nl cA).ownBlock = some q → q < wo.heap.size := fun q e => (HU.out.2.2.2.own.lt q e).2
          have hrow5 : (w5.alloc (.cells #[v5] 28)).ownsRow W.heap.size 28 1 (.slice Ao i co) i gs := own_keeps (S := fun _ => False) (own_keeps hrow.out hN.keeps fun q e e2 => own_apart (own_keeps HU.out.2.2.2.own (Keeps.refl (fun _ => False) wo) fun _ _ h => h) hrow.out (by decide) q e2 e) ((Keeps.refl _ w5).alloc _) fun _ _ h => h
          obtain ⟨A5, c5, rfl, -⟩ := Sl.of_own own5
          have HR := Lib.hid (And.intro hN (And.intro hrow5 (And.intro hfi hlq)))
          clear hat5 hel5 hN hfi hlq
          clear own5 hg5 hrow5
          go_wp2_with (at_builtin; go_must (refine wpList_append_at rfl _ _ 39 rfl W.heap.size 28 j0 _ 1 24 Tryz.underlying39 hinj r0 r1 r2 rfl (by decide) _ i gs rfl HR.out.2.1 ⟨w5.heap.size, 0, none⟩ 1 1 [.slice A5 (m + 60) c5] rfl rfl (row_val _ _ _ _ rfl) (by simp [Value.oneCell']) (by unfold maxLen; omega) (by omega) (by have := HR.out.1.keeps.size; have := hkw.out.size; simp only [World.alloc, Array.size_push]; omega) ?_))
          intro v7 w7 own7 hg7 _
          have hzw : W.heap.size ≤ wo.heap.size := hkw.out.size
          have hk5 := HR.out.1.keeps
          have hal : Keeps (fun _ => False) w5 (w5.alloc (.cells #[.slice A5 (m + 60) c5] 28)) := (Keeps.refl _ w5).alloc _
          have hk7 : Keeps (fun q => (Value.slice Ao i co).ownBlock = some q) (w5.alloc (.cells #[.slice A5 (m + 60) c5] 28)) w7 := (Keeps.refl _ _).grown hg7 fun k e _ => e
          have hout : ∀ q, (Value.slice Ao i co).ownBlock = some q → W.heap.size ≤ q := fun q e => (hrow.out.lt q e).1
          have hm5 : m + 60 = nl + (12 + 60) := by have := HMe.out; omega
          have HF : Hid (w7.ownsRow W.heap.size 28 1 v7 (i + 1) (gs ++ [.slice A5 (m + 60) c5]) ∧ GrO w7 B2 W.heap.size ms ls (gs ++ [.slice A5 (m + 60) c5]) ∧ RowsO w7 B2 ms (marksL ls 0) ∧ Keeps (OfP ms) W w7) := by
            refine ⟨own7, ?_, ⟨hro.out.1, fun j v l hj1 hj2 => ?_⟩, ?_⟩
            · have hg1 : GrO (w5.alloc (.cells #[.slice A5 (m + 60) c5] 28)) B2 W.heap.size ms ls gs := (hgr.out.keeps hk5 (fun k e => ⟨HVI.out k e, fun j u hj hu e2 => HA.out.2.2.2.2.2.1 j i u _ hu HU.out.2.2.1 (by have := hgs.out; omega) k e2 e⟩)).keeps hal (fun _ h => h.elim)
              refine hg1.step (l := l) (vo := .slice Ao i co) (B2 := W.heap.size) ?_ (by rw [hgs.out]; exact HU.out.1) (fun k e => ?_) (by rw [hgs.out]; exact HR.out.2.1) hg7
              · rw [HU.out.2.1, hgs.out]
                have := own_keeps HR.out.1.own hal fun _ _ h => h
                rw [show nl + 72 = nl + (12 + 60) by omega]
                exact this
              · rw [hgs.out]
                exact (HR.out.1.at' k e).imp (fun h => Nat.le_trans hzw h) (fun h => ⟨_, HU.out.2.2.1, h⟩)
            · have h5 : w5.ownsRow B2 59 2 v l.length (pairsCs l) := by
                by_cases hj : j = i
                · subst hj
                  rw [HU.out.2.2.1] at hj1
                  cases hj1
                  obtain ⟨l0, h3, rfl⟩ := marksL_at hj2
                  rw [HU.out.1] at h3
                  cases h3
                  have := HR.out.1.elder
                  rw [markP_len, Nat.add_zero, HU.out.2.1]
                  exact this
                · exact own_keeps (hro.out.2 j v l hj1 hj2) hk5 fun k e e2 => HA.out.2.2.2.2.2.1 j i v _ hj1 HU.out.2.2.1 hj k e e2
              have h6 := own_keeps h5 hal fun _ _ h => h
              exact own_keeps h6 hk7 fun k e e2 => own_apart h6 HR.out.2.1 (by decide) k e e2
            · exact ((hkw.out.trans (hk5.mono fun q _ e => HR.out.2.2.1 q e) fun _ _ h => h).trans hal fun _ _ h => h.elim).trans hk7 fun q hq e => absurd hq (by have := hout q e; omega)
          obtain ⟨A7, c7, rfl, -⟩ := Sl.of_own own7
          clear own7 hg7
          go_wp2_with (fail)
          go_roundg (gq - 1)
          case measure => omega
          case rel => exact ⟨i + 1, _, by simp, by omega, by show (gs ++ _).length = _; rw [List.length_append, hgs.out]; rfl, HF.out.1, HF.out.2.1, HF.out.2.2.1, HF.out.2.2.2⟩
    · have h1' : ¬ (i : Int) < (n : Int) := by omega
      have hin : i = n := by omega
      have hln : i = ls.length := by have := hro.out.1; rw [marksL_len] at this; rw [hin, ← HA.out.2.2.2.1]; exact this
      have HF : Hid (GrowPO ls ms B2 W (.returned (.slice Ao i co)) wo) := ⟨_, _, _, gs, rfl, Sl.of_own hrow.out, hln, hgr.out.done (by rw [hgs.out, hln]), hro.out, hkw.out⟩
      clear hln hin
      go_wp2_with (fail)
      go_ret
      exact HF.out
end
end Go.Ev

set_option linter.unusedVariables false
set_option linter.unusedSimpArgs false
namespace Go.Ev
open Go.Proofs Go.RowKit
set_option maxHeartbeats 8000000 in
set_option maxRecDepth 100000 in
theorem apartO_any {W : World} {B B2 g : Nat} {pv wv : Value} {ms ws : List Value} (ls : List (List Pair)) (h : BookAt W B g pv wv ms ws) (hr : RowsO W B2 ms ls) (hB2 : B2 ≤ W.heap.size) (hl2 : SlL W ws ls) (ha : Apart ms) (hb : ∀ (i : Nat) (l : List Pair), ls[i]? = some l → l.length ≤ 9000) (hn : ms.length ≤ 1000) :
    Calls Tryz.prog 14 #[ptrV g] W fun e w' => e = .returned (.bool true) ∧ Keeps (OfP ms) W w' := by
  have HS := Lib.hid (stillPairs_any ls h hr.sl hl2 (fun i l e => Nat.le_trans (hb i l e) (by decide)) hn)
  have HA := Lib.hid (And.intro h (And.intro hr (And.intro ha (And.intro hb hn))))
  have HB0 := Lib.hid h.blk
  obtain ⟨Ap, cp, rfl, -⟩ := Sl.of_own h.pr
  have HB2s := Lib.hid hB2
  clear h hr hl2 ha hb hn hB2
  go_enter Tryz.func14, Tryz.ntmps14
  go_wp2_with (fail)
  go_must (refine (stillTexts_nil (HB0.out.cell 0)).mono ?_)
  rintro e w0 ⟨rfl, rfl⟩
  go_wp2_with (fail)
  go_must (refine (stillInts_nil (HB0.out.cell 2)).mono ?_)
  rintro e w0 ⟨rfl, rfl⟩
  go_wp2_with (fail)
  go_must (refine (stillItems_nil (HB0.out.cell 4)).mono ?_)
  rintro e w0 ⟨rfl, rfl⟩
  go_wp2_with (fail)
  go_must (refine (stillChildren_nil (HB0.out.cell 6)).mono ?_)
  rintro e w0 ⟨rfl, rfl⟩
  go_wp2_with (fail)
  go_must (refine HS.out.mono ?_)
  rintro e w1 ⟨rfl, hb1⟩
  have HB1 := Lib.hid (HA.out.1.blk.below' hb1)
  have HA1 := Lib.hid (And.intro (HA.out.1.below hb1) (HA.out.2.1.below hb1))
  have HP := Lib.hid (putPairsO_any ls HA1.out.1 HA1.out.2 HA.out.2.2.1 (fun i l e => Nat.le_trans (HA.out.2.2.2.1 i l e) (by decide)) HA.out.2.2.2.2)
  have HW1 := Lib.hid hb1
  clear hb1
  go_wp2_with (fail)
  go_must (refine (stillEntries_nil (HB1.out.cell 10)).mono ?_)
  rintro e w0 ⟨rfl, rfl⟩
  go_wp2_with (fail)
  go_must (refine (stillMsgs_nil (HB1.out.cell 12)).mono ?_)
  rintro e w0 ⟨rfl, rfl⟩
  go_wp2_with (fail)
  go_must (refine (stillDues_nil (HB1.out.cell 14)).mono ?_)
  rintro e w0 ⟨rfl, rfl⟩
  go_wp2_with (fail)
  go_must (refine (stillPackets_nil (HB1.out.cell 16)).mono ?_)
  rintro e w0 ⟨rfl, rfl⟩
  go_wp2_with (fail)
  go_must (refine (stillEvents_nil (HB1.out.cell 18)).mono ?_)
  rintro e w0 ⟨rfl, rfl⟩
  go_wp2_with (fail)
  go_must (refine (stillSteps_nil (HB1.out.cell 20)).mono ?_)
  rintro e w0 ⟨rfl, rfl⟩
  go_wp2_with (fail)
  go_must (refine (putMsgs_nil (HB1.out.cell 12)).mono ?_)
  rintro e w0 ⟨rfl, rfl⟩
  go_wp2_with (fail)
  go_must (refine (putSteps_nil (HB1.out.cell 20)).mono ?_)
  rintro e w0 ⟨rfl, rfl⟩
  go_wp2_with (fail)
  go_must (refine (putTexts_nil (HB1.out.cell 0)).mono ?_)
  rintro e w0 ⟨rfl, rfl⟩
  go_wp2_with (fail)
  go_must (refine (putInts_nil (HB1.out.cell 2)).mono ?_)
  rintro e w0 ⟨rfl, rfl⟩
  go_wp2_with (fail)
  go_must (refine (putItems_nil (HB1.out.cell 4)).mono ?_)
  rintro e w0 ⟨rfl, rfl⟩
  go_wp2_with (fail)
  go_must (refine (putChildren_nil (HB1.out.cell 6)).mono ?_)
  rintro e w0 ⟨rfl, rfl⟩
  go_wp2_with (fail)
  go_must (refine HP.out.mono ?_)
  rintro e w2 ⟨rfl, hr2, hk2⟩
  have HA2 := Lib.hid (And.intro (HA1.out.1.keeps hk2 (fun k hk => HA1.out.2.far HA1.out.1 k hk)) hr2)
  have HB2 := Lib.hid HA2.out.1.blk
  have HG := Lib.hid (growPairsO_any ls HA2.out.1 HA2.out.2 HA.out.2.2.1 (Nat.le_trans HB2s.out (Nat.le_trans HW1.out.size hk2.size)) HA.out.2.2.2.1 HA.out.2.2.2.2)
  have HK2 := Lib.hid ((Keeps.of_below (S := OfP ms) HW1.out).trans hk2 fun _ _ h => h)
  clear hr2 hk2
  go_wp2_with (fail)
  go_must (refine (putEntries_nil (HB2.out.cell 10)).mono ?_)
  rintro e w0 ⟨rfl, rfl⟩
  go_wp2_with (fail)
  go_must (refine (putDues_nil (HB2.out.cell 14)).mono ?_)
  rintro e w0 ⟨rfl, rfl⟩
  go_wp2_with (fail)
  go_must (refine (putPackets_nil (HB2.out.cell 16)).mono ?_)
  rintro e w0 ⟨rfl, rfl⟩
  go_wp2_with (fail)
  go_must (refine (putEvents_nil (HB2.out.cell 18)).mono ?_)
  rintro e w0 ⟨rfl, rfl⟩
  go_wp2_with (fail)
  go_must (refine (growTexts_nil (HB2.out.cell 0)).mono ?_)
  rintro e w0 ⟨rfl, rfl⟩
  go_wp2_with (fail)
  go_must (refine (growInts_nil (HB2.out.cell 2)).mono ?_)
  rintro e w0 ⟨rfl, rfl⟩
  go_wp2_with (fail)
  go_must (refine (growItems_nil (HB2.out.cell 4)).mono ?_)
  rintro e w0 ⟨rfl, rfl⟩
  go_wp2_with (fail)
  go_must (refine (growChildren_nil (HB2.out.cell 6)).mono ?_)
  rintro e w0 ⟨rfl, rfl⟩
  go_wp2_with (fail)
  go_must (refine HG.out.mono ?_)
  rintro e w3 ⟨A3, n3, d3, gs, rfl, hs3, hn3, hl3, hr3, hb3⟩
  have hfar3 := HA2.out.2.far HA2.out.1
  have HB3 := Lib.hid (HB2.out.keeps hb3 (hfar3 g (.inl rfl)))
  have hp3 := own_keeps HA2.out.1.pr hb3 fun k e => hfar3 k (.inr (.inl e))
  have hnl : n3 ≤ 1000 := by
    rw [hn3, ← HA.out.2.1.1]
    exact HA.out.2.2.2.2
  have HM3 := Lib.hid (markedPairs_any A3 n3 d3 gs (marksL ls 72) w3 hs3 hl3 (marksL_ok fun i l e => by have := HA.out.2.2.2.1 i l e; omega) hnl)
  have HM4 := Lib.hid (fun V (hb : Below w3.heap.size w3 V) => markedPairs_any Ap ms.length cp ms (marksL ls 0) V ((Sl.of_own hp3).below hb) (hr3.sl.below hb) (marksL_ok fun i l e => by have := HA.out.2.2.2.1 i l e; omega) HA.out.2.2.2.2)
  have HK3 := Lib.hid (HK2.out.trans hb3 fun _ _ h => h)
  clear hs3 hn3 hl3 hb3 hfar3 hp3 hr3
  go_wp2_with (fail)
  go_must (refine (growEntries_nil (HB3.out.cell 10)).mono ?_)
  rintro e w0 ⟨rfl, rfl⟩
  go_wp2_with (fail)
  go_must (refine (growMsgs_nil (HB3.out.cell 12)).mono ?_)
  rintro e w0 ⟨rfl, rfl⟩
  go_wp2_with (fail)
  go_must (refine (growDues_nil (HB3.out.cell 14)).mono ?_)
  rintro e w0 ⟨rfl, rfl⟩
  go_wp2_with (fail)
  go_must (refine (growPackets_nil (HB3.out.cell 16)).mono ?_)
  rintro e w0 ⟨rfl, rfl⟩
  go_wp2_with (fail)
  go_must (refine (growEvents_nil (HB3.out.cell 18)).mono ?_)
  rintro e w0 ⟨rfl, rfl⟩
  go_wp2_with (fail)
  go_must (refine (growSteps_nil (HB3.out.cell 20)).mono ?_)
  rintro e w0 ⟨rfl, rfl⟩
  go_wp2_with (fail)
  go_must (refine (markedTexts_nil _).mono ?_)
  rintro e w0 ⟨rfl, rfl⟩
  have c0 : w3.cell? ⟨g, 0, none⟩ = some (.slice none 0 0) := HB3.out.cell 0
  go_wp2_with (fail)
  go_must (refine (markedTexts_nil _).mono ?_)
  rintro e w0 ⟨rfl, rfl⟩
  clear c0
  go_wp2_with (fail)
  go_must (refine (markedInts_nil _).mono ?_)
  rintro e w0 ⟨rfl, rfl⟩
  have c2 : w3.cell? ⟨g, 2, none⟩ = some (.slice none 0 0) := HB3.out.cell 2
  go_wp2_with (fail)
  go_must (refine (markedInts_nil _).mono ?_)
  rintro e w0 ⟨rfl, rfl⟩
  clear c2
  go_wp2_with (fail)
  go_must (refine (markedItems_nil _).mono ?_)
  rintro e w0 ⟨rfl, rfl⟩
  have c4 : w3.cell? ⟨g, 4, none⟩ = some (.slice none 0 0) := HB3.out.cell 4
  go_wp2_with (fail)
  go_must (refine (markedItems_nil _).mono ?_)
  rintro e w0 ⟨rfl, rfl⟩
  clear c4
  go_wp2_with (fail)
  go_must (refine (markedChildren_nil _).mono ?_)
  rintro e w0 ⟨rfl, rfl⟩
  have c6 : w3.cell? ⟨g, 6, none⟩ = some (.slice none 0 0) := HB3.out.cell 6
  go_wp2_with (fail)
  go_must (refine (markedChildren_nil _).mono ?_)
  rintro e w0 ⟨rfl, rfl⟩
  clear c6
  go_wp2_with (fail)
  go_must (refine HM3.out.mono ?_)
  rintro e w4 ⟨rfl, hb4⟩
  have HM5 := Lib.hid (HM4.out w4 hb4)
  have HB4 := Lib.hid (HB3.out.below' hb4)
  have HK4 := Lib.hid (HK3.out.trans (S' := fun _ => False) (Keeps.of_below hb4) fun _ _ h => h.elim)
  have c8 : w4.cell? ⟨g, 8, none⟩ = some (.slice Ap ms.length cp) := HB4.out.cell 8
  clear hb4
  go_wp2_with (fail)
  go_must (refine HM5.out.mono ?_)
  rintro e w5 ⟨rfl, hb5⟩
  have HB5 := Lib.hid (HB4.out.below' hb5)
  have HK5 := Lib.hid (HK4.out.trans (S' := fun _ => False) (Keeps.of_below hb5) fun _ _ h => h.elim)
  clear hb5 c8
  go_wp2_with (fail)
  go_must (refine (markedEntries_nil _).mono ?_)
  rintro e w0 ⟨rfl, rfl⟩
  have c10 : w5.cell? ⟨g, 10, none⟩ = some (.slice none 0 0) := HB5.out.cell 10
  go_wp2_with (fail)
  go_must (refine (markedEntries_nil _).mono ?_)
  rintro e w0 ⟨rfl, rfl⟩
  clear c10
  go_wp2_with (fail)
  go_must (refine (markedMsgs_nil _).mono ?_)
  rintro e w0 ⟨rfl, rfl⟩
  have c12 : w5.cell? ⟨g, 12, none⟩ = some (.slice none 0 0) := HB5.out.cell 12
  go_wp2_with (fail)
  go_must (refine (markedMsgs_nil _).mono ?_)
  rintro e w0 ⟨rfl, rfl⟩
  clear c12
  go_wp2_with (fail)
  go_must (refine (markedDues_nil _).mono ?_)
  rintro e w0 ⟨rfl, rfl⟩
  have c14 : w5.cell? ⟨g, 14, none⟩ = some (.slice none 0 0) := HB5.out.cell 14
  go_wp2_with (fail)
  go_must (refine (markedDues_nil _).mono ?_)
  rintro e w0 ⟨rfl, rfl⟩
  clear c14
  go_wp2_with (fail)
  go_must (refine (markedPackets_nil _).mono ?_)
  rintro e w0 ⟨rfl, rfl⟩
  have c16 : w5.cell? ⟨g, 16, none⟩ = some (.slice none 0 0) := HB5.out.cell 16
  go_wp2_with (fail)
  go_must (refine (markedPackets_nil _).mono ?_)
  rintro e w0 ⟨rfl, rfl⟩
  clear c16
  go_wp2_with (fail)
  go_must (refine (markedEvents_nil _).mono ?_)
  rintro e w0 ⟨rfl, rfl⟩
  have c18 : w5.cell? ⟨g, 18, none⟩ = some (.slice none 0 0) := HB5.out.cell 18
  go_wp2_with (fail)
  go_must (refine (markedEvents_nil _).mono ?_)
  rintro e w0 ⟨rfl, rfl⟩
  clear c18
  go_wp2_with (fail)
  go_must (refine (markedSteps_nil _).mono ?_)
  rintro e w0 ⟨rfl, rfl⟩
  have c20 : w5.cell? ⟨g, 20, none⟩ = some (.slice none 0 0) := HB5.out.cell 20
  go_wp2_with (fail)
  go_must (refine (markedSteps_nil _).mono ?_)
  rintro e w0 ⟨rfl, rfl⟩
  clear c20
  go_wp2_with (fail)
  go_ret
  exact ⟨rfl, HK5.out⟩
end Go.Ev

set_option linter.unusedVariables false
set_option linter.unusedSimpArgs false
namespace Go.Ev
open Go.Proofs Go.RowKit
def SomeBool (w : World) (e : Ending) (w' : World) : Prop := (∃ t, e = .returned (.bool t)) ∧ Below w.heap.size w w'
def SomeFew (lp lm : Nat) (w : World) (e : Ending) (w' : World) : Prop := (∃ t, e = .returned (.bool t) ∧ (t = true → lp ≤ 60 ∧ lm ≤ 40)) ∧ Below w.heap.size w w'
set_option maxHeartbeats 1000000 in
theorem room_any (b o n c : Nat) (left : Int) (W : World) (h : ∀ j, j < n → ∃ x, W.cell? ⟨b, o + j, none⟩ = some (.int .i64 x)) (hn : n ≤ 1000) :
    Calls Tryz.prog 20 #[.int .i64 left, .slice (some ⟨b, o, none⟩) n c] W fun e w' => (∃ r, e = .returned (.int .i64 r)) ∧ w' = W := by
  go_enter Tryz.func20, Tryz.ntmps20
  go_wp2
  go_loopw [0, 5] (fun u i wr => ∃ (r : Int) (k : Nat), k ≤ n ∧ u = .int .i64 r ∧ i = .int .i64 (k : Int) ∧ wr = W) (fun _ i _ => n - (Go.RowKit.intOf i).toNat)
  case atStart => exact ⟨left, 0, by omega, rfl, rfl, rfl⟩
  case round =>
    obtain ⟨r, k, hk, rfl, rfl, rfl⟩ := hrel
    by_cases hlt : k < n
    · obtain ⟨x, hx⟩ := h k hlt
      have hlt' : (k : Int) < (n : Int) := by omega
      go_wp2
      case roundEnd => exact ⟨⟨_, k + 1, by omega, rfl, by simp, trivial⟩, by simp only [Go.RowKit.intOf]; omega⟩
      all_goals (go_ret; exact ⟨⟨_, rfl⟩, rfl⟩)
    · have hlt' : ¬ (k : Int) < (n : Int) := by omega
      go_wp2
      all_goals (go_ret; exact ⟨⟨_, rfl⟩, rfl⟩)
theorem room1 (x0 left : Int) (T : TypeId) (W : World) : Calls Tryz.prog 20 #[.int .i64 left, .slice (some ⟨W.heap.size, 0, none⟩) 1 1] (W.alloc (.cells #[.int .i64 x0] T)) fun e w' => (∃ r, e = .returned (.int .i64 r)) ∧ w' = W.alloc (.cells #[.int .i64 x0] T) :=
  room_any _ _ _ _ _ _ (fun j hj => by
    have : j = 0 := by omega
    rcases this with rfl <;> exact ⟨_, World.cell?_alloc_at _ _ _ _ rfl⟩) (by omega)
set_option maxRecDepth 100000 in
set_option maxHeartbeats 1000000 in
theorem small16r_any (b o l c : Nat) (w : World) (h : ∀ j, j < l → ∃ s : ByteArray, w.cell? ⟨b, o + j * 4 + 3, none⟩ = some (.string s) ∧ s.size ≤ maxLen) (hb : b < w.heap.size) (hl : l ≤ maxLen) :
    Calls Tryz.prog 19 #[.slice (some ⟨b, o, none⟩) l c] w (SomeBool w) := by
  replace hl : l ≤ 9223372036854775807 := by unfold maxLen at hl; omega
  go_enter Tryz.func19, Tryz.ntmps19
  go_wp2
  go_loopw [3, 4] (fun u i wr => ∃ (r : Int) (k : Nat), k ≤ l ∧ u = .int .i64 r ∧ i = .int .i64 (k : Int) ∧ Below w.heap.size w wr) (fun _ i _ => l - (Go.RowKit.intOf i).toNat)
  case atStart => exact ⟨_, 0, by omega, rfl, rfl, Below.refl _ _⟩
  case round =>
    obtain ⟨r, k, hk, rfl, rfl, hbel⟩ := hrel
    by_cases hlt : k < l
    · obtain ⟨s, hs, hsz⟩ := h k hlt
      have hs' : wr.cell? ⟨b, o + k * 4 + 3, none⟩ = some (.string s) := ((bcell hbel).1 _ _ hb).trans hs
      have hlt' : (k : Int) < (l : Int) := by omega
      go_wp2_with (go_at_call 20; refine (room1 _ _ _ _).mono ?_; rintro e w1 ⟨⟨r', rfl⟩, rfl⟩)
      case roundEnd => exact ⟨⟨_, k + 1, by omega, rfl, by simp, bel_alloc hbel _⟩, by simp only [Go.RowKit.intOf]; omega⟩
      all_goals (go_ret; exact ⟨⟨_, rfl⟩, hbel⟩)
    · have hlt' : ¬ (k : Int) < (l : Int) := by omega
      go_wp2
      all_goals (go_ret; exact ⟨⟨_, rfl⟩, hbel⟩)
theorem room2d (x0 x1 left : Int) (T : TypeId) (W : World) : Calls Tryz.prog 20 #[.int .i64 left, .slice (some ⟨W.heap.size, 0, none⟩) 2 2] (W.alloc (.cells #[.int .i64 x0, .int .i64 x1] T)).drew fun e w' => (∃ r, e = .returned (.int .i64 r)) ∧ w' = (W.alloc (.cells #[.int .i64 x0, .int .i64 x1] T)).drew :=
  room_any _ _ _ _ _ _ (fun j hj => by
    have : j = 0 ∨ j = 1 := by omega
    rcases this with rfl | rfl <;> exact ⟨_, World.cell?_alloc_at _ _ _ _ rfl⟩) (by omega)
theorem kept_cell0 {w w1 : World} {vs : Array Value} {T : TypeId} (h : Below (w.alloc (.cells vs T)).heap.size (w.alloc (.cells vs T)) w1) (j : Nat) (v : Value) (hv : vs[j]? = some v) :
    w1.cell? ⟨w.heap.size, j, none⟩ = some v ∧ w1.frozen? ⟨w.heap.size, j, none⟩ = false :=
  ⟨((bcell h).1 _ _ (by simp)).trans ((World.cell?_alloc_at _ _ _ j rfl).trans hv), ((bcell h).2 _ _ (by simp)).trans (World.frozen?_alloc_at _ _ _ j rfl)⟩
theorem lt_of_below0 {w w1 : World} {o : Obj} {n : Nat} (h : Below n (w.alloc o) w1) : w.heap.size < w1.heap.size := by
  have := h.size
  simp at this
  omega
theorem kept_more0 {w1 w2 : World} {b j : Nat} {v : Value} (h : Below w1.heap.size w1 w2) (hb : b < w1.heap.size) (q : w1.cell? ⟨b, j, none⟩ = some v ∧ w1.frozen? ⟨b, j, none⟩ = false) :
    w2.cell? ⟨b, j, none⟩ = some v ∧ w2.frozen? ⟨b, j, none⟩ = false :=
  ⟨((bcell h).1 _ _ hb).trans q.1, ((bcell h).2 _ _ hb).trans q.2⟩
def TxAt (w : World) (z off : Nat) (p : Option Addr) (l : Nat) : Prop := l = 0 ∨ ∃ b o, p = some ⟨b, o, none⟩ ∧ b < w.heap.size ∧ ∀ j, j < l → ∃ s : ByteArray, w.cell? ⟨b, o + j * z + off, none⟩ = some (.string s) ∧ s.size ≤ maxLen
theorem TxAt.below {w w' : World} {z off l : Nat} {p : Option Addr} (h : TxAt w z off p l) (hb : Below w.heap.size w w') : TxAt w' z off p l := by
  rcases h with h | ⟨b, o, h1, h2, h3⟩
  · exact .inl h
  · refine .inr ⟨b, o, h1, Nat.lt_of_lt_of_le h2 hb.size, fun j hj => ?_⟩
    obtain ⟨s, hs, hz⟩ := h3 j hj
    exact ⟨s, ((bcell hb).1 _ _ h2).trans hs, hz⟩
set_option maxRecDepth 100000 in
set_option maxHeartbeats 1000000 in
theorem small16_at (p : Option Addr) (l c : Nat) (w : World) (h : TxAt w 4 3 p l) (hl : l ≤ 9223372036854775807) :
    Calls Tryz.prog 19 #[.slice p l c] w (SomeBool w) := by
  rcases h with rfl | ⟨b, o, rfl, hb, h⟩
  · go_enter Tryz.func19, Tryz.ntmps19
    go_wp2
    go_loopw [3, 4] (fun u i wr => u = .int .i64 12000 ∧ i = .int .i64 0 ∧ wr = w) (fun _ i _ => 0)
    case atStart => exact ⟨rfl, rfl, rfl⟩
    case round =>
      obtain ⟨rfl, rfl, rfl⟩ := hrel
      go_wp2
      all_goals (go_ret; exact ⟨⟨_, rfl⟩, Below.refl _ _⟩)
  · exact small16r_any b o l c w h hb (by unfold maxLen; omega)
set_option maxRecDepth 100000 in
set_option maxHeartbeats 4000000 in
theorem smallMsgB_any (c0 c1 c2 c3 c4 c5 c6 c7 c8 c9 c12 : Value) (pe pm pp : Option Addr) (le ce lm cm lp cp : Nat) (w : World) (he : TxAt w 4 3 pe le) (hp : TxAt w 2 0 pp lp) (hp1 : TxAt w 2 1 pp lp) (hle : le ≤ 9223372036854775807) (hlm : lm ≤ 9223372036854775807) (hlp : lp ≤ 9223372036854775807) :
    Calls Tryz.prog 6 #[.agg #[c0, c1, c2, c3, c4, c5, c6, c7, c8, c9, .slice pe le ce, .slice pm lm cm, c12, .slice pp lp cp]] w (SomeFew lp lm w) := by
  go_enter Tryz.func6, Tryz.ntmps6
  go_wp2_with (go_at_call 19; refine (small16_at _ _ _ _ (he.below (bel_alloc (Below.refl _ _) _)) hle).mono ?_; rintro e w1 ⟨⟨t, rfl⟩, hb1⟩; obtain ⟨q10, f10⟩ := kept_cell0 hb1 10 (.slice pe le ce) rfl; obtain ⟨q11, f11⟩ := kept_cell0 hb1 11 (.slice pm lm cm) rfl; obtain ⟨q13, f13⟩ := kept_cell0 hb1 13 (.slice pp lp cp) rfl)
  all_goals (try (go_ret; exact ⟨⟨_, rfl, fun h => by first | (cases h; done) | (constructor <;> omega)⟩, by first | exact bel_then (bel_alloc (Below.refl _ _) _) hb1 | exact bel_alloc (Below.refl _ _) _⟩))
  all_goals (try go_loopw [3, 4] (fun u i wr => ∃ (r : Int) (k : Nat), k ≤ lp ∧ u = .int .i64 r ∧ i = .int .i64 (k : Int) ∧ Below w1.heap.size w1 wr) (fun _ i _ => lp - (Go.RowKit.intOf i).toNat))
  case atStart => exact ⟨_, 0, by omega, rfl, rfl, Below.refl _ _⟩
  case round =>
    obtain ⟨r, k, hk, rfl, rfl, hbel⟩ := hrel
    have hz1 := lt_of_below0 hb1
    obtain ⟨Q13, F13⟩ := kept_more0 hbel hz1 ⟨q13, f13⟩
    have hbw : Below w.heap.size w wr := bel_then (bel_then (bel_alloc (Below.refl _ _) _) hb1) hbel
    by_cases hlt : k < lp
    · have hlt' : (k : Int) < (lp : Int) := by omega
      rcases hp.below hbw with h0 | ⟨b, o, rfl, hb, hp⟩
      · omega
      rcases hp1.below hbw with h0 | ⟨b', o', hh, hb', hp1⟩
      · omega
      cases hh
      obtain ⟨s, hs, hsz⟩ := hp k hlt
      obtain ⟨s', hs', hsz'⟩ := hp1 k hlt
      clear q10 f10 q11 f11 q13 f13 hp hp1
      have hk0 : (0 : Int) ≤ (k : Int) := by omega
      have hs0 : wr.cell? ⟨b, o + k * 2, none⟩ = some (.string s) := hs
      clear hs
      go_wp2
      case' _ => go_region_held3 (fun w' => w'.cell? ⟨w.heap.size, 13, none⟩ = some (.slice (some ⟨b, o, none⟩) lp cp) ∧ w'.cell? ⟨b, o + k * 2, none⟩ = some (.string s) ∧ w'.cell? ⟨b, o + k * 2 + 1, none⟩ = some (.string s')) (go_keep) (first | (go_at_call 20; refine (room2d _ _ _ _ _).mono ?_; rintro e w2 ⟨⟨r', rfl⟩, rfl⟩))
      all_goals (try go_wp2)
      case roundEnd => exact ⟨⟨_, k + 1, by omega, rfl, by simp, (bel_alloc hbel _).drew⟩, by simp only [Go.RowKit.intOf]; omega⟩
      all_goals (go_ret; exact ⟨⟨_, rfl, fun _ => by constructor <;> omega⟩, hbw⟩)
    · have hlt' : ¬ (k : Int) < (lp : Int) := by omega
      go_wp2
      all_goals (go_ret; exact ⟨⟨_, rfl, fun _ => by constructor <;> omega⟩, hbw⟩)
end Go.Ev

namespace Go.Ev
open Go.Joins Go.ChangeShapes Go.WideShapes Go.RowKit Go.Deep
theorem flat_len {α : Type} {f : α → List Value} {z : Nat} (hf : ∀ a, (f a).length = z) : ∀ l : List α, (l.flatMap f).length = l.length * z
  | [] => by simp
  | a :: l => by rw [List.flatMap_cons, List.length_append, hf, flat_len hf l, List.length_cons, Nat.succ_mul]; omega
theorem flat_at {α : Type} {f : α → List Value} {z : Nat} (hf : ∀ a, (f a).length = z) : ∀ (l : List α) (k r : Nat) (hk : k < l.length), r < z → (l.flatMap f)[k * z + r]? = (f l[k])[r]?
  | a :: l, 0, r, _, hr => by rw [List.flatMap_cons, Nat.zero_mul, Nat.zero_add, List.getElem?_append_left (by rw [hf]; exact hr)]; rfl
  | a :: l, k + 1, r, h, hr => by
    rw [List.flatMap_cons, List.getElem?_append_right (by rw [hf, Nat.succ_mul]; omega), hf, show (k + 1) * z + r - z = k * z + r by rw [Nat.succ_mul]; omega]
    exact flat_at hf l k r (by simpa using h) hr
section
variable {H : Type} {enc : TypeId × Value → H} {P : Program} {w : World} {base : Nat} {spare : Nat → Bool} {held : Bool}
theorem slice_rows {α : Type} {f : α → List Value} {Q : α → Prop} {t e : TypeId} {z fuel : Nat} {v : Value} {y : DataW H × List MemPlace} (ht : P.underlying t = some (.slice e)) (hC : P.cellsOf e = z) (hpos : 0 < z) (hf : ∀ a, (f a).length = z)
    (he : ∀ n' cs x, cs.length = z → DataW.trod enc P w base spare held n' e cs = some x → ∃ a, cs = f a ∧ Q a) (h : DataW.trod enc P w base spare held fuel t [v] = some y) : ∃ l : List α, Sl w z v l.length (l.flatMap f) ∧ l.length ≤ maxLen ∧ ∀ a ∈ l, Q a := by
  rcases open_slice ht h with ⟨e0, _⟩ | ⟨a, len, cap, m, n, D, Pl, e0, hb, hl, hm, hmm, hx, hi⟩
  · simp only [List.cons.injEq, and_true] at e0
    subst e0
    exact ⟨[], Sl.nil .., Nat.zero_le _, fun o ho => by cases ho⟩
  · simp only [List.cons.injEq, and_true] at e0
    subst e0
    have hlm : len ≤ m := by rw [hmm]; split <;> omega
    rcases Nat.eq_zero_or_pos len with hz0 | hz0
    · subst hz0
      exact ⟨[], Sl.nil .., Nat.zero_le _, fun o ho => by cases ho⟩
    rw [hC] at hi
    have hsp : a.spot = none ∧ a.block < w.heap.size := by
      obtain ⟨cs', q1, q2⟩ := hi 0 (by omega)
      obtain ⟨_, hlen, hat⟩ := World.cells?_some q1
      have q3 := hat 0 (by omega)
      rw [List.getElem?_eq_getElem (by omega)] at q3
      simp [Addr.add] at q3
      unfold World.cell? at q3
      split at q3
      · rename_i c e' fz hq
        split at q3
        · cases q3
        · rename_i hs'
          exact ⟨by simpa using hs', (Array.getElem?_eq_some_iff.1 hq).1⟩
      · cases q3
    obtain ⟨bl, of, sp⟩ := a
    obtain ⟨hsp, hbl⟩ := hsp
    simp only at hsp
    subst hsp
    have hop : ∀ j, j < len → ∃ o : α, Q o ∧ ∀ r u, (f o)[r]? = some u → w.cell? ⟨bl, of + (j * z + r), none⟩ = some u := by
      intro j hj
      obtain ⟨cs', q1, q2⟩ := hi j (by omega)
      obtain ⟨_, hlen, hat⟩ := World.cells?_some q1
      obtain ⟨o, rfl, hq⟩ := he _ _ _ hlen q2
      refine ⟨o, hq, fun r u hu => ?_⟩
      have hr : r < z := by rw [← hlen]; exact (List.getElem?_eq_some_iff.1 hu).1
      have q7 := hat r hr
      rw [hu, addr_add, addr_add, Nat.add_assoc] at q7
      exact q7
    obtain ⟨l, hlen, hl'⟩ : ∃ l : List α, l.length = len ∧ ∀ j (hj : j < l.length), Q l[j] ∧ ∀ r u, (f l[j])[r]? = some u → w.cell? ⟨bl, of + (j * z + r), none⟩ = some u := by
      refine ⟨List.ofFn fun j : Fin len => (hop j.1 j.2).choose, by simp, fun j hj => ?_⟩
      have hj' : j < len := by simpa using hj
      have := (hop j hj').choose_spec
      simpa using this
    subst hlen
    refine ⟨l, ⟨_, _, rfl, hl, flat_len hf l, fun _ => ⟨bl, of, rfl, hbl, fun j u hu => ?_⟩⟩, Nat.le_trans hl hm, fun o ho => ?_⟩
    · have hj : j < l.length * z := by rw [← flat_len hf l]; exact (List.getElem?_eq_some_iff.1 hu).1
      have hd : j / z < l.length := Nat.div_lt_of_lt_mul (by rw [Nat.mul_comm]; exact hj)
      have hr : j % z < z := Nat.mod_lt _ hpos
      have hjj : j / z * z + j % z = j := by rw [Nat.mul_comm]; exact Nat.div_add_mod j z
      rw [← hjj, flat_at hf l _ _ hd hr] at hu
      have := (hl' _ hd).2 _ _ hu
      rwa [hjj] at this
    · obtain ⟨j, hj, rfl⟩ := List.getElem_of_mem ho
      exact (hl' j hj).1
end
end Go.Ev
