/-
  A deterministic evaluator for closed runs, over the model's own code: definitions alone.
-/
import Derived.RangeFuncIn
import Derived.RangeFuncLeaves
import Derived.OrdersIn
import Derived.Test.YthfdbfbfldmmaaaGreatDoorMEvProg
set_option linter.unusedVariables false
set_option linter.unusedSimpArgs false
set_option linter.unusedVariables false
set_option linter.unusedSimpArgs false
namespace Go.Ev
noncomputable section
inductive T (α : Type) where
  | nil : T α
  | node (v : Option α) (l r : T α) : T α
-- BEGIN ELIM
def oB {α β : Type} (o : Option α) (f : α → Option β) : Option β := Option.rec (motive := fun _ => Option β) none f o
def ifB {α : Type} (b : Bool) (x y : α) : α := Bool.rec (motive := fun _ => α) y x b
def natC {α : Type} (n : Nat) (z : α) (s : Nat → α) : α := Nat.rec (motive := fun _ => α) z (fun k _ => s k) n
def listC {α β : Type} (l : List α) (z : β) (s : α → List α → β) : β := List.rec (motive := fun _ => β) z (fun a l _ => s a l) l
def T.get {α : Type} (t : T α) : Nat → Option α :=
  T.rec (motive := fun _ => Nat → Option α) (fun _ => none)
    (fun v _ _ ihl ihr k => Nat.rec (motive := fun _ => Option α) v (fun k' _ => Bool.rec (motive := fun _ => Option α) (ihr (Nat.div k' 2)) (ihl (Nat.div k' 2)) (Nat.beq (Nat.mod k' 2) 0)) k) t
def T.set {α : Type} (f : Nat) : T α → Nat → α → T α :=
  Nat.rec (motive := fun _ => T α → Nat → α → T α) (fun t _ _ => t)
    (fun _ ih t k a => T.rec (motive := fun _ => T α)
      (Nat.rec (motive := fun _ => T α) (.node (some a) .nil .nil)
        (fun k' _ => Bool.rec (motive := fun _ => T α) (.node none .nil (ih .nil (Nat.div k' 2) a)) (.node none (ih .nil (Nat.div k' 2) a) .nil) (Nat.beq (Nat.mod k' 2) 0)) k)
      (fun v l r _ _ => Nat.rec (motive := fun _ => T α) (.node (some a) l r)
        (fun k' _ => Bool.rec (motive := fun _ => T α) (.node v l (ih r (Nat.div k' 2) a)) (.node v (ih l (Nat.div k' 2) a) r) (Nat.beq (Nat.mod k' 2) 0)) k) t) f
def nth {α : Type} (l : List α) : Nat → Option α :=
  List.rec (motive := fun _ => Nat → Option α) (fun _ => none) (fun a _ ih k => Nat.rec (motive := fun _ => Option α) (some a) (fun k' _ => ih k') k) l
def lenL {α : Type} (l : List α) : Nat := List.rec (motive := fun _ => Nat) 0 (fun _ _ ih => Nat.succ ih) l
def appL {α : Type} (l r : List α) : List α := List.rec (motive := fun _ => List α) r (fun a _ ih => a :: ih) l
def takeL {α : Type} (l : List α) : Nat → List α :=
  List.rec (motive := fun _ => Nat → List α) (fun _ => []) (fun a _ ih n => Nat.rec (motive := fun _ => List α) [] (fun k _ => a :: ih k) n) l
def dropL {α : Type} (l : List α) : Nat → List α :=
  List.rec (motive := fun _ => Nat → List α) (fun _ => []) (fun a l ih n => Nat.rec (motive := fun _ => List α) (a :: l) (fun k _ => ih k) n) l
def allL {α : Type} (p : α → Bool) (l : List α) : Bool := List.rec (motive := fun _ => Bool) true (fun a _ ih => Bool.rec (motive := fun _ => Bool) false ih (p a)) l
def cut0 {α : Type} (l : List α) : Nat → Option (List α) :=
  List.rec (motive := fun _ => Nat → Option (List α)) (fun n => Nat.rec (motive := fun _ => Option (List α)) (some []) (fun _ _ => none) n)
    (fun a _ ih n => Nat.rec (motive := fun _ => Option (List α)) (some []) (fun k _ => oB (ih k) fun r => some (a :: r)) n) l
def cut {α : Type} (l : List α) : Nat → Nat → Option (List α) :=
  List.rec (motive := fun _ => Nat → Nat → Option (List α)) (fun k n => natC k (cut0 [] n) fun _ => none)
    (fun a l ih k n => natC k (cut0 (a :: l) n) fun k' => ih k' n) l
def over0 {α : Type} (ys : List α) : List α → Option (List α) :=
  List.rec (motive := fun _ => List α → Option (List α)) (fun l => some l)
    (fun y _ ih l => listC l none fun _ l' => oB (ih l') fun r => some (y :: r)) ys
def overwrite {α : Type} (l : List α) : Nat → List α → Option (List α) :=
  List.rec (motive := fun _ => Nat → List α → Option (List α)) (fun k ys => natC k (over0 ys []) fun _ => none)
    (fun a l ih k ys => natC k (over0 ys (a :: l)) fun k' => oB (ih k' ys) fun r => some (a :: r)) l
def eqBytes (a : List UInt8) : List UInt8 → Bool :=
  List.rec (motive := fun _ => List UInt8 → Bool) (fun b => listC b true fun _ _ => false)
    (fun x _ ih b => listC b false fun y l' => ifB (Nat.beq x.toNat y.toNat) (ih l') false) a
def lessBytes (a : List UInt8) : List UInt8 → Bool :=
  List.rec (motive := fun _ => List UInt8 → Bool) (fun b => listC b false fun _ _ => true)
    (fun x _ ih b => listC b false fun y l' => ifB (Nat.blt x.toNat y.toNat) true (ifB (Nat.beq x.toNat y.toNat) (ih l') false)) a
-- END ELIM
def gd {α : Type} (b : Bool) (x : Option α) : Option α := ifB b x none
def depth : Nat := 20
def top : Nat := 1000000
inductive Cap where
  | known (n : Nat)
  | op (e : Nat)
inductive AV where
  | bool (b : Bool)
  | int (k : IntKind) (n : Int)
  | str (s : List UInt8)
  | nilp
  | ptr (b off : Nat)
  | nils
  | sl (b off len : Nat) (c : Cap)
  | esl (b off l e : Nat)
  | nilm
  | mp (b : Nat)
  | nilc
  | ch (b : Nat)
  | nilf
  | fn (f : FuncId) (first captured : List AV)
  | yield (b : Nat)
  | nili
  | ifc (t : TypeId) (v : AV)
  | agg (l : List AV)
  | tup (l : List AV)
structure Row where
  c : List AV
  e : TypeId
  opn : Bool
  fz : Nat
  sg : Bool
structure Lp where
  st : LoopState
  pend : Option Code
  tm : T AV
  n : Nat
  params : List Tmp
  assign : Code
  body : Code
  dfr : Nat
structure Itr where
  m : Option Nat
  since : Nat
  seen : List Nat
  last : Nat
inductive AO where
  | cells (r : Row)
  | map (es : List (AV × AV × Nat)) (clock : Nat)
  | chan (cap : Nat) (buf : List AV) (sent received : Nat)
  | loop (l : Lp)
  | iter (i : Itr)
  | dfr
  | done
  | gone
structure St where
  h : T AO
  nx : Nat
def undefA : AV := .tup []
def AV.cells : AV → List AV
  | .agg l => l
  | v => [v]
def AV.one : AV → Bool
  | .agg _ => false
  | .tup _ => false
  | _ => true
def isBool : AV → Option Bool | .bool b => some b | _ => none
def isNat : AV → Option Nat | .int _ (.ofNat n) => some n | _ => none
def isStr : AV → Option (List UInt8) | .str s => some s | _ => none
def isPtr : AV → Option (Nat × Nat) | .ptr b o => some (b, o) | _ => none
def isAgg : AV → Option (List AV) | .agg l => some l | _ => none
def isTup : AV → Option (List AV) | .tup l => some l | _ => none
def isRow : AO → Option Row | .cells r => some r | _ => none
def isMap : AO → Option (List (AV × AV × Nat) × Nat) | .map es c => some (es, c) | _ => none
def isLoop : AO → Option Lp | .loop l => some l | _ => none
def isChan : AO → Option (Nat × List AV × Nat × Nat) | .chan c b s r => some (c, b, s, r) | _ => none
mutual
def absV : Nat → Value → Option AV
  | 0, _ => none
  | _ + 1, .bool b => some (.bool b)
  | _ + 1, .int k n => some (.int k n)
  | _ + 1, .string s => some (.str s.data.toList)
  | _ + 1, .pointer none => some .nilp
  | _ + 1, .slice none 0 0 => some .nils
  | _ + 1, .map none => some .nilm
  | _ + 1, .chan none => some .nilc
  | _ + 1, .nilFunc => some .nilf
  | _ + 1, .nilIface => some .nili
  | d + 1, .iface t v => oB (absV d v) fun a => some (.ifc t a)
  | d + 1, .agg cs => oB (absL d cs.toList) fun l => some (.agg l)
  | d + 1, .tuple cs => oB (absL d cs.toList) fun l => some (.tup l)
  | _ + 1, _ => none
def absL : Nat → List Value → Option (List AV)
  | _, [] => some []
  | 0, _ :: _ => none
  | d + 1, v :: l => oB (absV d v) fun a => oB (absL d l) fun r => some (a :: r)
end
def absDepth : Nat := 100
section
def tmA (tm : T AV) (t : Nat) : AV := (tm.get t).getD undefA
def constA : Value → Option AV
  | .bool b => some (.bool b)
  | .int k n => some (.int k n)
  | .string s => some (.str s.data.toList)
  | v => absV absDepth v
def ev : Operand → T AV → Option AV
  | .tmp t => fun tm => some (tmA tm t)
  | .const v => fun _ => constA v
  | .func f => fun _ => some (.fn f [] [])
  | .global _ => fun _ => none
def evs (l : List Operand) : T AV → Option (List AV) :=
  List.rec (motive := fun _ => T AV → Option (List AV)) (fun _ => some []) (fun x _ ih tm => oB (ev x tm) fun a => oB (ih tm) fun r => some (a :: r)) l
/-! ### Of types -/
def isAggB (t : TypeId) : Option Bool :=
  match PP.underlying t with
  | some (.struct _) => some true
  | some (.array _ _) => some true
  | some _ => some false
  | none => none
def zeroA (t : TypeId) : Option AV := oB (PP.info? t) fun i => oB i.zero fun z => absV absDepth z
def sizeA (t : TypeId) : Option Nat := oB (PP.info? t) fun i => some i.size
def bytesA (t : TypeId) : Option Nat := oB (PP.info? t) fun i => some i.bytes
def uSlice (t : TypeId) : Option TypeId := match PP.underlying t with | some (.slice e) => some e | _ => none
def uStruct (t : TypeId) : Option (List Field) := match PP.underlying t with | some (.struct fs) => some fs.toList | _ => none
def uMap (t : TypeId) : Option (TypeId × TypeId) := match PP.underlying t with | some (.map k e) => some (k, e) | _ => none
def uArr (t : TypeId) : Option (Nat × TypeId) := match PP.underlying t with | some (.array n e) => some (n, e) | _ => none
def uPtr (t : TypeId) : Option TypeId := match PP.underlying t with | some (.pointer e) => some e | _ => none
def uChan (t : TypeId) : Option TypeId := match PP.underlying t with | some (.chan _ e) => some e | _ => none
def uStr (t : TypeId) : Bool := match PP.underlying t with | some .string => true | _ => false
def uInt (t : TypeId) : Option IntKind := match PP.underlying t with | some (.int k) => some k | _ => none
def uByte (t : TypeId) : Bool := match PP.underlying t with | some (.int .u8) => true | _ => false
def uUnsafe (t : TypeId) : Bool := match PP.underlying t with | some .unsafePointer => true | _ => false
def uIface (t : TypeId) : Option Bool := match PP.underlying t with | some (.interface _) => some true | some _ => some false | none => none
def isInt (t : TypeId) : Bool := match PP.underlying t with | some (.int _) => true | _ => false
/-! ### Memory -/
def St.put (s : St) (b : Nat) (o : AO) : St := ⟨s.h.set depth b o, s.nx⟩
def St.row (s : St) (b : Nat) : Option Row := oB (s.h.get b) isRow
def St.mapAt (s : St) (b : Nat) : Option (List (AV × AV × Nat) × Nat) := oB (s.h.get b) isMap
def St.loopAt (s : St) (b : Nat) : Option Lp := oB (s.h.get b) isLoop
def isIter : AO → Option Itr
  | .iter i => some i
  | _ => none
def St.iterAt (s : St) (b : Nat) : Option Itr := oB (s.h.get b) isIter
def St.chanAt (s : St) (b : Nat) : Option (Nat × List AV × Nat × Nat) := oB (s.h.get b) isChan
def St.new (s : St) (o : AO) : Option (Nat × St) := gd (Nat.blt s.nx top) (some (s.nx, ⟨s.h.set depth s.nx o, Nat.succ s.nx⟩))
def newCells (s : St) (c : List AV) (e : TypeId) : Option (Nat × St) := s.new (.cells ⟨c, e, false, 0, false⟩)
def partA (t : TypeId) (l : List AV) (off : Nat) : Option AV :=
  oB (isAggB t) fun g => ifB g (oB (sizeA t) fun n => oB (cut l off n) fun r => some (.agg r)) (nth l off)
def loadA (s : St) (t : TypeId) (a : AV) : Option AV := oB (isPtr a) fun p => oB (s.row p.1) fun r => partA t r.c p.2
def writeA (s : St) (b off : Nat) (vs : List AV) : Option St :=
  listC vs (some s) fun _ _ => oB (s.row b) fun r => gd (Nat.ble r.fz off && allL AV.one vs) (oB (overwrite r.c off vs) fun c => some (s.put b (.cells ⟨c, r.e, r.opn, r.fz, r.sg⟩)))
def storeA (s : St) (t : TypeId) (a v : AV) : Option St :=
  oB (isPtr a) fun p => oB (sizeA t) fun n => gd (Nat.beq (lenL v.cells) n) (writeA s p.1 p.2 v.cells)
def fillA (place : Nat → Option (Nat × Nat)) (ps : List (Nat × AV)) : List AV → Option (List AV) :=
  List.rec (motive := fun _ => List AV → Option (List AV)) (fun cells => some cells)
    (fun p _ ih cells => oB (place p.1) fun os => gd (Nat.beq (lenL p.2.cells) os.2) (oB (overwrite cells os.1 p.2.cells) ih)) ps
def evParts (l : List (Nat × Operand)) : T AV → Option (List (Nat × AV)) :=
  List.rec (motive := fun _ => T AV → Option (List (Nat × AV))) (fun _ => some []) (fun p _ ih tm => oB (ev p.2 tm) fun a => oB (ih tm) fun r => some ((p.1, a) :: r)) l
def places : List Field → Option (List (Nat × Nat))
  | [] => some []
  | f :: fs => oB (sizeA f.type) fun n => oB (places fs) fun r => some ((f.offset, n) :: r)
def buildA (t : TypeId) (parts : List (Nat × AV)) : Option AV :=
  oB (zeroA t) fun z => oB (uStruct t) fun fs => oB (places fs) fun ps => oB (fillA (nth ps) parts z.cells) fun l => some (.agg l)
def repeatL {α : Type} (l : List α) (n : Nat) : List α := Nat.rec (motive := fun _ => List α) [] (fun _ ih => appL l ih) n
def zerosA (e : TypeId) (n : Nat) : Option (List AV) :=
  natC n (some []) fun _ => oB (zeroA e) fun z => oB (sizeA e) fun k => gd (Nat.beq (lenL z.cells) k) (some (repeatL z.cells n))
/-! ### Numbers and texts -/
/-- A number brought into its kind: at once where it is in it. -/
def wrapA (k : IntKind) (n : Int) : Int :=
  match n with
  | .ofNat m => ifB (Nat.blt m (2 ^ (k.bits - 1))) (.ofNat m) (k.wrap (.ofNat m))
  | .negSucc m => k.wrap (.negSucc m)
def ltA : Int → Int → Bool
  | .ofNat a, .ofNat b => Nat.blt a b
  | .ofNat _, .negSucc _ => false
  | .negSucc _, .ofNat _ => true
  | .negSucc a, .negSucc b => Nat.blt b a
def eqA : Int → Int → Bool
  | .ofNat a, .ofNat b => Nat.beq a b
  | .negSucc a, .negSucc b => Nat.beq a b
  | _, _ => false
def bitsA : BinOp → IntKind → Int → Int → Option AV
  | .and => fun k x y => some (.int k (k.wrap (BitVec.ofInt k.bits x &&& BitVec.ofInt k.bits y).toNat))
  | .or => fun k x y => some (.int k (k.wrap (BitVec.ofInt k.bits x ||| BitVec.ofInt k.bits y).toNat))
  | .xor => fun k x y => some (.int k (k.wrap (BitVec.ofInt k.bits x ^^^ BitVec.ofInt k.bits y).toNat))
  | .andNot => fun k x y => some (.int k (k.wrap (BitVec.ofInt k.bits x &&& ~~~ BitVec.ofInt k.bits y).toNat))
  | _ => fun _ _ _ => none
def intOp : BinOp → IntKind → Int → Int → Option AV
  | .add => fun k a b => some (.int k (wrapA k (a + b)))
  | .sub => fun k a b => some (.int k (wrapA k (a - b)))
  | .mul => fun k a b => some (.int k (wrapA k (a * b)))
  | .quo => fun k a b => gd (!(eqA b 0)) (some (.int k (wrapA k (a.tdiv b))))
  | .rem => fun k a b => gd (!(eqA b 0)) (some (.int k (a.tmod b)))
  | .eql => fun _ a b => some (.bool (eqA a b))
  | .neq => fun _ a b => some (.bool !(eqA a b))
  | .lss => fun _ a b => some (.bool (ltA a b))
  | .leq => fun _ a b => some (.bool !(ltA b a))
  | .gtr => fun _ a b => some (.bool (ltA b a))
  | .geq => fun _ a b => some (.bool !(ltA a b))
  | op => bitsA op
def shiftA (op : BinOp) (k : IntKind) (x y : Int) : Option AV :=
  match y with
  | .ofNat m => match op with
    | .shl => some (.int k (wrapA k (x * 2 ^ (min m k.bits))))
    | .shr => some (.int k (x.fdiv (2 ^ (min m k.bits))))
    | _ => none
  | _ => none
def isShift : BinOp → Bool
  | .shl | .shr => true
  | _ => false
def stringOpA (op : BinOp) (x y : List UInt8) : Option AV :=
  match op with
  | .add => gd (Nat.ble (lenL x + lenL y) 4294967296) (some (.str (appL x y)))
  | .eql => some (.bool (eqBytes x y))
  | .neq => some (.bool !(eqBytes x y))
  | .lss => some (.bool (lessBytes x y))
  | .leq => some (.bool (lessBytes x y || eqBytes x y))
  | .gtr => some (.bool !(lessBytes x y || eqBytes x y))
  | .geq => some (.bool !(lessBytes x y))
  | _ => none
def eqFields (eq : TypeId → AV → AV → Option Bool) (xs ys : List AV) : List Field → Option Bool
  | [] => some true
  | f :: fs => if f.name = "_" then none else
    oB (partA f.type xs f.offset) fun x => oB (partA f.type ys f.offset) fun y => oB (eq f.type x y) fun r => ifB r (eqFields eq xs ys fs) (some false)
def equalA : Nat → TypeId → AV → AV → Option Bool
  | 0, _, _, _ => none
  | d + 1, t, x, y =>
    match PP.underlying t, x, y with
    | some .bool, .bool a, .bool b => some (a == b)
    | some (.int _), .int k a, .int k' b => if k = k' then some (eqA a b) else none
    | some .string, .str a, .str b => some (eqBytes a b)
    | some (.pointer _), .nilp, .nilp => some true
    | some (.pointer _), .nilp, .ptr _ _ => some false
    | some (.pointer _), .ptr _ _, .nilp => some false
    | some (.pointer e), .ptr b o, .ptr b' o' => oB (sizeA e) fun n => gd (Nat.beq b b' && Nat.blt 0 n) (some (Nat.beq o o'))
    | some (.slice _), .nils, .nils => some true
    | some (.slice _), .nils, .sl _ _ _ _ => some false
    | some (.slice _), .sl _ _ _ _, .nils => some false
    | some (.slice _), .nils, .esl _ _ _ _ => some false
    | some (.slice _), .esl _ _ _ _, .nils => some false
    | some (.map _ _), .nilm, .nilm => some true
    | some (.map _ _), .nilm, .mp _ => some false
    | some (.map _ _), .mp _, .nilm => some false
    | some (.func _ _ _), .nilf, .nilf => some true
    | some (.func _ _ _), .nilf, .fn _ _ _ => some false
    | some (.func _ _ _), .fn _ _ _, .nilf => some false
    | some (.struct fs), .agg xs, .agg ys => gd (!(PP.stoodInHeld t)) (eqFields (equalA d) xs ys fs.toList)
    | _, _, _ => none
def eqDepth : Nat := 6
def eqOpA (op : BinOp) (t : TypeId) (x y : AV) : Option AV :=
  match op with
  | .eql => gd (!(PP.eqGuardType PP.depth t)) (oB (equalA eqDepth t x y) fun r => some (.bool r))
  | .neq => gd (!(PP.eqGuardType PP.depth t)) (oB (equalA eqDepth t x y) fun r => some (.bool !r))
  | _ => none
def binA (op : BinOp) (t : TypeId) (x y : AV) : Option AV :=
  match x, y with
  | .int k a, .int k' b => ifB (isShift op) (shiftA op k a b) (if k = k' then intOp op k a b else none)
  | .str a, .str b => stringOpA op a b
  | x, y => eqOpA op t x y
def unA (op : UnOp) (x : AV) : Option AV :=
  match op, x with
  | .not, .bool b => some (.bool !b)
  | .neg, .int k n => some (.int k (k.wrap (0 - n)))
  | .xor, .int k n => bitsA .xor k (if k.signed then -1 else k.max) n
  | _, _ => none
def byteOfA : AV → Option UInt8
  | .int .u8 n => some (natC n.toNat (UInt8.ofNat 0) fun k => UInt8.ofNat (Nat.succ k))
  | _ => none
def bytesOf (l : List AV) : Option (List UInt8) :=
  List.rec (motive := fun _ => Option (List UInt8)) (some []) (fun v _ ih => oB (byteOfA v) fun b => oB ih fun r => some (b :: r)) l
def byteCells (l : List UInt8) : List AV :=
  List.rec (motive := fun _ => List AV) [] (fun b _ ih => .int .u8 b.toNat :: ih) l
def bytesAt (s : St) (b off len : Nat) : Option (List UInt8) := oB (s.row b) fun r => oB (cut r.c off len) bytesOf
def convertA (s : St) (src dst : TypeId) (x : AV) : Option (AV × St) :=
  match x with
  | .int _ n => oB (uInt dst) fun k => oB (PP.underlying src) fun _ => some (.int k (wrapA k n), s)
  | .str l => oB (PP.underlying src) fun _ => ifB (uStr dst) (some (.str l, s))
    (oB (uSlice dst) fun e => gd (uByte e) (oB (s.new (.cells ⟨byteCells l, e, true, 0, true⟩)) fun p => some (.sl p.1 0 (lenL l) (.op 1), p.2)))
  | .nils => oB (uSlice src) fun e => gd (uByte e && uStr dst) (some (.str [], s))
  | .sl b off len _ => oB (uSlice src) fun e => gd (uByte e && uStr dst) (oB (bytesAt s b off len) fun r => some (.str r, s))
  | .nilp => gd ((uPtr src).isSome && uUnsafe dst || uUnsafe src && (uPtr dst).isSome) (some (.nilp, s))
  | .ptr b off => oB (s.row b) fun r => ifB (uUnsafe dst)
      (oB (uPtr src) fun t => oB (sizeA t) fun n => gd (Nat.blt 0 n && Nat.blt off (lenL r.c)) (some (.ptr b off, s)))
      (oB (uPtr dst) fun u => oB (sizeA u) fun n => gd (Nat.blt 0 n && !r.opn && uUnsafe src && liesAt PP PP.depth r.e ((lenL r.c) / PP.cellsOf r.e) off u 1) (some (.ptr b off, s)))
  | _ => none
/-! ### Slices -/
def boundA (y : Nat) (v : AV) : Option Nat := oB (isNat v) fun n => gd (Nat.ble n y) (some n)
def optBound (y z : Nat) : Option AV → Option Nat
  | none => some z
  | some v => boundA y v
def boundsA (len cap : Nat) (low high max : Option AV) : Option (Nat × Nat × Nat) :=
  gd (high.isSome || !max.isSome) (oB (optBound cap cap max) fun m => oB (optBound m len high) fun h => oB (optBound h 0 low) fun l => some (l, h, m))
def atLeast (s : St) (b off z : Nat) : Nat :=
  match s.row b with
  | some r => ((lenL r.c) - off) / z
  | none => 0
def sliceKnown (b off l h m n : Nat) : AV := .sl b (ifB (Nat.beq m l) off (off + l * n)) (h - l) (.known (m - l))
def sliceOpen (b off l h z most : Nat) : Option AV :=
  ifB (Nat.blt l most || Nat.beq l 0) (some (.sl b (off + l * z) (h - l) (.op z))) (gd (Nat.beq h l) (some (.esl b off l z)))
def sliceA (s : St) (t : TypeId) (x : AV) (low high max : Option AV) : Option AV :=
  match x with
  | .str l => gd (uStr t && !max.isSome) (oB (boundsA (lenL l) (lenL l) low high none) fun p => some (.str (dropL (takeL l p.2.1) p.1)))
  | .nils => oB (uSlice t) fun e => oB (sizeA e) fun _ => oB (boundsA 0 0 low high max) fun _ => some .nils
  | .sl b off len (.known c) => oB (uSlice t) fun e => oB (sizeA e) fun n => oB (boundsA len c low high max) fun p => some (sliceKnown b off p.1 p.2.1 p.2.2 n)
  | .sl b off len (.op z) => oB (uSlice t) fun e => oB (sizeA e) fun n => gd (Nat.beq n z) (oB (boundsA len (atLeast s b off z) low high max) fun p =>
      ifB max.isSome (some (sliceKnown b off p.1 p.2.1 p.2.2 n)) (sliceOpen b off p.1 p.2.1 z (atLeast s b off z)))
  | .ptr b off => oB (uArr t) fun a => oB (sizeA a.2) fun n => oB (boundsA a.1 a.1 low high max) fun p => some (sliceKnown b off p.1 p.2.1 p.2.2 n)
  | _ => none
def indexA (t : TypeId) (x i : AV) : Option AV :=
  oB (isNat i) fun k => match x with
    | .str l => gd (uStr t) (oB (nth l k) fun b => some (.int .u8 b.toNat))
    | .agg cs => oB (uArr t) fun a => oB (sizeA a.2) fun n => gd (Nat.blt k a.1) (partA a.2 cs (k * n))
    | _ => none
def indexAddrA (t : TypeId) (x i : AV) : Option AV :=
  oB (isNat i) fun k => match x with
    | .sl b off len _ => oB (uSlice t) fun e => oB (sizeA e) fun n => gd (Nat.blt k len) (some (.ptr b (off + k * n)))
    | .ptr b off => oB (uArr t) fun a => oB (sizeA a.2) fun n => gd (Nat.blt k a.1) (some (.ptr b (off + k * n)))
    | _ => none
def fieldAddrA (t : TypeId) (x : AV) (f : Nat) : Option AV :=
  oB (uStruct t) fun fs => oB (isPtr x) fun p => oB (nth fs f) fun fd => oB (sizeA fd.type) fun n => gd (Nat.blt 0 n) (some (.ptr p.1 (p.2 + fd.offset)))
def fieldA (t : TypeId) (x : AV) (f : Nat) : Option AV :=
  oB (uStruct t) fun fs => oB (isAgg x) fun l => oB (nth fs f) fun fd => partA fd.type l fd.offset
/-! ### Maps -/
/-- Is a key another one's like? (Numbers, texts and truths.) -/
def sameKey : TypeDesc → AV → AV → Option Bool
  | .int _, .int k a, .int k' b => if k = k' then some (eqA a b) else none
  | .string, .str a, .str b => some (eqBytes a b)
  | .bool, .bool a, .bool b => some (a == b)
  | _, _, _ => none
def findA (d : TypeDesc) (k : AV) (es : List (AV × AV × Nat)) : Nat → Option (Option (Nat × AV)) :=
  List.rec (motive := fun _ => Nat → Option (Option (Nat × AV))) (fun _ => some none)
    (fun e _ ih i => oB (sameKey d k e.1) fun r => ifB r (some (some (i, e.2.1))) (ih (Nat.succ i))) es
def entriesA (s : St) : AV → Option (List (AV × AV × Nat))
  | .nilm => some []
  | .mp b => oB (s.mapAt b) fun m => some m.1
  | _ => none
def lookA (z : AV) (commaOk : Bool) : Option (Nat × AV) → AV
  | some p => ifB commaOk (.tup [p.2, .bool true]) p.2
  | none => ifB commaOk (.tup [z, .bool false]) z
def lookupA (s : St) (t : TypeId) (x k : AV) (commaOk : Bool) : Option AV :=
  oB (uMap t) fun ke => oB (PP.underlying ke.1) fun d => oB (zeroA ke.2) fun z => oB (entriesA s x) fun es => oB (sameKey d k k) fun _ => oB (findA d k es 0) fun r => some (lookA z commaOk r)
def setNth {α : Type} : List α → Nat → α → List α
  | [], _, _ => []
  | _ :: l, 0, x => x :: l
  | a :: l, k + 1, x => a :: setNth l k x
def dropNth {α : Type} : List α → Nat → List α
  | [], _ => []
  | _ :: l, 0 => l
  | a :: l, k + 1 => a :: dropNth l k
def updA (s : St) (b : Nat) (es : List (AV × AV × Nat)) (clock : Nat) (k v : AV) : Option (Nat × AV) → Option St
  | some p => oB (nth es p.1) fun e => some (s.put b (.map (setNth es p.1 (k, v, e.2.2)) clock))
  | none => some (s.put b (.map (es ++ [(k, v, clock)]) (clock + 1)))
def mapUpdateA (s : St) (t : TypeId) (x k v : AV) : Option St :=
  oB (uMap t) fun ke => oB (PP.underlying ke.1) fun d => match x with
    | .mp b => oB (s.mapAt b) fun m => oB (sameKey d k k) fun _ => oB (findA d k m.1 0) fun r => updA s b m.1 m.2 k v r
    | _ => none
def delA (s : St) (b : Nat) (es : List (AV × AV × Nat)) (clock : Nat) : Option (Nat × AV) → St
  | some p => s.put b (.map (dropNth es p.1) clock)
  | none => s
def deleteA (s : St) (t : TypeId) (x k : AV) : Option St :=
  oB (uMap t) fun ke => oB (PP.underlying ke.1) fun d => oB (sameKey d k k) fun _ => match x with
    | .mp b => oB (s.mapAt b) fun m => oB (findA d k m.1 0) fun r => some (delA s b m.1 m.2 r)
    | .nilm => some s
    | _ => none
/-! ### append, copy -/
/-- The first cells of what is appended or copied: so many elements. -/
def srcCells (s : St) (size n : Nat) : AV → Option (List AV)
  | .nils => natC n (some []) fun _ => none
  | .esl _ _ _ _ => natC n (some []) fun _ => none
  | .sl b off _ _ => natC (n * size) (some []) fun _ => oB (s.row b) fun r => cut r.c off (n * size)
  | .str l => gd (Nat.beq size 1) (some (byteCells (takeL l n)))
  | _ => none
def srcLen : AV → Option Nat
  | .nils => some 0
  | .esl _ _ _ _ => some 0
  | .sl _ _ n _ => some n
  | .str l => some (lenL l)
  | _ => none
def grownA (s : St) (e : TypeId) (z len : Nat) (c : List AV) (fz : Nat) (sg : Bool) : Option (AV × St) :=
  oB (s.new (.cells ⟨c, e, true, fz, sg⟩)) fun p => some (.sl p.1 0 len (.op z), p.2)
def fitsA (e : TypeId) (z by_ len : Nat) : Bool := Nat.blt 0 by_ && Nat.ble ((2 * len + 768) * by_) 281474976710656 &&
  match zeroA e with
  | some v => Nat.beq (lenL v.cells) z
  | none => false
def appKnown (s : St) (e : TypeId) (z by_ b off len c n : Nat) (new : List AV) : Option (AV × St) :=
  ifB (Nat.ble (len + n) c)
    (oB (writeA s b (off + len * z) new) fun s' => some (.sl b off (len + n) (.known c), s'))
    (gd (fitsA e z by_ (len + n)) (oB (srcCells s z len (.sl b off len (.known c))) fun old => grownA s e z (len + n) (appL old new) 0 false))
def appOpen (s : St) (e : TypeId) (z by_ b len z' n : Nat) (new : List AV) : Option (AV × St) :=
  gd (Nat.beq z' z) (ifB (Nat.ble (len + n) (atLeast s b 0 z))
    (oB (writeA s b (len * z) new) fun s' => some (.sl b 0 (len + n) (.op z), s'))
    (oB (s.row b) fun r => gd (r.opn && Nat.beq e r.e && fitsA e z by_ (len + n) && Nat.ble r.fz (len * z) && allL AV.one new)
      (oB (cut r.c 0 (len * z)) fun old => grownA (s.put b .gone) e z (len + n) (appL old new) r.fz r.sg)))
def appTo (s : St) (e : TypeId) (z by_ n : Nat) (new : List AV) (x : AV) : Option (AV × St) :=
  match x with
  | .nils => natC n (some (.nils, s)) fun _ => gd (fitsA e z by_ n) (grownA s e z n new 0 false)
  | .sl b off len (.known c) => appKnown s e z by_ b off len c n new
  | .sl b 0 len (.op z') => appOpen s e z by_ b len z' n new
  | _ => none
def appendA (s : St) (t xt : TypeId) (x y : AV) : Option (AV × St) :=
  oB (uSlice t) fun e => oB (PP.underlying xt) fun _ => gd (!(isInt xt)) (oB (sizeA e) fun z => gd (Nat.blt 0 z) (oB (bytesA e) fun by_ => oB (srcLen y) fun n => oB (srcCells s z n y) fun new =>
    appTo s e z by_ n new x))
def appZerosA (s : St) (t xt : TypeId) (x y : AV) : Option (AV × St) :=
  oB (uSlice t) fun e => gd (isInt xt) (match x, y with
    | .nils, .int .i64 (.ofNat n) => oB (sizeA e) fun z => oB (bytesA e) fun by_ => gd (Nat.blt 0 z && (Nat.blt 0 n && (Nat.ble n 1000000 && fitsA e z by_ n))) (oB (zerosA e n) fun new => grownA s e z n new 0 false)
    | _, _ => none)
def copyA (s : St) (t : TypeId) (x y : AV) : Option (AV × St) :=
  oB (uSlice t) fun e => oB (sizeA e) fun z => oB (srcLen y) fun n => match x with
    | .nils => oB (srcCells s z 0 y) fun _ => some (.int .i64 0, s)
    | .sl b off len _ => oB (srcCells s z (Nat.min n len) y) fun new => oB (writeA s b off new) fun s' => some (.int .i64 (Nat.min n len), s')
    | _ => none
def lenA (s : St) (t : TypeId) (x : AV) : Option AV :=
  match x with
  | .str l => gd (uStr t) (some (.int .i64 (lenL l)))
  | .nils => oB (uSlice t) fun _ => some (.int .i64 0)
  | .sl _ _ n _ => oB (uSlice t) fun _ => some (.int .i64 n)
  | .esl _ _ _ _ => oB (uSlice t) fun _ => some (.int .i64 0)
  | .nilm => oB (uMap t) fun _ => some (.int .i64 0)
  | .mp b => oB (uMap t) fun _ => oB (s.mapAt b) fun m => some (.int .i64 (lenL m.1))
  | .nilc => oB (uChan t) fun _ => some (.int .i64 0)
  | .ch b => oB (uChan t) fun _ => oB (s.chanAt b) fun c => some (.int .i64 (lenL c.2.1))
  | .agg _ => oB (uArr t) fun a => some (.int .i64 a.1)
  | _ => none
def capA (s : St) (t : TypeId) (x : AV) : Option AV :=
  match x with
  | .nils => oB (uSlice t) fun _ => some (.int .i64 0)
  | .sl _ _ _ (.known c) => oB (uSlice t) fun _ => some (.int .i64 c)
  | .nilc => oB (uChan t) fun _ => some (.int .i64 0)
  | .ch b => oB (uChan t) fun _ => oB (s.chanAt b) fun c => some (.int .i64 c.1)
  | _ => none
def minL (x : Int) : List AV → Option Int
  | [] => some x
  | .int _ y :: l => minL (ifB (ltA y x) y x) l
  | _ :: _ => none
def maxL (x : Int) : List AV → Option Int
  | [] => some x
  | .int _ y :: l => maxL (ifB (ltA x y) y x) l
  | _ :: _ => none
inductive AN where
  | val (v : AV) (s : St)
  | enter (f : FuncId) (args : List AV) (s : St)
  | round (b : Nat) (args : List AV) (s : St)
def valA (s : St) (o : Option AV) : Option AN := oB o fun v => some (.val v s)
def valS (o : Option (AV × St)) : Option AN := oB o fun p => some (.val p.1 p.2)
def doneA (o : Option St) : Option AN := oB o fun s => some (.val undefA s)
def allEq (eq : AV → AV → Bool) : List AV → List AV → Bool
  | [], [] => true
  | a :: l, b :: r => eq a b && allEq eq l r
  | _, _ => false
def eqAV : Nat → AV → AV → Bool
  | 0, _, _ => false
  | _ + 1, .bool a, .bool b => a == b
  | _ + 1, .int k a, .int k' b => decide (k = k') && eqA a b
  | _ + 1, .str a, .str b => eqBytes a b
  | _ + 1, .nilp, .nilp => true
  | _ + 1, .ptr b o, .ptr b' o' => Nat.beq b b' && Nat.beq o o'
  | _ + 1, .nils, .nils => true
  | _ + 1, .sl b o l (.known c), .sl b' o' l' (.known c') => Nat.beq b b' && Nat.beq o o' && Nat.beq l l' && Nat.beq c c'
  | _ + 1, .sl b o l (.op c), .sl b' o' l' (.op c') => Nat.beq b b' && Nat.beq o o' && Nat.beq l l' && Nat.beq c c'
  | _ + 1, .esl b o l c, .esl b' o' l' c' => Nat.beq b b' && Nat.beq o o' && Nat.beq l l' && Nat.beq c c'
  | _ + 1, .nilm, .nilm => true
  | _ + 1, .mp b, .mp b' => Nat.beq b b'
  | _ + 1, .nilc, .nilc => true
  | _ + 1, .ch b, .ch b' => Nat.beq b b'
  | _ + 1, .nilf, .nilf => true
  | d + 1, .fn f a b, .fn f' a' b' => Nat.beq f f' && allEq (eqAV d) a a' && allEq (eqAV d) b b'
  | _ + 1, .yield b, .yield b' => Nat.beq b b'
  | _ + 1, .nili, .nili => true
  | d + 1, .ifc t v, .ifc t' v' => Nat.beq t t' && eqAV d v v'
  | d + 1, .agg l, .agg l' => allEq (eqAV d) l l'
  | d + 1, .tup l, .tup l' => allEq (eqAV d) l l'
  | _ + 1, _, _ => false
def unsafeStringA (s : St) (pt : TypeId) (x : AV) (k : Nat) : Option (AV × St) :=
  match x with
    | .nilp => natC k (some (.str [], s)) fun _ => none
    | .ptr b off => natC k (some (.str [], s)) fun _ => oB (uPtr pt) fun e => oB (s.row b) fun r =>
        gd (Nat.beq off 0 && Nat.beq e r.e && Nat.beq (PP.cellsOf e) 1 && Nat.ble k 4294967296 && !r.sg) (oB (cut r.c 0 k) fun l => oB (bytesOf l) fun bs => gd (allEq (eqAV 1) (byteCells bs) l) (some (.str bs, s.put b (.cells ⟨r.c, r.e, r.opn, Nat.max r.fz k, false⟩))))
    | _ => none
def sliceDataA (s : St) : AV → Option AV
  | .nils => some .nilp
  | .sl b off _ (.known c) => natC c none fun _ => some (.ptr b off)
  | .sl b off _ (.op z) => natC (atLeast s b off z) none fun _ => some (.ptr b off)
  | _ => none
def clearA (s : St) (t : TypeId) (x : AV) : Option St :=
  match x with
  | .nils => oB (PP.underlying t) fun _ => some s
  | .esl _ _ _ _ => oB (PP.underlying t) fun _ => some s
  | .nilm => oB (PP.underlying t) fun _ => some s
  | .sl b off n _ => natC n (oB (PP.underlying t) fun _ => some s) fun _ => oB (uSlice t) fun e => oB (zerosA e n) fun zs => writeA s b off zs
  | .mp b => oB (PP.underlying t) fun _ => oB (s.mapAt b) fun m => some (s.put b (.map [] m.2))
  | _ => none
def builtinA (s : St) (b : Builtin) (ts : List TypeId) (args : List AV) : Option AN :=
  match b, ts, args with
  | .append, [t, u], [x, y] => valS (ifB (isInt u) (appZerosA s t u x y) (appendA s t u x y))
  | .len, [t], [x] => valA s (lenA s t x)
  | .cap, [t], [x] => valA s (capA s t x)
  | .copy, t :: _, [x, y] => valS (copyA s t x y)
  | .min, _, .int k x :: l => oB (minL x l) fun n => some (.val (.int k n) s)
  | .max, _, .int k x :: l => oB (maxL x l) fun n => some (.val (.int k n) s)
  | .clear, [t], [x] => doneA (clearA s t x)
  | .delete, t :: _, [x, y] => doneA (deleteA s t x y)
  | .unsafeSliceData, _, [x] => valA s (sliceDataA s x)
  | .unsafeString, [t, _], [x, .int .i64 (.ofNat k)] => valS (unsafeStringA s t x k)
  | _, _, _ => none
def makeNoZeroA (s : St) (fn : Func) (args : List AV) : Option (AV × St) :=
  match args with
  | [.int .i64 (.ofNat n)] => oB fn.resultTypes[0]? fun t => oB (uSlice t) fun e => gd (Nat.ble n 4294967296) (grownA s e 1 n [] 0 false)
  | _ => none
def externA (s : St) (fn : Func) (args : List AV) : Option AN :=
  if fn.name = "internal/abi.NoEscape" then
    match args with
    | [x] => some (.val x s)
    | _ => none
  else if fn.name = "internal/bytealg.MakeNoZero" then valS (makeNoZeroA s fn args)
  else none
def callFuncA (s : St) (f : FuncId) (args : List AV) : Option AN :=
  oB PP.funcs[f]? fun fn => ifB fn.body.isSome (some (.enter f args s)) (externA s fn args)
def methodA (s : St) (t : TypeId) (v : AV) (name : String) : Option (FuncId × AV) :=
  oB (PP.info? t) fun i => oB (i.methods.find? (·.name == name)) fun m => gd m.path.isEmpty (oB m.func fun fp => match PP.underlying t with
    | some (.pointer e) => ifB fp.2 (some (fp.1, v)) (oB (isPtr v) fun _ => oB (loadA s e v) fun x => some (fp.1, x))
    | some _ => gd (!fp.2) (some (fp.1, v))
    | none => none)
def callValue (s : St) (args : List AV) : AV → Option AN
  | .fn g first captured => callFuncA s g (appL (appL first args) captured)
  | .yield b => some (.round b args s)
  | _ => none
def callMethodA (s : St) (args : List AV) (name : String) : AV → Option AN
  | .ifc t v => oB (methodA s t v name) fun fx => callFuncA s fx.1 (fx.2 :: args)
  | _ => none
def callA (s : St) (tm : T AV) (c : Call) : Option AN :=
  oB (evs c.args.toList tm) fun args => match c.callee with
    | .builtin b => builtinA s b c.argTypes.toList args
    | .invoke r name => oB (ev r tm) (callMethodA s args name)
    | .value f => oB (ev f tm) (callValue s args)
def assertTo (z : Option AV) (hit commaOk : Bool) (v : AV) : Option AV :=
  ifB hit (some (ifB commaOk (.tup [v, .bool true]) v)) (gd commaOk (oB z fun z => some (.tup [z, .bool false])))
def typeAssertA (x : AV) (asserted : TypeId) (commaOk : Bool) : Option AV :=
  oB (uIface asserted) fun g => gd (!g) (match x with
    | .ifc t v => assertTo (zeroA asserted) (Nat.beq t asserted) commaOk v
    | .nili => assertTo (zeroA asserted) false commaOk undefA
    | _ => none)
def evOpt : Option Operand → T AV → Option (Option AV)
  | none => fun _ => some none
  | some x => fun tm => oB (ev x tm) fun a => some (some a)
def nilCheckA : AV → Option AV
  | .ptr b o => some (.ptr b o)
  | .fn f a b => some (.fn f a b)
  | .ifc t v => some (.ifc t v)
  | .yield b => some (.yield b)
  | _ => none
def pickA (c a b : AV) : Option AV := oB (isBool c) fun g => some (ifB g a b)
def newPtr (o : Option (Nat × St)) : Option AN := oB o fun p => some (.val (.ptr p.1 0) p.2)
def buildSliceA (s : St) (t : TypeId) (len : Nat) (ps : List (Nat × AV)) : Option AN :=
  oB (uSlice t) fun e => oB (sizeA e) fun z => gd (Nat.blt 0 z && Nat.ble (len * z) 16777216) (oB (zerosA e len) fun zs => oB (fillA (fun i => some (i * z, z)) ps zs) fun l =>
    oB (newCells s l e) fun p => some (.val (.sl p.1 0 len (.known len)) p.2))
def makeSliceA (s : St) (t : TypeId) (l c : AV) : Option AN :=
  oB (uSlice t) fun e => oB (isNat l) fun a => oB (isNat c) fun k => oB (sizeA e) fun z => oB (bytesA e) fun by_ =>
    gd (Nat.blt 0 z && (Nat.ble a k && (Nat.ble (by_ * k) 4294967296 && Nat.ble k 4294967296))) (oB (zerosA e k) fun zs => oB (newCells s zs e) fun p => some (.val (.sl p.1 0 a (.known k)) p.2))
def makeIfaceA (t : TypeId) (v : AV) : Option AV := oB (uIface t) fun g => gd (!g) (some (.ifc t v))
def newIter (s : St) (m : Option Nat) (c : Nat) : Option AN := oB (s.new (.iter ⟨m, c, [], c⟩)) fun p => some (.val (.ptr p.1 0) p.2)
def rangeMapA (s : St) (t : TypeId) (x : AV) : Option AN :=
  oB (uMap t) fun _ => match x with
    | .nilm => newIter s none 0
    | .mp b => oB (s.mapAt b) fun m => newIter s (some b) m.2
    | _ => none
def hasNat (f : Nat) (l : List Nat) : Bool := List.rec (motive := fun _ => Bool) false (fun a _ ih => ifB (Nat.beq f a) true ih) l
def leftA (seen : List Nat) (es : List (AV × AV × Nat)) : List (AV × AV × Nat) :=
  List.rec (motive := fun _ => List (AV × AV × Nat)) [] (fun e _ ih => ifB (hasNat e.2.2 seen) ih (e :: ih)) es
def anyBelow (last : Nat) (es : List (AV × AV × Nat)) : Bool := List.rec (motive := fun _ => Bool) false (fun e _ ih => ifB (Nat.blt e.2.2 last) true ih) es
def nextOk (seen : List Nat) (last : Nat) (es : List (AV × AV × Nat)) : Bool := listC seen true fun _ _ => listC es true fun _ _ => anyBelow last es
def nextOf (s : St) (r : Nat) (i : Itr) : Option AN :=
  match i.m with
  | none => some (.val (.tup [.bool false]) s)
  | some b => oB (s.mapAt b) fun m => gd (nextOk i.seen i.last m.1) (listC (leftA i.seen m.1) (some (.val (.tup [.bool false]) s)) fun e rest =>
      listC rest (gd (Nat.blt e.2.2 i.since) (some (.val (.tup [.bool true, e.1, e.2.1]) (s.put r (.iter ⟨some b, i.since, appL i.seen [e.2.2], m.2⟩))))) fun _ _ => none)
def nextMapA (s : St) (it : AV) : Option AN :=
  oB (isPtr it) fun p => natC p.2 (oB (s.iterAt p.1) (nextOf s p.1)) fun _ => none
def newMapA (s : St) : Option AN := oB (s.new (.map [] 0)) fun p => some (.val (.mp p.1) p.2)
def makeChanA (s : St) (t : TypeId) (c : AV) : Option AN :=
  oB (uChan t) fun e => oB (isNat c) fun n => oB (bytesA e) fun by_ => gd (Nat.ble (by_ * n) 4294967296 && Nat.ble n 4294967296) (oB (s.new (.chan n [] 0 0)) fun p => some (.val (.ch p.1) p.2))
def makeFuncA : Fn → List Operand → List Operand → St → T AV → Option AN
  | .func f => fun first captured s tm => oB (evs first tm) fun a => oB (evs captured tm) fun b => some (.val (.fn f a b) s)
  | _ => fun _ _ _ _ => none
def opD : Op → St → T AV → Option AN
  | .move x => fun s tm => valA s (ev x tm)
  | .assign x => fun s tm => valA s (ev x tm)
  | .pick c a b => fun s tm => oB (ev c tm) fun c => oB (ev a tm) fun a => oB (ev b tm) fun b => valA s (pickA c a b)
  | .alloc e => fun s _ => oB (zeroA e) fun z => newPtr (newCells s z.cells e)
  | .box e x => fun s tm => oB (ev x tm) fun v => newPtr (newCells s v.cells e)
  | .build t parts => fun s tm => oB (evParts parts.toList tm) fun ps => valA s (buildA t ps)
  | .buildSlice t len parts => fun s tm => oB (evParts parts.toList tm) fun ps => buildSliceA s t len ps
  | .load t a => fun s tm => oB (ev a tm) fun v => valA s (loadA s t v)
  | .store t a x => fun s tm => oB (ev a tm) fun p => oB (ev x tm) fun v => doneA (storeA s t p v)
  | .nilCheck x => fun s tm => oB (ev x tm) fun v => valA s (nilCheckA v)
  | .binOp op t x y _ => fun s tm => oB (ev x tm) fun a => oB (ev y tm) fun b => valA s (binA op t a b)
  | .unOp op _ x => fun s tm => oB (ev x tm) fun a => valA s (unA op a)
  | .convert src dst x => fun s tm => oB (ev x tm) fun a => valS (convertA s src dst a)
  | .makeInterface t x => fun s tm => oB (ev x tm) fun v => valA s (makeIfaceA t v)
  | .makeFunc f first captured => makeFuncA f first.toList captured.toList
  | .makeMap _ none => fun s _ => newMapA s
  | .makeChan t c => fun s tm => oB (ev c tm) fun v => makeChanA s t v
  | .makeSlice t l c => fun s tm => oB (ev l tm) fun a => oB (ev c tm) fun k => makeSliceA s t a k
  | .slice t x lo hi mx => fun s tm => oB (ev x tm) fun v => oB (evOpt lo tm) fun a => oB (evOpt hi tm) fun b => oB (evOpt mx tm) fun c => valA s (sliceA s t v a b c)
  | .fieldAddr t x f => fun s tm => oB (ev x tm) fun v => valA s (fieldAddrA t v f)
  | .field t x f => fun s tm => oB (ev x tm) fun v => valA s (fieldA t v f)
  | .indexAddr t x i => fun s tm => oB (ev x tm) fun v => oB (ev i tm) fun k => valA s (indexAddrA t v k)
  | .index t x i => fun s tm => oB (ev x tm) fun v => oB (ev i tm) fun k => valA s (indexA t v k)
  | .lookup t x i ok => fun s tm => oB (ev x tm) fun v => oB (ev i tm) fun k => valA s (lookupA s t v k ok)
  | .range t x => fun s tm => oB (ev x tm) fun v => rangeMapA s t v
  | .next it false => fun s tm => oB (ev it tm) fun v => nextMapA s v
  | .mapUpdate t m k v => fun s tm => oB (ev m tm) fun a => oB (ev k tm) fun b => oB (ev v tm) fun c => doneA (mapUpdateA s t a b c)
  | .typeAssert x _ t ok => fun s tm => oB (ev x tm) fun v => valA s (typeAssertA v t ok)
  | .extract x i => fun s tm => oB (ev x tm) fun v => valA s (oB (isTup v) fun l => nth l i)
  | .call c => fun s tm => callA s tm c
  | _ => fun _ _ => none
def opA (s : St) (tm : T AV) (o : Oper) : Option AN := opD o.op s tm
end
end
end Go.Ev
