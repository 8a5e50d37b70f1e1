/-
  What some functions come to, by plain functions.
-/
import Derived.Test.YtdopajkecfomdaaGreatDoorEvRun
namespace Go.Ev
noncomputable section

def crcBit (x : Nat) : Nat := ifB (Nat.beq (x % 2) 1) (Nat.xor (x / 2) 0xedb88320) (x / 2)

def crcByte (x b : Nat) : Nat := crcBit (crcBit (crcBit (crcBit (crcBit (crcBit (crcBit (crcBit (Nat.xor x b))))))))

def crcBytes : List UInt8 → Nat → Nat
  | [], x => x
  | b :: l, x => natC (crcByte x b.toNat) (crcBytes l 0) fun y => crcBytes l (Nat.succ y)

def crcAll : List AV → Nat → Option Nat
  | [], x => some x
  | .str s :: l, x => gd (Nat.ble (lenL s) 4294967296) (crcAll l (crcBytes s x))
  | _ :: _, _ => none

def crcA (args : List AV) (s : St) : Option (AV × St) :=
  match args with
  | [.sl b off len _] => gd (Nat.ble len 4294967296) (oB (s.row b) fun r => oB (cut r.c off len) fun l => oB (crcAll l 0xffffffff) fun x => some (.int .i64 (Nat.xor x 0xffffffff), s))
  | _ => none

/-- A text without this byte at its end. -/
def trimL (c : Nat) (l : List UInt8) : List UInt8 :=
  List.rec (motive := fun _ => List UInt8) [] (fun b _ ih => listC ih (ifB (Nat.beq b.toNat c) [] [b]) fun x y => b :: x :: y) l

def trimA (args : List AV) (s : St) : Option (AV × St) :=
  match args with
  | [.str l, .int .u8 (.ofNat c)] => gd (Nat.ble (lenL l) 4294967296 && Nat.blt c 256) (some (.str (trimL c l), s))
  | _ => none

/-! ### The keys of a map, collected, or sorted -/

/-- Is a number among these? -/
def memN (f : Nat) (l : List Nat) : Bool := List.rec (motive := fun _ => Bool) false (fun a _ ih => ifB (Nat.beq f a) true ih) l

def intKeysA (es : List (AV × AV × Nat)) : Option (List Int) :=
  List.rec (motive := fun _ => Option (List Int)) (some []) (fun e _ ih => match e.1 with
    | .int .i64 n => oB ih fun l => some (n :: l)
    | _ => none) es

def insSort (x : Int) (l : List Int) : List Int :=
  List.rec (motive := fun _ => List Int) [x] (fun y r ih => ifB (ltA y x) (y :: ih) (x :: y :: r)) l

def sortI (l : List Int) : List Int := List.rec (motive := fun _ => List Int) [] (fun x _ ih => insSort x ih) l

def intCells (l : List Int) : List AV := List.rec (motive := fun _ => List AV) [] (fun x _ ih => .int .i64 x :: ih) l

def wfI : Int → Bool
  | .ofNat n => Nat.blt n 9223372036854775808
  | .negSucc n => Nat.blt n 9223372036854775808

/-- The stamps rise, and are below the clock. -/
def stampsA (clock : Nat) (es : List (AV × AV × Nat)) : Nat → Bool :=
  List.rec (motive := fun _ => Nat → Bool) (fun _ => true) (fun e _ ih lo => Nat.ble lo e.2.2 && (Nat.blt e.2.2 clock && ih (Nat.succ e.2.2))) es

def strictFrom (l : List Int) : Int → Bool :=
  List.rec (motive := fun _ => Int → Bool) (fun _ => true) (fun y _ ih x => ltA x y && ih y) l

def strictA (l : List Int) : Bool := listC l true fun x r => strictFrom r x

/-- The keys of a map, each once. -/
def mapKeysA (q : List (AV × AV × Nat) × Nat) : Option (List Int) :=
  oB (intKeysA q.1) fun l => gd (stampsA q.2 q.1 0 && (allL wfI l && (strictA (sortI l) && Nat.ble (lenL l) 1000000))) (some l)

/-- The keys that an iterator over a map's keys gives. -/
def keysOfA (its : List FuncId) (s : St) (args : List AV) : Option (List Int) :=
  match args with
  | [.fn g [] [.ptr b 0]] => gd (memN g its) (oB (s.row b) fun r => match r.c with
    | [.mp m] => oB (s.mapAt m) mapKeysA
    | [.nilm] => some []
    | _ => none)
  | _ => none

def rowOf (s : St) (e : TypeId) (l : List Int) : Option (AV × St) :=
  listC l (some (.nils, s)) fun x r => oB (s.new (.cells ⟨intCells (x :: r), e, true, 0, false⟩)) fun p => some (.sl p.1 0 (lenL (x :: r)) (.op 1), p.2)

/-! ### slices.Insert ahead of the end -/

def insertA (s : St) (e : TypeId) (z : Nat) (args : List AV) : Option (AV × St) :=
  match args with
  | [.sl b 0 n (.op z'), .int .i64 (.ofNat i), .sl vb vo m (.known _)] => gd (Nat.beq z' z && (Nat.blt i n && (Nat.blt 0 m && (Nat.ble (n + m) 1000000 && !(Nat.beq vb b)))))
    (oB (s.row b) fun r => gd (r.opn && (Nat.beq e r.e && (Nat.beq r.fz 0 && !r.sg))) (oB (cut r.c 0 (n * z)) fun old => oB (s.row vb) fun q => gd (Nat.beq e q.e && (Nat.beq q.fz 0 && !q.sg)) (oB (cut q.c vo (m * z)) fun new =>
      gd (allL AV.one old && allL AV.one new) (grownA (s.put b .gone) e z (n + m) (appL (takeL old (i * z)) (appL new (dropL old (i * z)))) 0 false))))
  | _ => none

/-- A call that was evaluated by itself: the function, its arguments, the number of the next block, the blocks that it starts from; what it yields, the next block's number, and the blocks behind it. -/
structure Memo where
  f : FuncId
  args : List AV
  nx : Nat
  pre : List (Nat × AO)
  v : AV
  nx' : Nat
  post : List (Nat × AO)

def eqCap : Cap → Cap → Bool
  | .known a, .known b => Nat.beq a b
  | .op a, .op b => Nat.beq a b
  | _, _ => false

def eqEntries : List (AV × AV × Nat) → List (AV × AV × Nat) → Bool
  | [], [] => true
  | a :: l, b :: r => eqAV 20 a.1 b.1 && (eqAV 20 a.2.1 b.2.1 && (Nat.beq a.2.2 b.2.2 && eqEntries l r))
  | _, _ => false

/-- Is a block another one? (Sound where it says yes.) -/
def eqAO : AO → AO → Bool
  | .cells a, .cells b => Nat.beq a.e b.e && (a.opn == b.opn && (Nat.beq a.fz b.fz && (a.sg == b.sg && allEq (eqAV 20) a.c b.c)))
  | .map es k, .map es' k' => Nat.beq k k' && eqEntries es es'
  | .chan n b x y, .chan n' b' x' y' => Nat.beq n n' && (Nat.beq x x' && (Nat.beq y y' && allEq (eqAV 20) b b'))
  | .dfr, .dfr => true
  | .done, .done => true
  | _, _ => false

/-- All these blocks are there. -/
def hasAll (s : St) : List (Nat × AO) → Bool
  | [] => true
  | p :: l => (match s.h.get p.1 with | some o => eqAO o p.2 | none => false) && hasAll s l

def fillT : List (Nat × AO) → T AO → T AO
  | [], h => h
  | p :: l, h => fillT l (h.set depth p.1 p.2)

def goneT : List (Nat × AO) → T AO → T AO
  | [], h => h
  | p :: l, h => goneT l (h.set depth p.1 .gone)

def keysOk : List (Nat × AO) → Bool
  | [] => true
  | p :: l => Nat.ble p.1 top && keysOk l

def memoA (m : Memo) (args : List AV) (s : St) : Option (AV × St) :=
  gd (Nat.beq s.nx m.nx && (allEq (eqAV 20) args m.args && hasAll s m.pre)) (some (m.v, ⟨fillT m.post (goneT m.pre s.h), m.nx'⟩))

def memosA (f : FuncId) (args : List AV) (s : St) : List Memo → Option (AV × St)
  | [] => none
  | m :: ms => ifB (Nat.beq f m.f) (match memoA m args s with | some r => some r | none => memosA f args s ms) (memosA f args s ms)

/-- What is asked of the evaluation of such a call. -/
def memoOk (m : Memo) : Option (AV × St) → Bool
  | some p => eqAV 20 p.1 m.v && (Nat.beq p.2.nx m.nx' && (keysOk m.pre && (keysOk m.post && hasAll p.2 m.post)))
  | none => false

def memoSt (m : Memo) : St := ⟨fillT m.pre .nil, m.nx⟩

/-- The numbers of the functions that are not walked: the check sum; strings.trimRightByte; slices.Sorted, slices.Collect at numbers, the iterators over maps with numbers as keys, the numbers' type; slices.Insert at items, their type. -/
structure Ids where
  crc : FuncId
  trim : FuncId
  sorted : FuncId
  collect : FuncId
  its : List FuncId
  intT : TypeId
  ins : Bool
  insert : FuncId
  itemT : TypeId

/-- Nothing, where there is more than one. -/
def atMost1 (l : List Int) : Option (List Int) := listC l (some l) fun _ r => listC r (some l) fun _ _ => none

/-- A function that is not walked wherever it fits (else it is walked). -/
def known (K : Ids) (f : FuncId) (args : List AV) (s : St) : Option (AV × St) :=
  ifB (Nat.beq f K.crc) (crcA args s)
    (ifB (Nat.beq f K.trim) (trimA args s) (ifB (Nat.beq f K.sorted) (oB (keysOfA K.its s args) fun l => rowOf s K.intT (sortI l))
      (ifB (Nat.beq f K.collect) (oB (keysOfA K.its s args) fun l => oB (atMost1 l) fun l => rowOf s K.intT l)
        (ifB (K.ins && Nat.beq f K.insert) (insertA s K.itemT 4 args) none))))

def prims (K : Ids) (l : List FuncId) (ms : List Memo) : Prims := fun f args s =>
  match known K f args s with
  | some r => some r
  | none => ifB (memN f l) (listC args (some (.bool true, s)) fun _ _ => none) (memosA f args s ms)

end
end Go.Ev
