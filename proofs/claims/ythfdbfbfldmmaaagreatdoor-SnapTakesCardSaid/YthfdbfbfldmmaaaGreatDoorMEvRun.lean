/-
  The evaluator's control: code, regions, calls, rounds.
-/
import Derived.Test.YthfdbfbfldmmaaaGreatDoorMEvDefs
set_option linter.unusedVariables false
set_option linter.unusedSimpArgs false
set_option linter.unusedVariables false
set_option linter.unusedSimpArgs false
namespace Go.Ev
noncomputable section
abbrev Prims := FuncId → List AV → St → Option (AV × St)
inductive AX where
  | normal
  | exit (id : Nat)
  | ret
inductive Dfr where
  | mark (b : Nat)
  | call (f : FuncId) (args : List AV)
structure Out where
  x : AX
  tm : T AV
  df : List Dfr
  s : St
section
def reads : Op → Bool
  | .load _ _ => true
  | .lookup _ _ _ _ => true
  | .convert _ _ _ => true
  | .slice .. => true
  | .call { callee := .builtin .len, .. } => true
  | .call { callee := .builtin .cap, .. } => true
  | .call { callee := .builtin .unsafeSliceData, .. } => true
  | _ => false
def still : Op → Bool
  | .move _ | .assign _ | .pick .. | .build .. | .nilCheck _ | .binOp .. | .unOp .. | .makeInterface .. | .makeFunc .. | .fieldAddr .. | .field ..
  | .indexAddr .. | .index .. | .typeAssert .. | .extract .. => true
  | .call { callee := .builtin .min, .. } => true
  | .call { callee := .builtin .max, .. } => true
  | _ => false
def makes : Op → Bool
  | .alloc _ | .box .. | .buildSlice .. | .makeSlice .. | .makeMap .. | .makeChan .. => true
  | _ => false
def bit (m i : Nat) : Bool := Nat.beq ((m / 2 ^ i) % 2) 1
def maskOf (ms : List Nat) : List Edge → Nat
  | [] => 0
  | e :: es => match Region.binds .any e with
    | true => (2 ^ e.on ||| (nth ms e.on).getD 0) ||| maskOf ms es
    | false => maskOf ms es
def masks : List Oper → List Nat → List Nat
  | [], ms => ms
  | o :: os, ms => masks os (ms ++ [maskOf ms o.after.toList])
structure It where
  i : Nat
  o : Oper
  m : Nat
def items : List Oper → List Nat → Nat → List It
  | o :: os, m :: ms, i => ⟨i, o, m⟩ :: items os ms (i + 1)
  | _, _, _ => []
def loud (o : Op) : Bool := !(still o || (reads o || makes o))
def among (m done : Nat) : List It → List It
  | [] => []
  | t :: l => ifB (bit m t.i && !(bit done t.i)) (t :: among m done l) (among m done l)
def others (done : Nat) : List It → List It
  | [] => []
  | t :: l => ifB (bit done t.i) (others done l) (t :: others done l)
def orderA (all : List It) : List It → Nat → List It
  | [], done => others done all
  | t :: l, done => ifB (loud t.o.op && !(bit done t.i)) (appL (among t.m done all) (t :: orderA all l (done ||| t.m ||| 2 ^ t.i))) (orderA all l done)
structure Ef where
  i : Nat
  s : St
structure Pd where
  b : Nat
  o : AO
structure Dr where
  tm : T AV
  s : St
  dn : List Nat
  efs : List Ef
  pds : List Pd
def again (s : St) (tm : T AV) (o : Oper) (v : AV) : Bool :=
  match opA s tm o with
  | some (.val v' s') => Nat.beq s'.nx s.nx && eqAV 20 v' v
  | _ => false
def publish : List Pd → St → St
  | [], s => s
  | p :: ps, s => publish ps (s.put p.b p.o)
def readsBack (m : Nat) (tm : T AV) (o : Oper) (v : AV) : List Ef → Bool
  | [] => true
  | e :: es => (bit m e.i || again e.s tm o v) && readsBack m tm o v es
def names (ops : List Oper) (o : Oper) : List Tmp :=
  (o.op.operands.toList.filterMap fun | .tmp t => some t | _ => none) ++
  (match o.guard with
   | some (j, _) => match nth ops j with
     | some oj => oj.dst.toList
     | none => []
   | none => []) ++ o.dst.toList
def memNat (t : Nat) : List Nat → Bool
  | [] => false
  | u :: l => Nat.beq t u || memNat t l
def slotsOkAt (ops : List Oper) (o : Oper) (ns : List Tmp) (m : Nat) : List Oper → Nat → Bool
  | [], _ => true
  | p :: ps, i => (bit m i || ((match p.dst with | some d => !(memNat d ns) | none => true) && (match o.dst with | some d => !(memNat d (names ops p)) | none => true))) && slotsOkAt ops o ns m ps (i + 1)
def slotsOk (ops : List Oper) : List Oper → List Nat → Nat → Bool
  | o :: os, m :: ms, j => slotsOkAt ops o (names ops o) m (ops.take j) 0 && slotsOk ops os ms (j + 1)
  | _, _, _ => true
def edgesOk : List Oper → Nat → Bool
  | [], _ => true
  | o :: os, i => o.after.toList.all (fun e => !(Region.binds .any e) || Nat.blt e.on i) && edgesOk os (i + 1)
def orderOf (ops : List Oper) : List It := orderA (items ops (masks ops []) 0) (items ops (masks ops []) 0) 0
def onceA : List It → List Nat → Bool
  | [], _ => true
  | t :: l, seen => !(memNat t.i seen) && onceA l (t.i :: seen)
def fullA (l : List It) : Nat → Bool
  | 0 => true
  | k + 1 => memNat k (l.map (·.i)) && fullA l k
def fitA (ops : List Oper) (ms : List Nat) : List It → Nat → Bool
  | [], _ => true
  | t :: l, done => (match nth ms t.i with | some m => Nat.beq m t.m | none => false) && Nat.beq (t.m ||| done) done && fitA ops ms l (done ||| 2 ^ t.i)
def regionOk (ops : List Oper) : Bool := edgesOk ops 0 && (slotsOk ops ops (masks ops []) 0 && (onceA (orderOf ops) [] && (fullA (orderOf ops) (lenL ops) && fitA ops (masks ops []) (orderOf ops) 0)))
def wantedA (ops : List Oper) (tm : T AV) (g : Option (Nat × Bool)) : Bool :=
  match g with
  | none => true
  | some p => match nth ops p.1 with
    | some oj => match oj.dst with
      | some d => match tmA tm d with
        | .bool b => b == p.2
        | _ => false
      | none => false
    | none => false
def putA (n : Nat) (tm : T AV) (d : Option Tmp) (v : AV) : Option (T AV) :=
  match d with
  | none => some tm
  | some t => gd (Nat.blt t n) (some (tm.set depth t v))
def resultA (s : St) (tm : T AV) : ResultVar → Option AV
  | .tmp t => some (tmA tm t)
  | .cell a t => loadA s t (tmA tm a)
def resultsA (s : St) (tm : T AV) : List ResultVar → Option (List AV)
  | [] => some []
  | r :: l => oB (resultA s tm r) fun v => oB (resultsA s tm l) fun vs => some (v :: vs)
def oneOrTuple : List AV → AV
  | [v] => v
  | l => .tup l
def argsT : List AV → Nat → T AV → T AV
  | [], _, t => t
  | a :: l, k, t => argsT l (k + 1) (t.set depth k a)
def putParams (n : Nat) : List Tmp → List AV → T AV → Option (T AV)
  | p :: ps, a :: l, t => oB (putA n t (some p) a) (putParams n ps l)
  | _, _, t => some t
structure Fns where
  ops : Nat → List Oper → List Oper → T AV → St → Option (T AV × St)
  draw : Nat → List Oper → List It → Dr → Option Dr
  code : Nat → Option Nat → Code → T AV → List Dfr → St → Option Out
  call : FuncId → List AV → St → Option (AV × St)
  round : Nat → List AV → St → Option (AV × St)
variable (F : Fns)
def finA : AN → Option (AV × St)
  | .val v s => some (v, s)
  | .enter f args s => F.call f args s
  | .round b args s => F.round b args s
def opsNext (n : Nat) (all rest : List Oper) (tm : T AV) (d : Option Tmp) (p : AV × St) : Option (T AV × St) :=
  oB (putA n tm d p.1) fun tm' => F.ops n all rest tm' p.2
def opsA (n : Nat) (all l : List Oper) (tm : T AV) (s : St) : Option (T AV × St) :=
  listC l (some (tm, s)) fun o rest => ifB (wantedA all tm o.guard)
    (oB (opA s tm o) fun a => oB (finA F a) (opsNext F n all rest tm o.dst))
    (opsNext F n all rest tm o.dst (undefA, s))
def belowV : Nat → Nat → AV → Bool
  | 0, _, _ => false
  | _ + 1, n, .ptr b _ => Nat.blt b n
  | _ + 1, n, .sl b _ _ _ => Nat.blt b n
  | _ + 1, n, .esl b _ _ _ => Nat.blt b n
  | _ + 1, n, .mp b => Nat.blt b n
  | _ + 1, n, .ch b => Nat.blt b n
  | _ + 1, n, .yield b => Nat.blt b n
  | d + 1, n, .fn _ a b => allL (belowV d n) a && allL (belowV d n) b
  | d + 1, n, .ifc _ v => belowV d n v
  | d + 1, n, .agg l => allL (belowV d n) l
  | d + 1, n, .tup l => allL (belowV d n) l
  | _ + 1, _, _ => true
def belowOps (n : Nat) (tm : T AV) (l : List Operand) : Bool := allL (fun x => match ev x tm with | some v => belowV 20 n v | none => true) l
def drStill (n : Nat) (all : List Oper) (rest : List It) (t : It) (d : Dr) : AN → Option Dr
  | .val v _ => oB (putA n d.tm t.o.dst v) fun tm' => F.draw n all rest ⟨tm', d.s, t.i :: d.dn, d.efs, d.pds⟩
  | _ => none
def drRead (n : Nat) (all : List Oper) (rest : List It) (t : It) (d : Dr) : AN → Option Dr
  | .val v s' => gd (Nat.beq s'.nx d.s.nx && readsBack t.m d.tm t.o v d.efs) (oB (putA n d.tm t.o.dst v) fun tm' => F.draw n all rest ⟨tm', d.s, t.i :: d.dn, d.efs, d.pds⟩)
  | _ => none
def drMake (n : Nat) (all : List Oper) (rest : List It) (t : It) (d : Dr) : AN → Option Dr
  | .val v s' => gd (Nat.beq s'.nx (d.s.nx + 1) && belowOps d.s.nx d.tm t.o.op.operands.toList) (oB (s'.h.get d.s.nx) fun ob => oB (putA n d.tm t.o.dst v) fun tm' =>
      F.draw n all rest ⟨tm', { d.s with nx := d.s.nx + 1 }, t.i :: d.dn, d.efs, ⟨d.s.nx, ob⟩ :: d.pds⟩)
  | _ => none
def drEff (n : Nat) (all : List Oper) (rest : List It) (t : It) (d : Dr) (p : AV × St) : Option Dr :=
  gd (Nat.ble d.s.nx p.2.nx) (oB (putA n d.tm t.o.dst p.1) fun tm' => F.draw n all rest ⟨tm', p.2, t.i :: d.dn, ⟨t.i, d.s⟩ :: d.efs, []⟩)
def drawOne (n : Nat) (all : List Oper) (rest : List It) (t : It) (d : Dr) : Option Dr :=
  ifB (still t.o.op) (oB (opA d.s d.tm t.o) (drStill F n all rest t d))
    (ifB (reads t.o.op) (oB (opA d.s d.tm t.o) (drRead F n all rest t d))
      (ifB (makes t.o.op) (oB (opA d.s d.tm t.o) (drMake F n all rest t d))
        (gd (allL (bit t.m) d.dn) (oB (opA (publish d.pds d.s) d.tm t.o) fun a => oB (finA F a) (drEff F n all rest t d)))))
def drawA (n : Nat) (all : List Oper) (l : List It) (d : Dr) : Option Dr :=
  listC l (some d) fun t rest => ifB (wantedA all d.tm t.o.guard) (drawOne F n all rest t d)
    (oB (putA n d.tm t.o.dst undefA) fun tm' => F.draw n all rest ⟨tm', d.s, t.i :: d.dn, d.efs, d.pds⟩)
/-! ### Communication that does not wait -/
def isComm : Op → Bool
  | .send _ _ => true
  | .recv _ _ _ => true
  | .select _ _ => true
  | _ => false
def noComm (l : List Oper) : Bool := allL (fun o => !(isComm o.op)) l
def trySend (s : St) (v : AV) : AV → Option (Option St)
  | .nilc => some none
  | .ch b => oB (s.chanAt b) fun c => some (ifB (Nat.blt (lenL c.2.1) c.1) (some (s.put b (.chan c.1 (appL c.2.1 [v]) (c.2.2.1 + 1) c.2.2.2))) none)
  | _ => none
def tryRecv (s : St) : AV → Option (Option (AV × St))
  | .nilc => some none
  | .ch b => oB (s.chanAt b) fun c => some (listC c.2.1 none fun v rest => some (v, s.put b (.chan c.1 rest c.2.2.1 (c.2.2.2 + 1))))
  | _ => none
def sendSel (s : St) : Option St → AV × St
  | some s' => (.tup [.int .i64 0, .bool false], s')
  | none => (.tup [.int .i64 (-1), .bool false], s)
def recvSel (s : St) (z : AV) : Option (AV × St) → AV × St
  | some p => (.tup [.int .i64 0, .bool true, p.1], p.2)
  | none => (.tup [.int .i64 (-1), .bool false, z], s)
def selA (s : St) (tm : T AV) (c : SelectCase) : Option (AV × St) :=
  oB (zeroA c.elem) fun z => oB (ev c.chan tm) fun ch => match c.send with
    | some x => oB (ev x tm) fun v => oB (trySend s v ch) fun r => some (sendSel s r)
    | none => oB (tryRecv s ch) fun r => some (recvSel s z r)
def commA (s : St) (tm : T AV) : Op → Option (AV × St)
  | .send c x => oB (ev c tm) fun c => oB (ev x tm) fun v => oB (trySend s v c) fun r => oB r fun s' => some (undefA, s')
  | .recv t c ok => oB (uChan t) fun e => oB (zeroA e) fun _ => oB (ev c tm) fun c => oB (tryRecv s c) fun r => oB r fun p => some (ifB ok (.tup [p.1, .bool true]) p.1, p.2)
  | .select cs false => listC cs.toList none fun c rest => listC rest (selA s tm c) fun _ _ => none
  | _ => none
def valOnly : AN → Option (AV × St)
  | .val v s => some (v, s)
  | _ => none
def opsC (n : Nat) (all l : List Oper) : T AV → St → Option (T AV × St) :=
  List.rec (motive := fun _ => T AV → St → Option (T AV × St)) (fun tm s => some (tm, s))
    (fun o _ ih tm s => ifB (wantedA all tm o.guard)
      (oB (ifB (isComm o.op) (commA s tm o.op) (oB (opA s tm o) valOnly)) fun p => oB (putA n tm o.dst p.1) fun tm' => ih tm' p.2)
      (oB (putA n tm o.dst undefA) fun tm' => ih tm' s)) l
def seqK (n : Nat) (r : Option Nat) (b : Code) (o : Out) : Option Out :=
  match o.x with
  | .normal => F.code n r b o.tm o.df o.s
  | _ => some o
def blockK (id : Nat) (o : Out) : Out :=
  match o.x with
  | .exit id' => ifB (Nat.beq id' id) ⟨.normal, o.tm, o.df, o.s⟩ o
  | _ => o
def condK (n : Nat) (r : Option Nat) (a b : Code) (tm : T AV) (df : List Dfr) (s : St) (v : AV) : Option Out :=
  oB (isBool v) fun g => ifB g (F.code n r a tm df s) (F.code n r b tm df s)
def dfrA (r : Option Nat) (df : List Dfr) (s : St) : Option (Nat × St × List Dfr) :=
  match r with
  | none => oB (s.new .dfr) fun p => some (p.1, p.2, .mark p.1 :: df)
  | some l => oB (s.loopAt l) fun lp => some (lp.dfr, s, df)
def endLoopA (n : Nat) (r : Option Nat) (tm : T AV) (df : List Dfr) (l : Nat) (s : St) : Option Out :=
  oB (s.loopAt l) fun lp => match lp.st with
    | .busy => none
    | _ => match lp.pend with
      | none => some ⟨.normal, tm, df, s.put l (.loop { lp with st := .exhausted })⟩
      | some c => F.code n r c tm df (s.put l (.loop { lp with st := .exhausted }))
def rangeCallA (s : St) (l : Nat) : AV → Option (AV × St)
  | .fn g first captured => oB (callFuncA s g (appL (appL first [.yield l]) captured)) fun a => match a with
    | .enter g args s' => F.call g args s'
    | _ => none
  | _ => none
def rangeA (n : Nat) (r : Option Nat) (f : Operand) (params : List Tmp) (assign body : Code) (tm : T AV) (df : List Dfr) (s : St) : Option Out :=
  oB (dfrA r df s) fun q => oB (q.2.1.new (.loop ⟨.ready, none, tm, n, params, assign, body, q.1⟩)) fun p => oB (ev f tm) fun g =>
    oB (rangeCallA F p.2 p.1 g) fun vs => endLoopA F n r tm q.2.2 p.1 vs.2
def isDefer (o : Op) : Bool :=
  match o with
  | .defer _ => true
  | _ => false
def lastDefer (l : List Oper) : Bool :=
  match l with
  | [_, d] => isDefer d.op
  | _ => false
def deferA (n : Nat) (r : Option Nat) (ops : List Oper) (tm : T AV) (df : List Dfr) (s : St) : Option Out :=
  match r with
  | some _ => none
  | none => match ops with
    | [a, d] => match a.op with
      | .move x => match a.guard with
        | some _ => none
        | none => match d.op with
          | .defer c => match d.guard with
            | some _ => none
            | none => match d.dst with
              | some _ => none
              | none => oB (ev x tm) fun v => oB (putA n tm a.dst v) fun tm' => oB (evs c.args.toList tm') fun args => match c.callee with
                | .value f => oB (ev f tm') fun g => match g with
                  | .fn h first [] => some ⟨.normal, tm', .call h (appL first args) :: df, s⟩
                  | _ => none
                | _ => none
          | _ => none
      | _ => none
    | _ => none
def codeA (n : Nat) (r : Option Nat) (c : Code) (tm : T AV) (df : List Dfr) (s : St) : Option Out :=
  match c with
  | .skip => some ⟨.normal, tm, df, s⟩
  | .label _ => some ⟨.normal, tm, df, s⟩
  | .region _ ops false => ifB (lastDefer ops.toList) (deferA n r ops.toList tm df s) <| ifB (noComm ops.toList) (oB (F.ops n ops.toList ops.toList tm s) fun p => some ⟨.normal, p.1, df, p.2⟩) (oB (opsC n ops.toList ops.toList tm s) fun p => some ⟨.normal, p.1, df, p.2⟩)
  | .region _ ops true => gd (regionOk ops.toList) (oB (F.draw n ops.toList (orderOf ops.toList) ⟨tm, s, [], [], []⟩) fun d => gd (Nat.ble d.s.nx top) (some ⟨.normal, d.tm, df, publish d.pds d.s⟩))
  | .seq a b => oB (F.code n r a tm df s) (seqK F n r b)
  | .cond c a b => oB (ev c tm) (condK F n r a b tm df s)
  | .block id body => oB (F.code n r body tm df s) fun o => some (blockK id o)
  | .loop body => oB (F.code n r body tm df s) (seqK F n r (.loop body))
  | .exit id => some ⟨.exit id, tm, df, s⟩
  | .ret => some ⟨.ret, tm, df, s⟩
  | .rangeFunc f params assign body => rangeA F n r f params.toList assign body tm df s
  | _ => none
def atEnd : AX → Bool
  | .normal => true
  | .ret => true
  | _ => false
def frameA (fn : Func) (args : List AV) : Nat := natC (lenL args + (fn.ntmps - lenL args)) 0 Nat.succ
def callD (f : FuncId) (args : List AV) (s : St) : Option (AV × St) :=
  oB PP.funcs[f]? fun fn => oB fn.body fun c => gd (Nat.ble (frameA fn args) top) (oB (F.code (frameA fn args) none c (argsT args 0 .nil) [] s) fun o => gd (atEnd o.x) (match o.df with
    | [] => oB (resultsA o.s o.tm fn.results.toList) fun l => some (oneOrTuple l, o.s)
    | _ => none))
def takeMarks : List Dfr → St → Option St
  | [], s => some s
  | d :: bs, s => match d with
    | .mark b => match s.h.get b with
      | some .dfr => takeMarks bs (s.put b .done)
      | _ => none
    | .call f args => oB (callD F f args s) fun p => takeMarks bs p.2
def bodyA (fn : Func) (args : List AV) (s : St) (c : Code) : Option (AV × St) :=
  gd (Nat.ble (frameA fn args) top) (oB (F.code (frameA fn args) none c (argsT args 0 .nil) [] s) fun o => gd (atEnd o.x) (oB (takeMarks F o.df o.s) fun s' => oB (resultsA s' o.tm fn.results.toList) fun l => some (oneOrTuple l, s')))
def callF (pr : Prims) (f : FuncId) (args : List AV) (s : St) : Option (AV × St) :=
  match pr f args s with
  | some r => some r
  | none => oB PP.funcs[f]? fun fn => oB fn.body (bodyA F fn args s)
def roundEnd (b : Nat) (o : Out) : Option (AV × St) :=
  oB (o.s.loopAt b) fun lp => match o.df with
    | [] => match o.x with
      | .normal => some (.bool true, o.s.put b (.loop { lp with st := .ready, pend := none }))
      | .exit id => some (.bool false, o.s.put b (.loop { lp with st := .done, pend := some (.exit id) }))
      | .ret => some (.bool false, o.s.put b (.loop { lp with st := .done, pend := some .ret }))
    | _ => none
def roundMid (b : Nat) (n : Nat) (body : Code) (o : Out) : Option (AV × St) :=
  oB (o.s.loopAt b) fun lp => match lp.st, o.x, o.df with
    | .ready, .normal, [] => oB (F.code n (some b) body o.tm [] (o.s.put b (.loop { lp with st := .busy }))) (roundEnd b)
    | _, _, _ => none
def roundF (b : Nat) (args : List AV) (s : St) : Option (AV × St) :=
  oB (s.loopAt b) fun lp => gd (Nat.beq (lenL args) (lenL lp.params)) (oB (putParams lp.n lp.params args lp.tm) fun tm => oB (F.code lp.n (some b) lp.assign tm [] s) (roundMid F b lp.n lp.body))
def noFns : Fns := ⟨fun _ _ _ _ _ => none, fun _ _ _ _ => none, fun _ _ _ _ _ _ => none, fun _ _ _ => none, fun _ _ _ => none⟩
def stepFns (pr : Prims) : Fns := ⟨opsA F, drawA F, codeA F, callF F pr, roundF F⟩
-- BEGIN FNS
def fns (pr : Prims) (fuel : Nat) : Fns := Nat.rec (motive := fun _ => Fns) noFns (fun _ F => stepFns F pr) fuel
-- END FNS
end
end
end Go.Ev
