/-
  Texts of this claim.
-/
import Derived.Test.YtjdimpnonjjnaaaGreatDoorMEvLayB
import Derived.Deep.RegionLaw
import Derived.Ground.NamesProg
import Derived.Laws.IdiomCopy
import Derived.Outline
import Derived.Shelf.SlGeneric
import Derived.Shelf.Spec.SlicesInsertGrow
import Derived.Shelf.Strconv.Clone
set_option linter.unusedVariables false
set_option linter.unusedSimpArgs false
set_option maxHeartbeats 4000000
set_option maxRecDepth 100000
namespace Go.Ev
def Lasts (w w' : World) : Prop := w.heap.size ≤ w'.heap.size ∧ ∀ k, k < w.heap.size → w'.heap[k]? = w.heap[k]?
theorem Lasts.refl (w : World) : Lasts w w := ⟨Nat.le_refl _, fun _ _ => rfl⟩
theorem Lasts.trans {a b c : World} (h : Lasts a b) (k : Lasts b c) : Lasts a c := ⟨Nat.le_trans h.1 k.1, fun i hi => (k.2 i (Nat.lt_of_lt_of_le hi h.1)).trans (h.2 i hi)⟩
theorem Lasts.cell {w w' : World} (h : Lasts w w') {p : Addr} {v : Value} (hc : w.cell? p = some v) : w'.cell? p = some v := by
 have hlt : p.block < w.heap.size := by
  unfold World.cell? at hc
  cases hb : w.heap[p.block]? with
  | none => simp [hb] at hc
  | some x => exact (Array.getElem?_eq_some_iff.1 hb).1
 have e : w'.cell? p = w.cell? p := by
  unfold World.cell?
  rw [h.2 _ hlt]
 rw [e]
 exact hc
def Tame {α : Type} : Sem α → Prop
 | .pure _ => True
 | .load _ _ k => ∀ v, Tame (k v)
 | .store .. => False
 | .new _ k => ∀ r, Tame (k r)
 | .shape _ k => ∀ s, Tame (k s)
 | .freeze .. => False
 | .frozen _ k => ∀ b, Tame (k b)
 | .getObj _ k => ∀ o, Tame (k o)
 | .setObj .. => False
 | .choose _ k => ∀ n, Tame (k n)
 | .sys .. => False
 | .program k => ∀ p, Tame (k p)
 | .mark _ k => Tame k
 | .halt _ => True
theorem Tame.bind' {α β : Type} {f : α → Sem β} : ∀ (s : Sem α), Tame s → (∀ x, Tame (f x)) → Tame (Sem.bind s f)
 | .pure _, _, hf => hf _
 | .load _ _ k, h, hf => fun v => Tame.bind' (k v) (h v) hf
 | .store .., h, _ => h.elim
 | .new _ k, h, hf => fun v => Tame.bind' (k v) (h v) hf
 | .shape _ k, h, hf => fun v => Tame.bind' (k v) (h v) hf
 | .freeze .., h, _ => h.elim
 | .frozen _ k, h, hf => fun v => Tame.bind' (k v) (h v) hf
 | .getObj _ k, h, hf => fun v => Tame.bind' (k v) (h v) hf
 | .setObj .., h, _ => h.elim
 | .choose _ k, h, hf => fun v => Tame.bind' (k v) (h v) hf
 | .sys .., h, _ => h.elim
 | .program k, h, hf => fun v => Tame.bind' (k v) (h v) hf
 | .mark _ k, h, hf => Tame.bind' k h hf
 | .halt _, _, _ => trivial
theorem Tame.bind {α β : Type} {s : Sem α} {f : α → Sem β} (h : Tame s) (hf : ∀ x, Tame (f x)) : Tame (s >>= f) := Tame.bind' s h hf
theorem Tame.pure {α : Type} (x : α) : Tame (Pure.pure x : Sem α) := trivial
theorem Tame.run {α : Type} {P : Program} : ∀ (s : Sem α), Tame s → ∀ (w w' : World) (x : α), s.run P w = .ok x w' → Lasts w w'
 | .pure _, _, w, w', x, h => by cases h; exact Lasts.refl _
 | .load m a k, ht, w, w', x, h => by
  simp only [Sem.run] at h
  split at h
  ·exact Tame.run (k _) (ht _) _ _ _ h
  ·split at h
   ·exact Tame.run (k _) (ht _) _ _ _ h
   ·cases h
 | .store .., ht, _, _, _, _ => ht.elim
 | .new o k, ht, w, w', x, h => by
  simp only [Sem.run] at h
  refine Lasts.trans ⟨by simp, fun i hi => ?_⟩ (Tame.run (k _) (ht _) _ _ _ h)
  simp only [Array.getElem?_push]
  rw [if_neg (by omega)]
 | .shape _ k, ht, w, w', x, h => Tame.run (k _) (ht _) _ _ _ h
 | .freeze .., ht, _, _, _, _ => ht.elim
 | .frozen _ k, ht, w, w', x, h => Tame.run (k _) (ht _) _ _ _ h
 | .getObj r k, ht, w, w', x, h => by
  simp only [Sem.run] at h
  split at h
  ·cases h
  ·exact Tame.run (k _) (ht _) _ _ _ h
  ·cases h
 | .setObj .., ht, _, _, _, _ => ht.elim
 | .choose q k, ht, w, w', x, h => by
  simp only [Sem.run] at h
  split at h
  ·exact Tame.run (k _) (ht _) _ _ _ h
  ·exact (show Lasts w { w with drawn := w.drawn + 1 } from ⟨Nat.le_refl _, fun _ _ => rfl⟩).trans (Tame.run (k _) (ht _) _ _ _ h)
 | .sys .., ht, _, _, _, _ => ht.elim
 | .program k, ht, w, w', x, h => Tame.run (k _) (ht _) _ _ _ h
 | .mark _ k, ht, w, w', x, h => Tame.run k ht _ _ _ h
 | .halt _, _, _, _, _, h => by cases h
theorem tame_bounds {α : Type} (k : IntKind) (i l : Int) (c : BoundsCode) : Tame (Go.boundsPanic k i l c : Sem α) := by
 have hj : ∀ s, Tame (Go.runtimePanic (.bounds (IntKind.i64.wrap i) l s c) : Sem α) := fun s => by
  unfold Go.runtimePanic
  exact Tame.bind (s := Go.program) (fun _ => trivial) fun p => trivial
 unfold Go.boundsPanic
 dsimp only
 split
 ·exact Tame.bind (Tame.bind' (s := Go.choose _) (fun _ => trivial) fun _ => trivial) hj
 ·exact Tame.bind trivial hj
theorem Tame.underlying (t : TypeId) : Tame (Go.underlying t) := by
 unfold Go.underlying
 refine Tame.bind (fun _ => trivial) fun p => ?_
 split <;> trivial
theorem Tame.typeInfo (t : TypeId) : Tame (Go.typeInfo t) := by
 unfold Go.typeInfo
 refine Tame.bind (fun _ => trivial) fun p => ?_
 split <;> trivial
theorem Tame.zeroValue (t : TypeId) : Tame (Go.zeroValue t) := by
 unfold Go.zeroValue
 refine Tame.bind (Tame.typeInfo t) fun i => ?_
 split <;> trivial
theorem Tame.sizeOf (t : TypeId) : Tame (Go.sizeOf t) := Tame.bind (Tame.typeInfo t) fun _ => trivial
theorem Tame.isAgg (t : TypeId) : Tame (Go.isAgg t) := by
 refine Tame.bind (Tame.underlying t) fun d => ?_
 split <;> trivial
theorem Tame.load (a : Addr) : Tame (Go.load a) := fun _ => trivial
theorem Tame.loadCellsFrom (a : Addr) : ∀ (n i : Nat) (acc : Array Value), Tame (Go.loadCellsFrom a i n acc)
 | 0, _, _ => trivial
 | n + 1, i, acc => Tame.bind (Tame.load _) fun _ => Tame.loadCellsFrom a n _ _
theorem Tame.loadVar (t : TypeId) (a : Addr) : Tame (Go.loadVar t a) := by
 unfold Go.loadVar
 refine Tame.bind (Tame.isAgg t) fun b => ?_
 split
 ·refine Tame.bind (Tame.sizeOf t) fun n => Tame.bind ?_ fun _ => trivial
  exact Tame.loadCellsFrom _ _ _ _
 ·exact Tame.load _
theorem Tame.sureAddr (v : Value) : Tame (Instr.sureAddr v) := by
 unfold Instr.sureAddr
 split <;> trivial
theorem Tame.loadAt (t : TypeId) (v : Value) : Tame (Instr.loadAt t v) := Tame.bind (Tame.sureAddr v) fun _ => Tame.loadVar _ _
theorem Tame.newVar (t : TypeId) (v : Value) : Tame (Go.newVar t v) := Tame.bind (fun _ => trivial) fun _ => trivial
theorem Tame.alloc (t : TypeId) : Tame (Instr.alloc t true (.tuple #[])) := by
 unfold Instr.alloc
 refine Tame.bind (Tame.zeroValue t) fun z => ?_
 dsimp only
 exact Tame.bind (Tame.newVar _ _) fun _ => trivial
theorem Tame.asIntOf (v : Value) : Tame (Go.asIntOf v) := by
 unfold Go.asIntOf
 split <;> trivial
theorem Tame.indexAt (t : TypeId) (x i : Value) : Tame (Instr.indexAt t x i) := by
 unfold Instr.indexAt
 refine Tame.bind (Tame.asIntOf i) fun ki => ?_
 refine Tame.bind (Tame.underlying t) fun d => ?_
 have hj : ∀ r : Option Addr × Nat × TypeId, Tame (match r with
   | (base, len, elem) => do
    let __do_lift ← Go.underlying t
    have tiny : Bool :=
     decide (len ≤ 1) &&
      match __do_lift with
      | TypeDesc.array len elem => true
      | x => false
    match base with
     | some a =>
      if 0 ≤ ki.snd ∧ ki.snd < ↑len then do
       let __do_lift ← Go.sizeOf elem
       Pure.pure (Value.pointer (some (a.add (ki.snd.toNat * __do_lift))))
      else
       if tiny = true then
        unsupported
         (Unsupported.noEntry "op/indexAddr.an index out of range at an array of length 0 or 1 (ledger 616)")
       else Go.boundsPanic ki.fst ki.snd (↑len) BoundsCode.index
     | none => Go.boundsPanic ki.fst ki.snd 0 BoundsCode.index : Sem Value) := by
  rintro ⟨base, len, elem⟩
  refine Tame.bind (Tame.underlying t) fun d => ?_
  dsimp only
  split
  ·split
   ·exact Tame.bind (Tame.sizeOf _) fun _ => trivial
   ·split <;> (split <;> first | exact tame_bounds .. | exact trivial)
  ·exact tame_bounds ..
 dsimp only
 split
 ·exact Tame.bind (Tame.sureAddr _) fun _ => Tame.bind trivial hj
 ·exact Tame.bind trivial hj
 ·exact Tame.bind trivial hj
theorem Tame.newRow (t : TypeId) (cs : Array Value) : Tame (Go.newRow t cs) := Tame.bind (fun _ => trivial) fun _ => trivial
theorem Tame.box (t : TypeId) (v : Value) : Tame (Instr.box t v) := Tame.bind (Tame.newVar _ _) fun _ => trivial
theorem Tame.buildSlice (t : TypeId) (n : Nat) (ps : Array (Nat × Value)) : Tame (Instr.buildSlice t n ps) := by
 unfold Instr.buildSlice
 refine Tame.bind (Tame.underlying t) fun d => ?_
 dsimp only
 split
 ·refine Tame.bind (Tame.sizeOf _) fun n => ?_
  rename_i elem
  split
  ·exact trivial
  ·split
   ·refine Tame.bind (Tame.pure _) fun z => ?_
    split
    ·exact Tame.bind (Tame.newRow _ _) fun _ => trivial
    ·exact trivial
   ·refine Tame.bind (Tame.zeroValue _) fun z => ?_
    refine Tame.bind (Tame.pure _) fun z => ?_
    split
    ·exact Tame.bind (Tame.newRow _ _) fun _ => trivial
    ·exact trivial
 ·exact trivial
theorem Tame.getObj' {α : Type} (r : Nat) (k : Obj → Sem α) (h : ∀ o, Tame (k o)) : Tame (Go.getObj r >>= k) := Tame.bind (fun _ => trivial) h
theorem Tame.len (ts : Array TypeId) (t : TypeId) (args : Array Value) : Tame (Builtin.len_ ts t args) := by
 unfold Builtin.len_
 split
 ·refine Tame.bind (Tame.underlying _) fun d => ?_
  split <;> first
   | trivial
   | (refine Tame.bind (Tame.underlying _) fun d => ?_; split <;> trivial)
   | (refine Tame.getObj' _ _ fun o => ?_; split <;> trivial)
 ·trivial
def lenCall (c : Call) : Bool := match c.callee with | .builtin .len => true | _ => false
def tameOp (o : Oper) : Bool :=
 match o.op with
 | .move _ | .assign _ | .load .. | .alloc _ | .indexAddr .. | .box .. | .buildSlice .. => true
 | .call c => lenCall c
 | _ => false
theorem run_pure_image {α β : Type} {P : Program} {g : α → β} : ∀ (s : Sem α) (w w' : World) (x : β), (Sem.bind s fun y => Sem.pure (g y)).run P w = .ok x w' → ∃ u, x = g u
 | .pure y, w, w', x, h => by cases h; exact ⟨_, rfl⟩
 | .load m a k, w, w', x, h => by
  simp only [Sem.run, Sem.bind] at h
  split at h
  ·exact run_pure_image (k _) _ _ _ h
  ·split at h
   ·exact run_pure_image (k _) _ _ _ h
   ·cases h
 | .store m a v k, w, w', x, h => by
  simp only [Sem.bind] at h
  cases v <;> simp only [Sem.run] at h <;> first | cases h | skip
  all_goals
   split at h
   ·split at h
    ·cases h
    ·exact run_pure_image k _ _ _ h
   ·split at h
    ·exact run_pure_image k _ _ _ h
    ·cases h
 | .new o k, w, w', x, h => run_pure_image (k _) _ _ _ h
 | .shape _ k, w, w', x, h => run_pure_image (k _) _ _ _ h
 | .freeze _ _ k, w, w', x, h => run_pure_image k _ _ _ h
 | .frozen _ k, w, w', x, h => run_pure_image (k _) _ _ _ h
 | .getObj r k, w, w', x, h => by
  simp only [Sem.run, Sem.bind] at h
  split at h
  ·cases h
  ·exact run_pure_image (k _) _ _ _ h
  ·cases h
 | .setObj r o k, w, w', x, h => by
  simp only [Sem.run, Sem.bind] at h
  split at h
  ·cases h
  ·exact run_pure_image k _ _ _ h
  ·cases h
 | .choose q k, w, w', x, h => by
  simp only [Sem.run, Sem.bind] at h
  split at h
  ·exact run_pure_image (k _) _ _ _ h
  ·exact run_pure_image (k _) _ _ _ h
 | .sys _ k, w, w', x, h => run_pure_image (k _) _ _ _ h
 | .program k, w, w', x, h => run_pure_image (k _) _ _ _ h
 | .mark _ k, w, w', x, h => run_pure_image k _ _ _ h
 | .halt _, _, _, _, h => by cases h
theorem tame_value {P : Program} {s : Sem Value} (hs : Tame s) {w : World} {n : Next} {w' : World} (h : Sem.run P (s >>= fun x => Pure.pure (Next.value x)) w = .ok n w') : (∃ u, n = .value u) ∧ Lasts w w' :=
 ⟨run_pure_image s w w' n h, Tame.run _ (Tame.bind (f := fun x => Pure.pure (Next.value x)) hs fun _ => trivial) _ _ _ h⟩
theorem tameOp_run {P : Program} {o : Oper} (ho : tameOp o = true) {ρ : Operand → Value} {w : World} {n : Next} {w' : World} (h : (execOp ρ o).run P w = .ok n w') : (∃ u, n = .value u) ∧ Lasts w w' := by
 obtain ⟨dst, op, type, pos, after, guard⟩ := o
 cases op <;> simp only [tameOp] at ho <;> first | cases ho | skip
 ·cases h
  exact ⟨⟨_, rfl⟩, Lasts.refl _⟩
 ·cases h
  exact ⟨⟨_, rfl⟩, Lasts.refl _⟩
 ·exact tame_value (Tame.alloc _) h
 ·exact tame_value (Tame.box _ _) h
 ·exact tame_value (Tame.buildSlice _ _ _) h
 ·exact tame_value (Tame.loadAt _ _) h
 ·exact tame_value (Tame.indexAt _ _ _) h
 ·rename_i c
  obtain ⟨callee, args, ts⟩ := c
  cases callee <;> simp only [lenCall] at ho <;> first | cases ho | skip
  rename_i b
  cases b <;> simp only [] at ho <;> first | cases ho | skip
  exact tame_value (Tame.len _ _ _) h
section
variable {P : Program} {ops : Array Oper} {Q : Exit → Act → World → Prop} {md : Region.Mode}
def behindR (md : Region.Mode) (ops : Array Oper) (listed : Array Bool) (i : Nat) : Nat → Nat → Bool
 | 0, _ => false
 | n + 1, j => match ops[j]? with
  | some o => o.after.any fun e => Region.binds md e && (e.on == i || (!listed.getD e.on true && behindR md ops listed i n e.on))
  | none => false
theorem behindR_not {i n j : Nat} {listed : Array Bool} (hi : listed.getD i true = false) (hb : behindR md ops listed i n j = true) : j ∉ Region.ready md ops listed := by
 intro hj
 obtain ⟨_, o, ho, hall⟩ := mem_ready.1 hj
 cases n with
 | zero => cases hb
 | succ n =>
  simp only [behindR, ho] at hb
  obtain ⟨e, he, h1⟩ := Array.any_eq_true'.1 hb
  simp only [Bool.and_eq_true, Bool.or_eq_true, beq_iff_eq, Bool.not_eq_true'] at h1
  have h2 := hall e he h1.1
  have key : listed.getD e.on true = false → False := fun h3 => by
   rcases Nat.lt_or_ge e.on listed.size with h' | h'
   ·simp [h'] at h2 h3; rw [h3] at h2; cases h2
   ·simp [Array.getElem?_eq_none h'] at h2
  rcases h1.2 with h3 | h3
  ·exact key (h3 ▸ hi)
  ·exact key h3.1
theorem behindR_keep {i : Nat} {listed : Array Bool} (hi : listed.getD i true = false) {j' : Nat} (hj' : j' ∈ Region.ready md ops listed) : ∀ (n j : Nat), behindR md ops listed i n j = true → behindR md ops (listed.setIfInBounds j' true) i n j = true
 | 0, _, h => h
 | n + 1, j, h => by
  simp only [behindR] at h ⊢
  split
  ·rename_i o ho
   simp only [ho] at h
   obtain ⟨e, he, h1⟩ := Array.any_eq_true'.1 h
   refine Array.any_eq_true'.2 ⟨e, he, ?_⟩
   simp only [Bool.and_eq_true, Bool.or_eq_true, beq_iff_eq, Bool.not_eq_true'] at h1 ⊢
   refine ⟨h1.1, h1.2.imp id fun h3 => ⟨?_, behindR_keep hi hj' n _ h3.2⟩⟩
   rw [getD_set_ne true (fun e1 => behindR_not hi (e1 ▸ h3.2) hj')]
   exact h3.1
  ·rename_i ho
   simp only [ho] at h
   cases h
def YieldsR (P : Program) (ops : Array Oper) (o : Oper) (v : Value) (a : Act) (w0 : World) : Prop :=
 Region.wanted o (yielded ops a.tmps) = true ∧ ∀ w, Lasts w0 w → (execOp a.eval o).run P w = .ok (.value v) w
theorem YieldsR.wpOp {i : Nat} {o : Oper} {v : Value} {a : Act} {w0 w : World} (hi : ops[i]? = some o) (hy : YieldsR P ops o v a w0) (he : Lasts w0 w)
  {K : Act → World → Prop} (h : K (a.put o.dst v) w) : wpOp P ops Q i K a w := by
 unfold Go.wpOp
 simp only [hi]
 obtain ⟨hw, hv⟩ := hy
 simp only [hw, if_true, Oper.wp, hv w he, Oper.upon]
 exact .inl h
theorem wpOp_putR {j : Nat} {oi oj : Oper} {v : Value} {w0 : World} (hj : ops[j]? = some oj) (hap : oi.apart ops oj = true) (ht : tameOp oj = true)
  (hsi : ∀ cs b, oi.op ≠ .select cs b) (hsj : ∀ cs b, oj.op ≠ .select cs b)
  (hQ : ∀ c a w, Q (.panic c) (a.put oi.dst v) w → Q (.panic c) a w) {K : Act → World → Prop} {a : Act} {w : World}
  (hy : YieldsR P ops oi v a w0) (he : Lasts w0 w) (h : wpOp P ops Q j K (a.put oi.dst v) w) :
  wpOp P ops Q j (fun a' w' => YieldsR P ops oi v a' w0 ∧ Lasts w0 w' ∧ K (a'.put oi.dst v) w') a w := by
 obtain ⟨h1, h2, h3⟩ := Oper.apart_spec hap
 have keep : ∀ u, YieldsR P ops oi v (a.put oj.dst u) w0 := fun u => by
  unfold YieldsR at *
  rw [execOp_put oi hsi a oj.dst u h3, wanted_put oi a oj.dst u h3]
  exact hy
 unfold wpOp at *
 simp only [hj] at *
 rw [wanted_put oj a oi.dst v h1] at h
 split
 ·rename_i hw
  simp only [hw, if_true] at h
  rcases h with h | ⟨hasks, hlets⟩
  case inr => exact .inr ⟨by unfold Oper.asks at *; rw [execOp_put oj hsj a oi.dst v h1] at hasks; exact hasks, hlets⟩
  refine .inl ?_
  unfold Oper.wp at *
  rw [execOp_put oj hsj a oi.dst v h1] at h
  generalize hr : (execOp a.eval oj).run P w = r at *
  cases r with
  | ok n w' =>
   obtain ⟨⟨u, rfl⟩, hx⟩ := tameOp_run ht hr
   simp only [Oper.upon] at h ⊢
   exact ⟨keep u, he.trans hx, by rw [← Act.put_comm a v u h2]; exact h⟩
  | halt x w' =>
   cases x <;> simp only [Oper.upon] at h ⊢
   case panic u => exact hQ _ _ _ h
 ·rename_i hw
  simp only [hw] at h
  exact ⟨keep _, he, by rw [← Act.put_comm a v undef h2]; exact h⟩
theorem wpAny_firstR {i nb : Nat} {oi : Oper} {v : Value} {w0 : World} (hi : ops[i]? = some oi) (hsel : ∀ (j : Nat) (o : Oper) cs b, ops[j]? = some o → o.op ≠ .select cs b)
  (hQ : ∀ c a w, Q (.panic c) (a.put oi.dst v) w → Q (.panic c) a w) :
  ∀ (fuel : Nat) (listed : Array Bool) (a : Act) (w : World),
   (∀ j oj, ops[j]? = some oj → j ≠ i → listed.getD j true = false → behindR md ops listed i nb j = false → oi.apart ops oj = true ∧ tameOp oj = true) →
   i ∈ Region.ready md ops listed → YieldsR P ops oi v a w0 → Lasts w0 w →
   wpAny P md ops Q fuel (listed.setIfInBounds i true) (a.put oi.dst v) w → wpAny P md ops Q (fuel + 1) listed a w := by
 intro fuel
 induction fuel with
 | zero =>
  intro listed a w _ hr hy he H
  refine ⟨fun h => (by rw [h] at hr; cases hr), fun j hj => ?_⟩
  by_cases hji : j = i
  ·subst hji; exact hy.wpOp hi he H
  ·have := ready_mono hj hji
   rw [H.1] at this
   cases this
 | succ fuel ih =>
  intro listed a w hfree hr hy he H
  refine ⟨fun h => (by rw [h] at hr; cases hr), fun j hj => ?_⟩
  by_cases hji : j = i
  ·subst hji; exact hy.wpOp hi he H
  ·have h1 := H.2 j (ready_mono hj hji)
   have hiu := (mem_ready.1 hr).1
   obtain ⟨hjun, oj, hoj, hall⟩ := mem_ready.1 hj
   have hnb : behindR md ops listed i nb j = false := by
    cases hb : behindR md ops listed i nb j with
    | false => rfl
    | true => exact absurd hj (behindR_not hiu hb)
   obtain ⟨hap, htm⟩ := hfree j oj hoj hji hjun hnb
   have h2 := wpOp_putR hoj hap htm (fun cs b => hsel i oi cs b hi) (fun cs b => hsel j oj cs b hoj) hQ hy he h1
   have hfree' : ∀ k ok, ops[k]? = some ok → k ≠ i → (listed.setIfInBounds j true).getD k true = false →
     behindR md ops (listed.setIfInBounds j true) i nb k = false → oi.apart ops ok = true ∧ tameOp ok = true := fun k ok hk hki hun hno => by
    refine hfree k ok hk hki ?_ ?_
    ·by_cases hjk : j = k
     ·subst hjk; exact hjun
     ·rw [getD_set_ne true hjk] at hun; exact hun
    ·cases hb : behindR md ops listed i nb k with
     | false => rfl
     | true => rw [behindR_keep hiu hj nb k hb] at hno; cases hno
   refine wpOp_mono (fun a' w' h3 => ih (listed.setIfInBounds j true) a' w' hfree' (ready_mono hr (Ne.symm hji)) h3.1 h3.2.1 ?_) h2
   rw [Array.setIfInBounds_comm _ _ hji]
   exact h3.2.2
def Only (T : Act → World → Prop) : Exit → Act → World → Prop
 | .normal, a, w => T a w
 | _, _, _ => False
theorem only_no {T : Act → World → Prop} : ¬ LetsOut (Only T) := by rintro ⟨_, _, h⟩; exact h
theorem wp_only {o : Oper} {a : Act} {w : World} {K K' : Act → World → Prop} {T : Act → World → Prop} (hK : ∀ a w, K a w → K' a w) (h : o.wp P a w K (Only T)) : o.wp P a w K' Q := by
 unfold Oper.wp at *
 generalize (execOp a.eval o).run P w = r at *
 cases r with
 | ok n w' =>
  cases n <;> simp only [Oper.upon] at h ⊢ <;>
   first
    | exact hK _ _ h
    | exact Calls.mono h (fun e w'' he => by
      cases e with
      | returned v => exact hK _ _ he
      | panicked c => exact he.elim
      | outgrown => exact (only_no he).elim)
    | exact Rows.mono h (fun _ _ he => hK _ _ he)
 | halt x w' => cases x <;> simp only [Oper.upon] at h ⊢ <;> exact h.elim
theorem any_only {T : Act → World → Prop} (hT : ∀ a w, T a w → Q .normal a w) : ∀ (fuel : Nat) (listed : Array Bool) (a : Act) (w : World), wpAny P md ops (Only T) fuel listed a w → wpAny P md ops Q fuel listed a w
 | 0, _, _, _, h => ⟨h.1, hT _ _ h.2⟩
 | fuel + 1, listed, a, w, h => ⟨fun h0 => hT _ _ (h.1 h0), fun i hi => by
  have h1 := h.2 i hi
  unfold Go.wpOp at *
  split
  ·rename_i ho
   simp only [ho] at h1
   exact any_only hT fuel _ _ _ h1
  ·rename_i o ho
   simp only [ho] at h1
   split
   ·rename_i hw
    simp only [hw, if_true] at h1
    rcases h1 with h1 | h1
    ·exact .inl (wp_only (fun a w => any_only hT fuel _ a w) h1)
    ·exact (only_no h1.2).elim
   ·rename_i hw
    simp only [hw] at h1
    exact any_only hT fuel _ _ _ h1⟩
def freeR (md : Region.Mode) (ops : Array Oper) (listed : Array Bool) (i : Nat) : Bool :=
 match ops[i]? with
 | none => false
 | some oi => (List.range ops.size).all fun j => j == i || listed.getD j true || behindR md ops listed i 12 j || match ops[j]? with
   | some oj => oi.apart ops oj && tameOp oj
   | none => true
theorem wpAny_takeR {i : Nat} {oi : Oper} {v : Value} {fuel : Nat} {listed : Array Bool} {a : Act} {w : World} (hi : ops[i]? = some oi)
  (hs : Region.noSelect ops = true) (hf : freeR md ops listed i = true) (hr : (Region.ready md ops listed).contains i = true)
  (hQ : ∀ c a w, Q (.panic c) (a.put oi.dst v) w → Q (.panic c) a w) (hy : YieldsR P ops oi v a w)
  (h : wpAny P md ops Q fuel (listed.setIfInBounds i true) (a.put oi.dst v) w) : wpAny P md ops Q (fuel + 1) listed a w :=
 wpAny_firstR (nb := 12) hi (Region.noSelect_spec hs) hQ fuel listed a w (fun j oj hj hne hun hnb => by
  simp only [freeR, hi, List.all_eq_true, List.mem_range] at hf
  have h1 := hf j (Array.getElem?_eq_some_iff.1 hj).1
  simp only [hj, Bool.or_eq_true, beq_iff_eq, hne, false_or, hun, hnb, Bool.false_eq_true, Bool.and_eq_true] at h1
  exact h1) (by simpa using hr) hy (Lasts.refl _) h
theorem tkR {d : Option Tmp} {op : Op} {t : TypeId} {ps : String} {af : Array Edge} {g : Option (Nat × Bool)} {v : Value} {fuel : Nat} {listed : Array Bool} {a : Act} {w : World} (i : Nat) (hi : ops[i]? = some ⟨d, op, t, ps, af, g⟩)
  (hc : (Region.noSelect ops && freeR md ops listed i && (Region.ready md ops listed).contains i) = true) (hQ : ∀ c a w, Q (.panic c) (a.put d v) w → Q (.panic c) a w)
  (hw : Region.wanted ⟨d, op, t, ps, af, g⟩ (yielded ops a.tmps) = true) (hy : ∀ w', Lasts w w' → (execOp a.eval ⟨d, op, t, ps, af, g⟩).run P w' = .ok (.value v) w')
  (h : wpAny P md ops Q fuel (listed.setIfInBounds i true) (a.put d v) w) : wpAny P md ops Q (fuel + 1) listed a w := by
 simp only [Bool.and_eq_true] at hc
 exact wpAny_takeR hi hc.1.1 hc.1.2 hc.2 hQ ⟨hw, hy⟩ h
end
section
variable {P : Program} {ops : Array Oper} {Q : Exit → Act → World → Prop} {md : Region.Mode} {d : Option Tmp} {op : Op} {t : TypeId} {ps : String} {af : Array Edge} {g : Option (Tmp × Bool)} {fuel : Nat} {listed : Array Bool} {a : Act} {w : World} {v : Value}
theorem tA (i : Nat) (h : wpAny P md ops Q fuel (listed.setIfInBounds i true) (a.put d v) w) (hi : ops[i]? = some ⟨d, op, t, ps, af, g⟩ := by rfl) (hc : (Region.noSelect ops && Region.free md ops listed i && (Region.ready md ops listed).contains i) = true := by kernel_rfl)
  (hQ : ∀ c a w, Q (.panic c) (a.put d v) w → Q (.panic c) a w := by exact fun _ _ _ h => h) (hw : Region.wanted ⟨d, op, t, ps, af, g⟩ (yielded ops a.tmps) = true := by rfl) (hy : ∀ w, (execOp a.eval ⟨d, op, t, ps, af, g⟩).run P w = .ok (.value v) w := by (intro w; go_simp; try with_reducible rfl)) :
  wpAny P md ops Q (fuel + 1) listed a w := tk i hi hc hQ hw hy h
theorem sA (i : Nat) (h : wpAny P md ops Q fuel (listed.setIfInBounds i true) (a.put d undef) w) (hi : ops[i]? = some ⟨d, op, t, ps, af, g⟩ := by rfl) (hc : (Region.noSelect ops && Region.free md ops listed i && (Region.ready md ops listed).contains i) = true := by kernel_rfl)
  (hQ : ∀ c a w, Q (.panic c) (a.put d undef) w → Q (.panic c) a w := by exact fun _ _ _ h => h) (hw : Region.wanted ⟨d, op, t, ps, af, g⟩ (yielded ops a.tmps) = false := by rfl) : wpAny P md ops Q (fuel + 1) listed a w := sk i hi hc hQ hw h
theorem rA (i : Nat) {hy : ∀ w', Lasts w w' → (execOp a.eval ⟨d, op, t, ps, af, g⟩).run P w' = .ok (.value v) w'} (h : wpAny P md ops Q fuel (listed.setIfInBounds i true) (a.put d v) w) (hi : ops[i]? = some ⟨d, op, t, ps, af, g⟩ := by rfl) (hc : (Region.noSelect ops && freeR md ops listed i && (Region.ready md ops listed).contains i) = true := by kernel_rfl)
  (hQ : ∀ c a w, Q (.panic c) (a.put d v) w → Q (.panic c) a w := by exact fun _ _ _ h => h) (hw : Region.wanted ⟨d, op, t, ps, af, g⟩ (yielded ops a.tmps) = true := by rfl) : wpAny P md ops Q (fuel + 1) listed a w := tkR i hi hc hQ hw hy h
end
open Go.RowKit
theorem cells_heap (b : Nat) (e : TypeId) (fr : Nat × Nat) : ∀ (vs : List Value) (o : Nat) (w : World) (c : Array Value), w.heap[b]? = some (.cells c e fr) →
  ∃ c', (w.setCells b o vs).heap[b]? = some (.cells c' e fr) ∧ c'.size = c.size ∧ (∀ i, i ≠ b → (w.setCells b o vs).heap[i]? = w.heap[i]?) ∧ (w.setCells b o vs).heap.size = w.heap.size ∧
   (w.setCells b o vs).os = w.os ∧ (w.setCells b o vs).tape = w.tape ∧ (w.setCells b o vs).output = w.output ∧ ∀ j, c'[j]? = if o ≤ j ∧ j < o + vs.length ∧ j < c.size then vs[j - o]? else c[j]?
 | [], o, w, c, h => ⟨c, h, rfl, fun _ _ => rfl, rfl, rfl, rfl, rfl, fun j => by rw [if_neg]; simp only [List.length_nil]; omega⟩
 | v :: vs, o, w, c, h => by
  have h1 : (w.setCell ⟨b, o, none⟩ v).heap[b]? = some (.cells (c.setIfInBounds o v) e fr) := by
   simp only [World.setCell]
   rw [Array.getElem?_modify, if_pos rfl, h]
   rfl
  obtain ⟨c', k1, k2, k3, k4, k5, k6, k7, k8⟩ := cells_heap b e fr vs (o + 1) (w.setCell ⟨b, o, none⟩ v) _ h1
  refine ⟨c', k1, by rw [k2]; simp, fun i hi => ?_, by rw [show (w.setCells b o (v :: vs)) = (w.setCell ⟨b, o, none⟩ v).setCells b (o + 1) vs from rfl, k4]; simp [World.setCell], k5, k6, k7, fun j => ?_⟩
  ·rw [show (w.setCells b o (v :: vs)) = (w.setCell ⟨b, o, none⟩ v).setCells b (o + 1) vs from rfl, k3 i hi]
   simp only [World.setCell]
   rw [Array.getElem?_modify, if_neg (Ne.symm hi)]
  ·rw [k8 j]
   simp only [Array.size_setIfInBounds, List.length_cons]
   by_cases h2 : o + 1 ≤ j ∧ j < o + 1 + vs.length ∧ j < c.size
   ·rw [if_pos h2, if_pos (by omega)]
    obtain ⟨q, hq⟩ : ∃ q, j - o = q + 1 := ⟨j - o - 1, by omega⟩
    rw [hq, List.getElem?_cons_succ]
    congr 1
    omega
   ·rw [if_neg h2]
    by_cases h3 : j = o
    ·subst h3
     by_cases h4 : j < c.size
     ·rw [if_pos (by omega)]
      simp [h4]
     ·rw [if_neg (by omega), Array.getElem?_setIfInBounds]
      simp [h4]
    ·rw [if_neg (by omega), Array.getElem?_setIfInBounds_ne (Ne.symm h3)]
theorem ins_cells {α : Type} (old new : List α) (i n m : Nat) (hi : i ≤ n) (ho : old.length = n) (hn : new.length = m) (j : Nat) :
  (old.take i ++ (new ++ old.drop i))[j]? = if j < i then old[j]? else if j < i + m then new[j - i]? else old[j - m]? := by
 by_cases h1 : j < i
 ·rw [if_pos h1, List.getElem?_append_left (by rw [List.length_take]; omega), List.getElem?_take, if_pos h1]
 ·rw [if_neg h1, List.getElem?_append_right (by rw [List.length_take]; omega)]
  have hl : (old.take i).length = i := by rw [List.length_take]; omega
  rw [hl]
  by_cases h2 : j < i + m
  ·rw [if_pos h2, List.getElem?_append_left (by omega)]
  ·rw [if_neg h2, List.getElem?_append_right (by omega), List.getElem?_drop]
   congr 1
   omega
theorem Keeps.setCells {S : Nat → Prop} {w a : World} (h : Keeps S w a) {b : Nat} (hb : b < w.heap.size → S b) : ∀ (vs : List Value) (o : Nat), Keeps S w (a.setCells b o vs)
 | [], _ => h
 | v :: vs, o => Keeps.setCells (a := a.setCell ⟨b, o, none⟩ v) (h.setCell (p := ⟨b, o, none⟩) hb v) hb vs (o + 1)
theorem own_of {w : World} {base g n cap z : Nat} {e : TypeId} {cur : Array Value} {xs : List Value} (hg : w.heap[g]? = some (.cells cur e (0, 0))) (hb : base ≤ g) (hn : n ≤ cap) (hc : cap ≤ maxLen) (hs : cur.size = cap * z)
  (hl : xs.length = n * z) (hx : ∀ j, j < n * z → cur[j]? = xs[j]?) : w.ownsRow base e z (.slice (some ⟨g, 0, none⟩) n cap) n xs := by
 refine ⟨hl, .inr ⟨g, cap, cur, rfl, hb, hg, hn, hc, hs, ?_⟩⟩
 apply List.ext_getElem?
 intro j
 rw [List.getElem?_take]
 by_cases hj : j < n * z
 ·rw [if_pos hj, ← hx j hj]
  simp
 ·rw [if_neg hj, List.getElem?_eq_none (by omega)]
end Go.Ev
namespace Go.Proofs
open Go.Shelf
def Tryz.cloneL_ren : Go.Shelf.Ren := ⟨fun | 316 => 98 | n => n, fun | 9 => 9 | 3 => 3 | 4 => 4 | 37 => 93 | 0 => 0 | 127 => 207 | 5 => 5 | n => n, fun | n => n⟩
theorem Tryz.cloneL : Go.Proofs.LaysM.n316 Tryz.prog Tryz.cloneL_ren := {
 mixed := by kernel_rfl
 f316 := Tryz.func98.trans (congrArg some (by kernel_rfl))
 t0 := Tryz.underlying0
 a0 := Tryz.isAgg0
 z0 := Tryz.sizeOf0
 v0 := Tryz.zeroValue0
 t3 := Tryz.underlying3
 a3 := Tryz.isAgg3
 z3 := Tryz.sizeOf3
 v3 := Tryz.zeroValue3
 t4 := Tryz.underlying4
 a4 := Tryz.isAgg4
 z4 := Tryz.sizeOf4
 v4 := Tryz.zeroValue4
 t9 := Tryz.underlying9
 a9 := Tryz.isAgg9
 z9 := Tryz.sizeOf9
 v9 := Tryz.zeroValue9
 t37 := Tryz.underlying93
 a37 := Tryz.isAgg93
 z37 := Tryz.sizeOf93
 v37 := Tryz.zeroValue93
 t127 := Tryz.underlying207
 a127 := Tryz.isAgg207
 z127 := Tryz.sizeOf207
 v127 := Tryz.zeroValue207
 t5 := Tryz.underlying5
 a5 := Tryz.isAgg5
 z5 := Tryz.sizeOf5
 v5 := Tryz.zeroValue5
 i0 := by kernel_rfl
 i3 := by kernel_rfl
 i4 := by kernel_rfl
 i5 := by kernel_rfl
 i9 := by kernel_rfl
 i37 := by kernel_rfl
 i127 := by kernel_rfl }
end Go.Proofs
namespace Go.Ev
open Go.Proofs Go.RowKit Go.Lib
theorem run_copy_z {P : Program} (w : World) (dT sT ty elem : TypeId) (z b o dLen dCap : Nat) (a : Addr) (sLen sCap : Nat) (cs : List Value)
  (hu : P.underlying dT = some (.slice elem)) (hs : (P.info? elem).map (·.size) = some z) (hn : cs.length = Nat.min sLen dLen * z)
  (hsrc : ∀ j v, cs[j]? = some v → w.cell? (a.add j) = some v) (hc : ∀ j, j < cs.length → (w.cell? ⟨b, o + j, none⟩).isSome = true) (hf : ∀ j, j < cs.length → w.frozen? ⟨b, o + j, none⟩ = false) (h1 : ∀ v ∈ cs, v.oneCell' = true) :
  (Builtin.copy_ #[dT, sT] ty #[.slice (some ⟨b, o, none⟩) dLen dCap, .slice (some a) sLen sCap]).run P w = .ok (goInt (Nat.min sLen dLen)) (w.setCells b o cs) := by
 have hl := run_loadCells_list (P := P) w a cs hsrc
 have hst := run_storeCells_cells (P := P) b o cs 0 w (by simpa using hc) (by simpa using hf) h1
 cases hq : P.info? elem with
 | none => simp [hq] at hs
 | some i =>
  have hi : i.size = z := by simpa [hq] using hs
  simp [Builtin.copy_, run_underlying hu, Builtin.lenOf, Builtin.firstCells, sizeOf, typeInfo, hq, hi, ← hn, hl, hst]
/-- There is room: in place. -/
theorem insert_shift (b n c i vb voff m vc : Nat) (cs vs : List Value) (w : World) (hi : i < n) (hm : 0 < m) (hroom : n + m ≤ c) (hbig : n + m ≤ 1000000) (hvb : vb ≠ b)
  (hcl : cs.length = n * 4) (hvl : vs.length = m * 4)
  (hcs : ∀ j v, cs[j]? = some v → w.cell? ⟨b, j, none⟩ = some v) (hsp : ∀ j, j < (n + m) * 4 → (w.cell? ⟨b, j, none⟩).isSome = true) (hfz : ∀ j, j < (n + m) * 4 → w.frozen? ⟨b, j, none⟩ = false)
  (hvs : ∀ j v, vs[j]? = some v → w.cell? ⟨vb, voff + j, none⟩ = some v) (h1c : ∀ v ∈ cs, v.oneCell' = true) (h1v : ∀ v ∈ vs, v.oneCell' = true)
  (tA tB : TypeId) (kA kB : Nat) (hsa : w.shape? vb = some (tA, kA)) (hsb : w.shape? b = some (tB, kB)) (hkB : kB ≠ 0) (hfa : w.frozen? ⟨vb, voff, none⟩ = false) (hfe : w.frozen? ⟨vb, kA, none⟩ = false) :
  Calls Tryz.prog 120 #[.slice (some ⟨b, 0, none⟩) n c, .int .i64 i, .slice (some ⟨vb, voff, none⟩) m vc] w fun e w' =>
   e = .returned (.slice (some ⟨b, 0, none⟩) (n + m) c) ∧ w' = (w.drew.setCells b ((i + m) * 4) (cs.drop (i * 4))).setCells b (i * 4) vs := by
 have hz1 : ¬ ((m : Int) = 0) := by omega
 have hz2 : ¬ ((i : Int) = (n : Int)) := by omega
 have hov : ∀ lb cb, (callFunc 162 #[.slice (some ⟨vb, voff, none⟩) m vc, .slice (some ⟨b, (i + m) * 4, none⟩) lb cb]).run Tryz.prog w = .ok (.value (.bool false)) w := fun lb cb => by
  rw [run_callFunc_extern Tryz.func162 (by kernel_rfl) (by kernel_rfl) (by kernel_rfl) (e := Extern.SlicesOverlaps.overlaps #[117, 117] #[4]) (by kernel_rfl),
   Lib.run_overlaps_apart w 117 4 144 Tryz.underlying117 4 Tryz.sizeOf144 ⟨vb, voff, none⟩ ⟨b, (i + m) * 4, none⟩ m vc lb cb hvb tA tB kA kB hsa hsb hkB hfa hfe]
  rfl
 have hsz : (Tryz.prog.info? 144).map (·.size) = some 4 := by kernel_rfl
 have hdl : (cs.drop (i * 4)).length = (n - i) * 4 := by rw [List.length_drop, hcl]; omega
 have hw1 : IntKind.i64.wrap ((i : Int) + (m : Int)) = (i : Int) + (m : Int) := by rw [IntKind.wrap_i64]; omega
 have hb1 : (0 : Int) ≤ (i : Int) + (m : Int) := by omega
 have hin : i ≤ n := by omega
 have htn : ((i : Int) + (m : Int)).toNat = i + m := by omega
 have hb2 : ¬ (c = i + m) := by omega
 have hb3 : (i : Int) ≤ (n : Int) + (m : Int) := by omega
 have hb4 : ¬ (c = i) := by omega
 have hcp1 : ∀ ty dc sc, (Builtin.copy_ #[117, 117] ty #[.slice (some ⟨b, (i + m) * 4, none⟩) (n + m - (i + m)) dc, .slice (some ⟨b, i * 4, none⟩) (n + m - i) sc]).run Tryz.prog w.drew = .ok (goInt (Nat.min (n + m - i) (n + m - (i + m)))) (w.drew.setCells b ((i + m) * 4) (cs.drop (i * 4))) := fun ty dc sc =>
  run_copy_z w.drew _ _ ty 144 4 b ((i + m) * 4) (n + m - (i + m)) dc ⟨b, i * 4, none⟩ (n + m - i) sc (cs.drop (i * 4)) Tryz.underlying117 hsz (by rw [hdl]; congr 1; simp only [Nat.min_def]; split <;> omega)
   (fun j v hj => by rw [Addr.add_lit]; exact hcs (i * 4 + j) v (by rwa [List.getElem?_drop] at hj))
   (fun j hj => hsp _ (by omega)) (fun j hj => hfz _ (by omega)) (fun v hv => h1c v (List.mem_of_mem_drop hv))
 obtain ⟨W1, hW1⟩ : ∃ W1, W1 = w.drew.setCells b ((i + m) * 4) (cs.drop (i * 4)) := ⟨_, rfl⟩
 have hsp1 : ∀ k, k < (n + m) * 4 → (W1.cell? ⟨b, k, none⟩).isSome = true := fun k hk => by
  rw [hW1]
  exact isSome_setCells b (cs.drop (i * 4)) ((i + m) * 4) w.drew (fun j hj => hsp _ (by rw [hdl] at hj; omega)) k (hsp k hk)
 have hcp2 : ∀ (W : World), (∀ x, W.cell? x = W1.cell? x) → (∀ x, W.frozen? x = W1.frozen? x) → ∀ ty dc, (Builtin.copy_ #[117, 117] ty #[.slice (some ⟨b, i * 4, none⟩) (n + m - i) dc, .slice (some ⟨vb, voff, none⟩) m vc]).run Tryz.prog W = .ok (goInt (Nat.min m (n + m - i))) (W.setCells b (i * 4) vs) := fun W hWc hWf ty dc =>
  run_copy_z W _ _ ty 144 4 b (i * 4) (n + m - i) dc ⟨vb, voff, none⟩ m vc vs Tryz.underlying117 hsz (by rw [hvl]; congr 1; simp only [Nat.min_def]; split <;> omega)
   (fun j v hj => by
    rw [Addr.add_lit, hWc, hW1, World.cell?_setCells_out b _ _ _ _ (fun h _ => absurd h hvb)]
    exact hvs j v hj)
   (fun j hj => by rw [hWc]; exact hsp1 _ (by omega)) (fun j hj => by rw [hWf, hW1, World.frozen?_setCells]; exact hfz _ (by omega)) h1v
 rw [← hW1] at hcp1
 clear hdl hsz hcl hvl
 go_enter Tryz.func120, Tryz.ntmps120
 go_wp2_with (simp only [hov])
 go_region_law (refine step_copy_runI rfl _ _ 117 117 rfl _ _ (by simp [Act.eval, Act.put]) (by simp [Act.eval, Act.put]) (hcp1 _ _ _) ?_)
 go_wp2_with (at_builtin; refine wpList_copy_runI _ rfl _ _ 117 117 rfl _ _ rfl rfl (hcp2 _ (fun _ => rfl) (fun _ => rfl) _ _) ?_)
 go_ret
 first | exact ⟨rfl, rfl⟩ | exact ⟨rfl, by rw [hW1]⟩
/-- There is no room: a new row. -/
theorem insert_grow (b n c i vb voff m vc : Nat) (cs vs : List Value) (w : World) (hi : i < n) (hm : 0 < m) (hnc : n ≤ c) (hroom : c < n + m) (hbig : n + m ≤ 1000000)
  (hcl : cs.length = n * 4) (hvl : vs.length = m * 4)
  (hcs : ∀ j v, cs[j]? = some v → w.cell? ⟨b, j, none⟩ = some v)
  (hvs : ∀ j v, vs[j]? = some v → w.cell? ⟨vb, voff + j, none⟩ = some v) (h1c : ∀ v ∈ cs, v.oneCell' = true) (h1v : ∀ v ∈ vs, v.oneCell' = true) :
  Calls Tryz.prog 120 #[.slice (some ⟨b, 0, none⟩) n c, .int .i64 i, .slice (some ⟨vb, voff, none⟩) m vc] w fun e w' =>
   ∃ (G : Nat) (ROW : Array Value), (n + m ≤ G ∧ G ≤ 9223372036854775807) ∧ ROW.size = G * 4 ∧ (∀ j, j < i * 4 → ROW[j]? = cs[j]?) ∧ e = .returned (.slice (some ⟨w.heap.size, 0, none⟩) (n + m) G) ∧
   w' = (((w.alloc (.cells ROW 144)).drew.setCells w.heap.size (i * 4) vs).drew).setCells w.heap.size ((i + m) * 4) (cs.drop (i * 4)) := by
 obtain ⟨i0, hi0, hz0, hzs, hzb⟩ := info_parts (show (Tryz.prog.info? 144).map (fun i => (i.zero, i.size, i.bytes)) = some (some (.agg #[.string ⟨#[]⟩, .string ⟨#[]⟩, .int .i64 0, .int .i64 0]), 4, 48) by kernel_rfl)
 have hz1 : ¬ ((m : Int) = 0) := by omega
 have hz2 : ¬ ((i : Int) = (n : Int)) := by omega
 have hz3 : (c : Int) < (n : Int) + (m : Int) := by omega
 have hsz : (Tryz.prog.info? 144).map (·.size) = some 4 := by kernel_rfl
 have hbw : b < w.heap.size := block_lt_of_cell (hcs 0 _ (List.getElem?_eq_getElem (by omega)))
 have hvw : vb < w.heap.size := block_lt_of_cell (hvs 0 _ (List.getElem?_eq_getElem (by omega)))
 have hkk : (n : Int) + (m : Int) - (i : Int) = ((n + m - i : Nat) : Int) := by omega
 have hik : i + (n + m - i) = n + m := by omega
 have hold : (Builtin.firstCells i0.size i (.slice (some ⟨b, 0, none⟩) i c)).run Tryz.prog w.drew = .ok (cs.take (i * 4)).toArray w.drew := by
  rw [hzs]
  exact run_firstCells_some w.drew 4 i ⟨b, 0, none⟩ i c (cs.take (i * 4)) (by rw [List.length_take]; omega) (fun j v hj => by
   rw [Addr.add_lit]
   rw [List.getElem?_take] at hj
   split at hj
   ·rw [Nat.zero_add]; exact hcs j v hj
   ·cases hj)
 have hrz : ∀ ty, (Builtin.append_ #[117, 3] ty #[.slice (some ⟨b, 0, none⟩) i c, .int .i64 ((n : Int) + (m : Int) - (i : Int))]).run Tryz.prog w =
   .ok (.slice (some ⟨w.heap.size, 0, none⟩) (n + m) (grownCap w (n + m) c 144)) (w.drew.alloc (.cells ((cs.take (i * 4)).toArray ++ Builtin.zeroCells (Value.agg #[.string ⟨#[]⟩, .string ⟨#[]⟩, .int .i64 0, .int .i64 0]).cells (n + m - i) ++ Builtin.zeroCells (Value.agg #[.string ⟨#[]⟩, .string ⟨#[]⟩, .int .i64 0, .int .i64 0]).cells (grownCap w (n + m) c 144 - (n + m))) 144)) := fun ty => by
  have h := Lib.run_append_grow_zeros w 117 3 ty 144 i0 _ .i64 .i64 Tryz.underlying117 Tryz.underlying3 hi0 hz0 (some ⟨b, 0, none⟩) i c (cs.take (i * 4)) hold (n + m - i) (by omega) (by omega) (by omega) (by omega) (by rw [hzb]; omega)
   (by rw [hzb, hik]; exact growslice_fits hroom (by omega))
  rw [hik] at h
  rw [hkk]
  exact h
 obtain ⟨G, hG⟩ : ∃ G, G = grownCap w (n + m) c 144 := ⟨_, rfl⟩
 obtain ⟨ROW, hROW⟩ : ∃ ROW : Array Value, ROW = (cs.take (i * 4)).toArray ++ Builtin.zeroCells (Value.agg #[.string ⟨#[]⟩, .string ⟨#[]⟩, .int .i64 0, .int .i64 0]).cells (n + m - i) ++ Builtin.zeroCells (Value.agg #[.string ⟨#[]⟩, .string ⟨#[]⟩, .int .i64 0, .int .i64 0]).cells (G - (n + m)) := ⟨_, rfl⟩
 rw [← hG] at hrz
 rw [← hROW] at hrz
 have hGn : n + m ≤ G := by rw [hG]; exact grownCap_ge w _ _ _
 have hRs : ROW.size = G * 4 := by
  rw [hROW]
  have h4 : (Value.agg #[Value.string ⟨#[]⟩, Value.string ⟨#[]⟩, Value.int .i64 0, Value.int .i64 0]).cells.size = 4 := rfl
  simp only [Array.size_append, List.size_toArray, List.length_take, hcl, Builtin.zeroCells, Array.size_map, Array.size_range, h4]
  rw [Nat.min_eq_left (by omega)]
  omega
 have hRp : ∀ j, j < i * 4 → ROW[j]? = cs[j]? := by
  intro j hj
  have hl : (cs.take (i * 4)).toArray.size = i * 4 := by rw [List.size_toArray, List.length_take]; omega
  rw [hROW, Array.append_assoc, Array.getElem?_append_left (by omega), List.getElem?_toArray, List.getElem?_take, if_pos hj]
 obtain ⟨W1, hW1⟩ : ∃ W1, W1 = w.drew.alloc (.cells ROW 144) := ⟨_, rfl⟩
 rw [← hW1] at hrz
 have hN : ∀ j, j < (n + m) * 4 → (W1.cell? ⟨w.heap.size, j, none⟩).isSome = true := fun j hj => by
  rw [hW1, World.cell?_alloc_at (w := w.drew) ROW _ w.heap.size j rfl, Array.getElem?_eq_getElem (by omega)]; rfl
 have hNf : ∀ j, W1.frozen? ⟨w.heap.size, j, none⟩ = false := fun j => by rw [hW1]; exact World.frozen?_alloc_at (w := w.drew) ROW _ w.heap.size j rfl
 have hOb : ∀ j v, w.cell? ⟨b, j, none⟩ = some v → W1.cell? ⟨b, j, none⟩ = some v := fun j v h => by rw [hW1, World.cell?_alloc_past (w := w.drew) _ b j hbw]; exact h
 have hOv : ∀ j v, w.cell? ⟨vb, j, none⟩ = some v → W1.cell? ⟨vb, j, none⟩ = some v := fun j v h => by rw [hW1, World.cell?_alloc_past (w := w.drew) _ vb j hvw]; exact h
 have hdl : (cs.drop (i * 4)).length = (n - i) * 4 := by rw [List.length_drop, hcl]; omega
 have hcpA : ∀ (W : World), (∀ x, W.cell? x = W1.cell? x) → (∀ x, W.frozen? x = W1.frozen? x) → ∀ ty dc, (Builtin.copy_ #[117, 117] ty #[.slice (some ⟨w.heap.size, i * 4, none⟩) (n + m - i) dc, .slice (some ⟨vb, voff, none⟩) m vc]).run Tryz.prog W = .ok (goInt (Nat.min m (n + m - i))) (W.setCells w.heap.size (i * 4) vs) := fun W hWc hWf ty dc =>
  run_copy_z W _ _ ty 144 4 w.heap.size (i * 4) (n + m - i) dc ⟨vb, voff, none⟩ m vc vs Tryz.underlying117 hsz (by rw [hvl]; congr 1; simp only [Nat.min_def]; split <;> omega)
   (fun j v hj => by rw [Addr.add_lit, hWc]; exact hOv _ v (hvs j v hj))
   (fun j hj => by rw [hWc]; exact hN _ (by omega)) (fun j hj => by rw [hWf]; exact hNf _) h1v
 have hbN : b ≠ w.heap.size := by omega
 have hcpB : ∀ (W : World), (∀ x, W.cell? x = (W1.setCells w.heap.size (i * 4) vs).cell? x) → (∀ x, W.frozen? x = (W1.setCells w.heap.size (i * 4) vs).frozen? x) → ∀ ty dc sc, (Builtin.copy_ #[117, 117] ty #[.slice (some ⟨w.heap.size, (i + m) * 4, none⟩) (n + m - (i + m)) dc, .slice (some ⟨b, i * 4, none⟩) (n - i) sc]).run Tryz.prog W = .ok (goInt (Nat.min (n - i) (n + m - (i + m)))) (W.setCells w.heap.size ((i + m) * 4) (cs.drop (i * 4))) := fun W hWc hWf ty dc sc =>
  run_copy_z W _ _ ty 144 4 w.heap.size ((i + m) * 4) (n + m - (i + m)) dc ⟨b, i * 4, none⟩ (n - i) sc (cs.drop (i * 4)) Tryz.underlying117 hsz (by rw [hdl]; congr 1; simp only [Nat.min_def]; split <;> omega)
   (fun j v hj => by
    rw [Addr.add_lit, hWc, World.cell?_setCells_out _ _ _ _ _ (fun h _ => absurd h hbN)]
    exact hOb _ v (hcs (i * 4 + j) v (by rwa [List.getElem?_drop] at hj)))
   (fun j hj => by rw [hWc]; exact isSome_setCells w.heap.size vs (i * 4) W1 (fun t ht => hN _ (by rw [hvl] at ht; omega)) _ (hN _ (by rw [hdl] at hj; omega)))
   (fun j hj => by rw [hWf, World.frozen?_setCells]; exact hNf _) (fun v hv => h1c v (List.mem_of_mem_drop hv))
 have hG63 : G ≤ 9223372036854775807 := by
  have := grownCap_le_maxLen w (n + m) c 144 (by unfold maxLen; omega)
  rw [← hG] at this
  unfold maxLen at this
  omega
 have hGi : ¬ (G = i) := by omega
 have hGim : ¬ (G = i + m) := by omega
 have hci : ¬ (c = i) := by omega
 have hc63 : c ≤ 9223372036854775807 := by omega
 subst hW1
 have hE1 : ∀ x, ((w.alloc (.cells ROW 144)).drew).cell? x = (w.drew.alloc (.cells ROW 144)).cell? x := fun x => rfl
 have hE2 : ∀ x, ((w.alloc (.cells ROW 144)).drew).frozen? x = (w.drew.alloc (.cells ROW 144)).frozen? x := fun x => rfl
 have hF1 : ∀ x, (((w.alloc (.cells ROW 144)).drew.setCells w.heap.size (i * 4) vs).drew).cell? x = ((w.drew.alloc (.cells ROW 144)).setCells w.heap.size (i * 4) vs).cell? x := fun x => rfl
 have hF2 : ∀ x, (((w.alloc (.cells ROW 144)).drew.setCells w.heap.size (i * 4) vs).drew).frozen? x = ((w.drew.alloc (.cells ROW 144)).setCells w.heap.size (i * 4) vs).frozen? x := fun x => rfl
 have hw1 : IntKind.i64.wrap ((i : Int) + (m : Int)) = (i : Int) + (m : Int) := by rw [IntKind.wrap_i64]; omega
 have hb1 : (0 : Int) ≤ (i : Int) + (m : Int) := by omega
 have hin : i ≤ n := by omega
 have htn : ((i : Int) + (m : Int)).toNat = i + m := by omega
 have hb3 : (i : Int) ≤ (n : Int) := by omega
 refine Calls.mono (R := fun e w' => e = .returned (.slice (some ⟨w.heap.size, 0, none⟩) (n + m) G) ∧ w' = (((w.alloc (.cells ROW 144)).drew.setCells w.heap.size (i * 4) vs).drew).setCells w.heap.size ((i + m) * 4) (cs.drop (i * 4))) ?_ (fun e w' h => ⟨G, ROW, ⟨hGn, hG63⟩, hRs, hRp, h⟩)
 clear hkk hik hold hROW hG hRs hRp hdl hsz hcl hvl hzs hzb hz0 hi0
 go_enter Tryz.func120, Tryz.ntmps120
 go_wp2_with (first
  | (at_builtin; refine Lib.wpList_append_run _ rfl _ _ _ _ rfl _ _ rfl rfl _ _ (hrz _) ?_)
  | (at_builtin; refine wpList_copy_runI _ rfl _ _ 117 117 rfl _ _ rfl rfl (hcpA _ hE1 hE2 _ _) ?_)
  | (at_builtin; refine wpList_copy_runI _ rfl _ _ 117 117 rfl _ _ rfl rfl (hcpB _ (fun _ => rfl) (fun _ => rfl) _ _ _) ?_))
 go_region_law (refine step_copy_runI rfl _ _ 117 117 rfl (.slice (some ⟨w.heap.size, (i + m) * 4, none⟩) (n + m - (i + m)) (G - (i + m))) (.slice (some ⟨b, i * 4, none⟩) (n - i) (c - i)) (by simp [Act.eval, Act.put]) (by simp [Act.eval, Act.put]) (hcpB _ hF1 hF2 3 (G - (i + m)) (c - i)) ?_)
 go_wp2
 go_ret
 exact ⟨rfl, rfl⟩
end Go.Ev
