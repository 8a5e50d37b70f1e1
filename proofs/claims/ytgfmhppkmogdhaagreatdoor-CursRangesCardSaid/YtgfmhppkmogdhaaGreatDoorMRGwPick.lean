/-
  A load that no other operation of a drawn region turns is taken first. A region in the order of its text, within a round. Steps of law 11 in a row: a kind, a key, a value each; what an argument's reading says of them. Are steps few and short enough? The pairs that steps make, put in one by one. What a cursor picks.
-/
import Derived.Test.YtgfmhppkmogdhaaGreatDoorMREvInsert
import Derived.Test.YtgfmhppkmogdhaaGreatDoorMRGvGetC
import Derived.Tactics
import Derived.Test.YtgfmhppkmogdhaaGreatDoorMRGvBranch
import Derived.OwnWalkIn
import Derived.Test.YtgfmhppkmogdhaaGreatDoorMRGwReader
import Derived.Lib.SmallJoins
import Derived.Deep.Slices
import Derived.Deep.LoopGhost
import Derived.Deep.DeepMust
import Derived.Test.YtgfmhppkmogdhaaGreatDoorMRGvOrd
import Derived.Test.YtgfmhppkmogdhaaGreatDoorMRGvCurs
import Derived.Test.YtgfmhppkmogdhaaGreatDoorMRGwReplace
set_option linter.unusedVariables false
set_option linter.unusedSimpArgs false
namespace Go.Ev

/-- All that was there is there still. -/
def Lasts (w w' : World) : Prop := w.heap.size ≤ w'.heap.size ∧ ∀ k, k < w.heap.size → w'.heap[k]? = w.heap[k]?
theorem Lasts.refl (w : World) : Lasts w w := ⟨Nat.le_refl _, fun _ _ => rfl⟩
theorem Lasts.trans {a b c : World} (h : Lasts a b) (k : Lasts b c) : Lasts a c := ⟨Nat.le_trans h.1 k.1, fun i hi => (k.2 i (Nat.lt_of_lt_of_le hi h.1)).trans (h.2 i hi)⟩
theorem Lasts.cell {w w' : World} (h : Lasts w w') {p : Addr} {v : Value} (hc : w.cell? p = some v) : w'.cell? p = some v := by
  have hlt : p.block < w.heap.size := by
    unfold World.cell? at hc
    cases hb : w.heap[p.block]? with
    | none => simp [hb] at hc
    | some x => exact (Array.getElem?_eq_some_iff.1 hb).1
  have e : w'.cell? p = w.cell? p := by
    unfold World.cell?
    rw [h.2 _ hlt]
  rw [e]
  exact hc

/-- No store, no draw of the system. -/
def Tame {α : Type} : Sem α → Prop
  | .pure _ => True
  | .load _ _ k => ∀ v, Tame (k v)
  | .store .. => False
  | .new _ k => ∀ r, Tame (k r)
  | .shape _ k => ∀ s, Tame (k s)
  | .freeze .. => False
  | .frozen _ k => ∀ b, Tame (k b)
  | .getObj _ k => ∀ o, Tame (k o)
  | .setObj .. => False
  | .choose _ k => ∀ n, Tame (k n)
  | .sys .. => False
  | .program k => ∀ p, Tame (k p)
  | .mark _ k => Tame k
  | .halt _ => True

theorem Tame.bind' {α β : Type} {f : α → Sem β} : ∀ (s : Sem α), Tame s → (∀ x, Tame (f x)) → Tame (Sem.bind s f)
  | .pure _, _, hf => hf _
  | .load _ _ k, h, hf => fun v => Tame.bind' (k v) (h v) hf
  | .store .., h, _ => h.elim
  | .new _ k, h, hf => fun v => Tame.bind' (k v) (h v) hf
  | .shape _ k, h, hf => fun v => Tame.bind' (k v) (h v) hf
  | .freeze .., h, _ => h.elim
  | .frozen _ k, h, hf => fun v => Tame.bind' (k v) (h v) hf
  | .getObj _ k, h, hf => fun v => Tame.bind' (k v) (h v) hf
  | .setObj .., h, _ => h.elim
  | .choose _ k, h, hf => fun v => Tame.bind' (k v) (h v) hf
  | .sys .., h, _ => h.elim
  | .program k, h, hf => fun v => Tame.bind' (k v) (h v) hf
  | .mark _ k, h, hf => Tame.bind' k h hf
  | .halt _, _, _ => trivial
theorem Tame.bind {α β : Type} {s : Sem α} {f : α → Sem β} (h : Tame s) (hf : ∀ x, Tame (f x)) : Tame (s >>= f) := Tame.bind' s h hf
theorem Tame.pure {α : Type} (x : α) : Tame (Pure.pure x : Sem α) := trivial

theorem Tame.run {α : Type} {P : Program} : ∀ (s : Sem α), Tame s → ∀ (w w' : World) (x : α), s.run P w = .ok x w' → Lasts w w'
  | .pure _, _, w, w', x, h => by cases h; exact Lasts.refl _
  | .load m a k, ht, w, w', x, h => by
    simp only [Sem.run] at h
    split at h
    · exact Tame.run (k _) (ht _) _ _ _ h
    · split at h
      · exact Tame.run (k _) (ht _) _ _ _ h
      · cases h
  | .store .., ht, _, _, _, _ => ht.elim
  | .new o k, ht, w, w', x, h => by
    simp only [Sem.run] at h
    refine Lasts.trans ⟨by simp, fun i hi => ?_⟩ (Tame.run (k _) (ht _) _ _ _ h)
    simp only [Array.getElem?_push]
    rw [if_neg (by omega)]
  | .shape _ k, ht, w, w', x, h => Tame.run (k _) (ht _) _ _ _ h
  | .freeze .., ht, _, _, _, _ => ht.elim
  | .frozen _ k, ht, w, w', x, h => Tame.run (k _) (ht _) _ _ _ h
  | .getObj r k, ht, w, w', x, h => by
    simp only [Sem.run] at h
    split at h
    · cases h
    · exact Tame.run (k _) (ht _) _ _ _ h
    · cases h
  | .setObj .., ht, _, _, _, _ => ht.elim
  | .choose q k, ht, w, w', x, h => by
    simp only [Sem.run] at h
    split at h
    · exact Tame.run (k _) (ht _) _ _ _ h
    · exact (show Lasts w { w with drawn := w.drawn + 1 } from ⟨Nat.le_refl _, fun _ _ => rfl⟩).trans (Tame.run (k _) (ht _) _ _ _ h)
  | .sys .., ht, _, _, _, _ => ht.elim
  | .program k, ht, w, w', x, h => Tame.run (k _) (ht _) _ _ _ h
  | .mark _ k, ht, w, w', x, h => Tame.run k ht _ _ _ h
  | .halt _, _, _, _, _, h => by cases h

theorem tame_bounds {α : Type} (k : IntKind) (i l : Int) (c : BoundsCode) : Tame (Go.boundsPanic k i l c : Sem α) := by
  have hj : ∀ s, Tame (Go.runtimePanic (.bounds (IntKind.i64.wrap i) l s c) : Sem α) := fun s => by
    unfold Go.runtimePanic
    exact Tame.bind (s := Go.program) (fun _ => trivial) fun p => trivial
  unfold Go.boundsPanic
  dsimp only
  split
  · exact Tame.bind (Tame.bind' (s := Go.choose _) (fun _ => trivial) fun _ => trivial) hj
  · exact Tame.bind trivial hj
theorem Tame.underlying (t : TypeId) : Tame (Go.underlying t) := by
  unfold Go.underlying
  refine Tame.bind (fun _ => trivial) fun p => ?_
  split <;> trivial
theorem Tame.typeInfo (t : TypeId) : Tame (Go.typeInfo t) := by
  unfold Go.typeInfo
  refine Tame.bind (fun _ => trivial) fun p => ?_
  split <;> trivial
theorem Tame.zeroValue (t : TypeId) : Tame (Go.zeroValue t) := by
  unfold Go.zeroValue
  refine Tame.bind (Tame.typeInfo t) fun i => ?_
  split <;> trivial
theorem Tame.sizeOf (t : TypeId) : Tame (Go.sizeOf t) := Tame.bind (Tame.typeInfo t) fun _ => trivial
theorem Tame.isAgg (t : TypeId) : Tame (Go.isAgg t) := by
  refine Tame.bind (Tame.underlying t) fun d => ?_
  split <;> trivial
theorem Tame.load (a : Addr) : Tame (Go.load a) := fun _ => trivial
theorem Tame.loadCellsFrom (a : Addr) : ∀ (n i : Nat) (acc : Array Value), Tame (Go.loadCellsFrom a i n acc)
  | 0, _, _ => trivial
  | n + 1, i, acc => Tame.bind (Tame.load _) fun _ => Tame.loadCellsFrom a n _ _
theorem Tame.loadVar (t : TypeId) (a : Addr) : Tame (Go.loadVar t a) := by
  unfold Go.loadVar
  refine Tame.bind (Tame.isAgg t) fun b => ?_
  split
  · refine Tame.bind (Tame.sizeOf t) fun n => Tame.bind ?_ fun _ => trivial
    exact Tame.loadCellsFrom _ _ _ _
  · exact Tame.load _
theorem Tame.sureAddr (v : Value) : Tame (Instr.sureAddr v) := by
  unfold Instr.sureAddr
  split <;> trivial
theorem Tame.loadAt (t : TypeId) (v : Value) : Tame (Instr.loadAt t v) := Tame.bind (Tame.sureAddr v) fun _ => Tame.loadVar _ _
theorem Tame.newVar (t : TypeId) (v : Value) : Tame (Go.newVar t v) := Tame.bind (fun _ => trivial) fun _ => trivial
theorem Tame.alloc (t : TypeId) : Tame (Instr.alloc t true (.tuple #[])) := by
  unfold Instr.alloc
  refine Tame.bind (Tame.zeroValue t) fun z => ?_
  dsimp only
  exact Tame.bind (Tame.newVar _ _) fun _ => trivial
theorem Tame.asIntOf (v : Value) : Tame (Go.asIntOf v) := by
  unfold Go.asIntOf
  split <;> trivial
theorem Tame.indexAt (t : TypeId) (x i : Value) : Tame (Instr.indexAt t x i) := by
  unfold Instr.indexAt
  refine Tame.bind (Tame.asIntOf i) fun ki => ?_
  refine Tame.bind (Tame.underlying t) fun d => ?_
  have hj : ∀ r : Option Addr × Nat × TypeId, Tame (match r with
      | (base, len, elem) => do
        let __do_lift ← Go.underlying t
        have tiny : Bool :=
          decide (len ≤ 1) &&
            match __do_lift with
            | TypeDesc.array len elem => true
            | x => false
        match base with
          | some a =>
            if 0 ≤ ki.snd ∧ ki.snd < ↑len then do
              let __do_lift ← Go.sizeOf elem
              Pure.pure (Value.pointer (some (a.add (ki.snd.toNat * __do_lift))))
            else
              if tiny = true then
                unsupported
                  (Unsupported.noEntry "op/indexAddr.an index out of range at an array of length 0 or 1 (ledger 616)")
              else Go.boundsPanic ki.fst ki.snd (↑len) BoundsCode.index
          | none => Go.boundsPanic ki.fst ki.snd 0 BoundsCode.index : Sem Value) := by
    rintro ⟨base, len, elem⟩
    refine Tame.bind (Tame.underlying t) fun d => ?_
    dsimp only
    split
    · split
      · exact Tame.bind (Tame.sizeOf _) fun _ => trivial
      · split <;> (split <;> first | exact tame_bounds .. | exact trivial)
    · exact tame_bounds ..
  dsimp only
  split
  · exact Tame.bind (Tame.sureAddr _) fun _ => Tame.bind trivial hj
  · exact Tame.bind trivial hj
  · exact Tame.bind trivial hj

theorem Tame.newRow (t : TypeId) (cs : Array Value) : Tame (Go.newRow t cs) := Tame.bind (fun _ => trivial) fun _ => trivial
theorem Tame.box (t : TypeId) (v : Value) : Tame (Instr.box t v) := Tame.bind (Tame.newVar _ _) fun _ => trivial
theorem Tame.buildSlice (t : TypeId) (n : Nat) (ps : Array (Nat × Value)) : Tame (Instr.buildSlice t n ps) := by
  unfold Instr.buildSlice
  refine Tame.bind (Tame.underlying t) fun d => ?_
  dsimp only
  split
  · refine Tame.bind (Tame.sizeOf _) fun n => ?_
    rename_i elem
    split
    · exact trivial
    · split
      · refine Tame.bind (Tame.pure _) fun z => ?_
        split
        · exact Tame.bind (Tame.newRow _ _) fun _ => trivial
        · exact trivial
      · refine Tame.bind (Tame.zeroValue _) fun z => ?_
        refine Tame.bind (Tame.pure _) fun z => ?_
        split
        · exact Tame.bind (Tame.newRow _ _) fun _ => trivial
        · exact trivial
  · exact trivial

theorem Tame.getObj' {α : Type} (r : Nat) (k : Obj → Sem α) (h : ∀ o, Tame (k o)) : Tame (Go.getObj r >>= k) := Tame.bind (fun _ => trivial) h
theorem Tame.len (ts : Array TypeId) (t : TypeId) (args : Array Value) : Tame (Builtin.len_ ts t args) := by
  unfold Builtin.len_
  split
  · refine Tame.bind (Tame.underlying _) fun d => ?_
    split <;> first
      | trivial
      | (refine Tame.bind (Tame.underlying _) fun d => ?_; split <;> trivial)
      | (refine Tame.getObj' _ _ fun o => ?_; split <;> trivial)
  · trivial

def lenCall (c : Call) : Bool := match c.callee with | .builtin .len => true | _ => false

/-- Such operations keep what was there. -/
def tameOp (o : Oper) : Bool :=
  match o.op with
  | .move _ | .assign _ | .load .. | .alloc _ | .indexAddr .. | .box .. | .buildSlice .. => true
  | .call c => lenCall c
  | _ => false

theorem run_pure_image {α β : Type} {P : Program} {g : α → β} : ∀ (s : Sem α) (w w' : World) (x : β), (Sem.bind s fun y => Sem.pure (g y)).run P w = .ok x w' → ∃ u, x = g u
  | .pure y, w, w', x, h => by cases h; exact ⟨_, rfl⟩
  | .load m a k, w, w', x, h => by
    simp only [Sem.run, Sem.bind] at h
    split at h
    · exact run_pure_image (k _) _ _ _ h
    · split at h
      · exact run_pure_image (k _) _ _ _ h
      · cases h
  | .store m a v k, w, w', x, h => by
    simp only [Sem.bind] at h
    cases v <;> simp only [Sem.run] at h <;> first | cases h | skip
    all_goals
      split at h
      · split at h
        · cases h
        · exact run_pure_image k _ _ _ h
      · split at h
        · exact run_pure_image k _ _ _ h
        · cases h
  | .new o k, w, w', x, h => run_pure_image (k _) _ _ _ h
  | .shape _ k, w, w', x, h => run_pure_image (k _) _ _ _ h
  | .freeze _ _ k, w, w', x, h => run_pure_image k _ _ _ h
  | .frozen _ k, w, w', x, h => run_pure_image (k _) _ _ _ h
  | .getObj r k, w, w', x, h => by
    simp only [Sem.run, Sem.bind] at h
    split at h
    · cases h
    · exact run_pure_image (k _) _ _ _ h
    · cases h
  | .setObj r o k, w, w', x, h => by
    simp only [Sem.run, Sem.bind] at h
    split at h
    · cases h
    · exact run_pure_image k _ _ _ h
    · cases h
  | .choose q k, w, w', x, h => by
    simp only [Sem.run, Sem.bind] at h
    split at h
    · exact run_pure_image (k _) _ _ _ h
    · exact run_pure_image (k _) _ _ _ h
  | .sys _ k, w, w', x, h => run_pure_image (k _) _ _ _ h
  | .program k, w, w', x, h => run_pure_image (k _) _ _ _ h
  | .mark _ k, w, w', x, h => run_pure_image k _ _ _ h
  | .halt _, _, _, _, h => by cases h

theorem tame_value {P : Program} {s : Sem Value} (hs : Tame s) {w : World} {n : Next} {w' : World} (h : Sem.run P (s >>= fun x => Pure.pure (Next.value x)) w = .ok n w') : (∃ u, n = .value u) ∧ Lasts w w' :=
  ⟨run_pure_image s w w' n h, Tame.run _ (Tame.bind (f := fun x => Pure.pure (Next.value x)) hs fun _ => trivial) _ _ _ h⟩

theorem tameOp_run {P : Program} {o : Oper} (ho : tameOp o = true) {ρ : Operand → Value} {w : World} {n : Next} {w' : World} (h : (execOp ρ o).run P w = .ok n w') : (∃ u, n = .value u) ∧ Lasts w w' := by
  obtain ⟨dst, op, type, pos, after, guard⟩ := o
  cases op <;> simp only [tameOp] at ho <;> first | cases ho | skip
  · cases h
    exact ⟨⟨_, rfl⟩, Lasts.refl _⟩
  · cases h
    exact ⟨⟨_, rfl⟩, Lasts.refl _⟩
  · exact tame_value (Tame.alloc _) h
  · exact tame_value (Tame.box _ _) h
  · exact tame_value (Tame.buildSlice _ _ _) h
  · exact tame_value (Tame.loadAt _ _) h
  · exact tame_value (Tame.indexAt _ _ _) h
  · rename_i c
    obtain ⟨callee, args, ts⟩ := c
    cases callee <;> simp only [lenCall] at ho <;> first | cases ho | skip
    rename_i b
    cases b <;> simp only [] at ho <;> first | cases ho | skip
    exact tame_value (Tame.len _ _ _) h

section
variable {P : Program} {ops : Array Oper} {Q : Exit → Act → World → Prop} {md : Region.Mode}

/-- What waits for an operation that is not listed yet. -/
def behindR (md : Region.Mode) (ops : Array Oper) (listed : Array Bool) (i : Nat) : Nat → Nat → Bool
  | 0, _ => false
  | n + 1, j => match ops[j]? with
    | some o => o.after.any fun e => Region.binds md e && (e.on == i || (!listed.getD e.on true && behindR md ops listed i n e.on))
    | none => false

theorem behindR_not {i n j : Nat} {listed : Array Bool} (hi : listed.getD i true = false) (hb : behindR md ops listed i n j = true) : j ∉ Region.ready md ops listed := by
  intro hj
  obtain ⟨_, o, ho, hall⟩ := mem_ready.1 hj
  cases n with
  | zero => cases hb
  | succ n =>
    simp only [behindR, ho] at hb
    obtain ⟨e, he, h1⟩ := Array.any_eq_true'.1 hb
    simp only [Bool.and_eq_true, Bool.or_eq_true, beq_iff_eq, Bool.not_eq_true'] at h1
    have h2 := hall e he h1.1
    have key : listed.getD e.on true = false → False := fun h3 => by
      rcases Nat.lt_or_ge e.on listed.size with h' | h'
      · simp [h'] at h2 h3; rw [h3] at h2; cases h2
      · simp [Array.getElem?_eq_none h'] at h2
    rcases h1.2 with h3 | h3
    · exact key (h3 ▸ hi)
    · exact key h3.1

theorem behindR_keep {i : Nat} {listed : Array Bool} (hi : listed.getD i true = false) {j' : Nat} (hj' : j' ∈ Region.ready md ops listed) : ∀ (n j : Nat), behindR md ops listed i n j = true → behindR md ops (listed.setIfInBounds j' true) i n j = true
  | 0, _, h => h
  | n + 1, j, h => by
    simp only [behindR] at h ⊢
    split
    · rename_i o ho
      simp only [ho] at h
      obtain ⟨e, he, h1⟩ := Array.any_eq_true'.1 h
      refine Array.any_eq_true'.2 ⟨e, he, ?_⟩
      simp only [Bool.and_eq_true, Bool.or_eq_true, beq_iff_eq, Bool.not_eq_true'] at h1 ⊢
      refine ⟨h1.1, h1.2.imp id fun h3 => ⟨?_, behindR_keep hi hj' n _ h3.2⟩⟩
      rw [getD_set_ne true (fun e1 => behindR_not hi (e1 ▸ h3.2) hj')]
      exact h3.1
    · rename_i ho
      simp only [ho] at h
      cases h

/-- In all worlds that hold what this one holds, an operation yields this. -/
def YieldsR (P : Program) (ops : Array Oper) (o : Oper) (v : Value) (a : Act) (w0 : World) : Prop :=
  Region.wanted o (yielded ops a.tmps) = true ∧ ∀ w, Lasts w0 w → (execOp a.eval o).run P w = .ok (.value v) w

theorem YieldsR.wpOp {i : Nat} {o : Oper} {v : Value} {a : Act} {w0 w : World} (hi : ops[i]? = some o) (hy : YieldsR P ops o v a w0) (he : Lasts w0 w)
    {K : Act → World → Prop} (h : K (a.put o.dst v) w) : wpOp P ops Q i K a w := by
  unfold Go.wpOp
  simp only [hi]
  obtain ⟨hw, hv⟩ := hy
  simp only [hw, if_true, Oper.wp, hv w he, Oper.upon]
  exact .inl h

theorem wpOp_putR {j : Nat} {oi oj : Oper} {v : Value} {w0 : World} (hj : ops[j]? = some oj) (hap : oi.apart ops oj = true) (ht : tameOp oj = true)
    (hsi : ∀ cs b, oi.op ≠ .select cs b) (hsj : ∀ cs b, oj.op ≠ .select cs b)
    (hQ : ∀ c a w, Q (.panic c) (a.put oi.dst v) w → Q (.panic c) a w) {K : Act → World → Prop} {a : Act} {w : World}
    (hy : YieldsR P ops oi v a w0) (he : Lasts w0 w) (h : wpOp P ops Q j K (a.put oi.dst v) w) :
    wpOp P ops Q j (fun a' w' => YieldsR P ops oi v a' w0 ∧ Lasts w0 w' ∧ K (a'.put oi.dst v) w') a w := by
  obtain ⟨h1, h2, h3⟩ := Oper.apart_spec hap
  have keep : ∀ u, YieldsR P ops oi v (a.put oj.dst u) w0 := fun u => by
    unfold YieldsR at *
    rw [execOp_put oi hsi a oj.dst u h3, wanted_put oi a oj.dst u h3]
    exact hy
  unfold wpOp at *
  simp only [hj] at *
  rw [wanted_put oj a oi.dst v h1] at h
  split
  · rename_i hw
    simp only [hw, if_true] at h
    rcases h with h | ⟨hasks, hlets⟩
    case inr => exact .inr ⟨by unfold Oper.asks at *; rw [execOp_put oj hsj a oi.dst v h1] at hasks; exact hasks, hlets⟩
    refine .inl ?_
    unfold Oper.wp at *
    rw [execOp_put oj hsj a oi.dst v h1] at h
    generalize hr : (execOp a.eval oj).run P w = r at *
    cases r with
    | ok n w' =>
      obtain ⟨⟨u, rfl⟩, hx⟩ := tameOp_run ht hr
      simp only [Oper.upon] at h ⊢
      exact ⟨keep u, he.trans hx, by rw [← Act.put_comm a v u h2]; exact h⟩
    | halt x w' =>
      cases x <;> simp only [Oper.upon] at h ⊢
      case panic u => exact hQ _ _ _ h
  · rename_i hw
    simp only [hw] at h
    exact ⟨keep _, he, by rw [← Act.put_comm a v undef h2]; exact h⟩

theorem wpAny_firstR {i nb : Nat} {oi : Oper} {v : Value} {w0 : World} (hi : ops[i]? = some oi) (hsel : ∀ (j : Nat) (o : Oper) cs b, ops[j]? = some o → o.op ≠ .select cs b)
    (hQ : ∀ c a w, Q (.panic c) (a.put oi.dst v) w → Q (.panic c) a w) :
    ∀ (fuel : Nat) (listed : Array Bool) (a : Act) (w : World),
      (∀ j oj, ops[j]? = some oj → j ≠ i → listed.getD j true = false → behindR md ops listed i nb j = false → oi.apart ops oj = true ∧ tameOp oj = true) →
      i ∈ Region.ready md ops listed → YieldsR P ops oi v a w0 → Lasts w0 w →
      wpAny P md ops Q fuel (listed.setIfInBounds i true) (a.put oi.dst v) w → wpAny P md ops Q (fuel + 1) listed a w := by
  intro fuel
  induction fuel with
  | zero =>
    intro listed a w _ hr hy he H
    refine ⟨fun h => (by rw [h] at hr; cases hr), fun j hj => ?_⟩
    by_cases hji : j = i
    · subst hji; exact hy.wpOp hi he H
    · have := ready_mono hj hji
      rw [H.1] at this
      cases this
  | succ fuel ih =>
    intro listed a w hfree hr hy he H
    refine ⟨fun h => (by rw [h] at hr; cases hr), fun j hj => ?_⟩
    by_cases hji : j = i
    · subst hji; exact hy.wpOp hi he H
    · have h1 := H.2 j (ready_mono hj hji)
      have hiu := (mem_ready.1 hr).1
      obtain ⟨hjun, oj, hoj, hall⟩ := mem_ready.1 hj
      have hnb : behindR md ops listed i nb j = false := by
        cases hb : behindR md ops listed i nb j with
        | false => rfl
        | true => exact absurd hj (behindR_not hiu hb)
      obtain ⟨hap, htm⟩ := hfree j oj hoj hji hjun hnb
      have h2 := wpOp_putR hoj hap htm (fun cs b => hsel i oi cs b hi) (fun cs b => hsel j oj cs b hoj) hQ hy he h1
      have hfree' : ∀ k ok, ops[k]? = some ok → k ≠ i → (listed.setIfInBounds j true).getD k true = false →
          behindR md ops (listed.setIfInBounds j true) i nb k = false → oi.apart ops ok = true ∧ tameOp ok = true := fun k ok hk hki hun hno => by
        refine hfree k ok hk hki ?_ ?_
        · by_cases hjk : j = k
          · subst hjk; exact hjun
          · rw [getD_set_ne true hjk] at hun; exact hun
        · cases hb : behindR md ops listed i nb k with
          | false => rfl
          | true => rw [behindR_keep hiu hj nb k hb] at hno; cases hno
      refine wpOp_mono (fun a' w' h3 => ih (listed.setIfInBounds j true) a' w' hfree' (ready_mono hr (Ne.symm hji)) h3.1 h3.2.1 ?_) h2
      rw [Array.setIfInBounds_comm _ _ hji]
      exact h3.2.2

/-- No other way out. -/
def Only (T : Act → World → Prop) : Exit → Act → World → Prop
  | .normal, a, w => T a w
  | _, _, _ => False

theorem only_no {T : Act → World → Prop} : ¬ LetsOut (Only T) := by rintro ⟨_, _, h⟩; exact h

theorem wp_only {o : Oper} {a : Act} {w : World} {K K' : Act → World → Prop} {T : Act → World → Prop} (hK : ∀ a w, K a w → K' a w) (h : o.wp P a w K (Only T)) : o.wp P a w K' Q := by
  unfold Oper.wp at *
  generalize (execOp a.eval o).run P w = r at *
  cases r with
  | ok n w' =>
    cases n <;> simp only [Oper.upon] at h ⊢ <;>
      first
        | exact hK _ _ h
        | exact Calls.mono h (fun e w'' he => by
            cases e with
            | returned v => exact hK _ _ he
            | panicked c => exact he.elim
            | outgrown => exact (only_no he).elim)
        | exact Rows.mono h (fun _ _ he => hK _ _ he)
  | halt x w' => cases x <;> simp only [Oper.upon] at h ⊢ <;> exact h.elim

/-- A region's ends, in one word. -/
theorem any_only {T : Act → World → Prop} (hT : ∀ a w, T a w → Q .normal a w) : ∀ (fuel : Nat) (listed : Array Bool) (a : Act) (w : World), wpAny P md ops (Only T) fuel listed a w → wpAny P md ops Q fuel listed a w
  | 0, _, _, _, h => ⟨h.1, hT _ _ h.2⟩
  | fuel + 1, listed, a, w, h => ⟨fun h0 => hT _ _ (h.1 h0), fun i hi => by
    have h1 := h.2 i hi
    unfold Go.wpOp at *
    split
    · rename_i ho
      simp only [ho] at h1
      exact any_only hT fuel _ _ _ h1
    · rename_i o ho
      simp only [ho] at h1
      split
      · rename_i hw
        simp only [hw, if_true] at h1
        rcases h1 with h1 | h1
        · exact .inl (wp_only (fun a w => any_only hT fuel _ a w) h1)
        · exact (only_no h1.2).elim
      · rename_i hw
        simp only [hw] at h1
        exact any_only hT fuel _ _ _ h1⟩

/-- All that may come up ahead of it keeps what it reads. -/
def freeR (md : Region.Mode) (ops : Array Oper) (listed : Array Bool) (i : Nat) : Bool :=
  match ops[i]? with
  | none => false
  | some oi => (List.range ops.size).all fun j => j == i || listed.getD j true || behindR md ops listed i 12 j || match ops[j]? with
      | some oj => oi.apart ops oj && tameOp oj
      | none => true

theorem wpAny_takeR {i : Nat} {oi : Oper} {v : Value} {fuel : Nat} {listed : Array Bool} {a : Act} {w : World} (hi : ops[i]? = some oi)
    (hs : Region.noSelect ops = true) (hf : freeR md ops listed i = true) (hr : (Region.ready md ops listed).contains i = true)
    (hQ : ∀ c a w, Q (.panic c) (a.put oi.dst v) w → Q (.panic c) a w) (hy : YieldsR P ops oi v a w)
    (h : wpAny P md ops Q fuel (listed.setIfInBounds i true) (a.put oi.dst v) w) : wpAny P md ops Q (fuel + 1) listed a w :=
  wpAny_firstR (nb := 12) hi (Region.noSelect_spec hs) hQ fuel listed a w (fun j oj hj hne hun hnb => by
    simp only [freeR, hi, List.all_eq_true, List.mem_range] at hf
    have h1 := hf j (Array.getElem?_eq_some_iff.1 hj).1
    simp only [hj, Bool.or_eq_true, beq_iff_eq, hne, false_or, hun, hnb, Bool.false_eq_true, Bool.and_eq_true] at h1
    exact h1) (by simpa using hr) hy (Lasts.refl _) h

theorem tkR {d : Option Tmp} {op : Op} {t : TypeId} {ps : String} {af : Array Edge} {g : Option (Nat × Bool)} {v : Value} {fuel : Nat} {listed : Array Bool} {a : Act} {w : World} (i : Nat) (hi : ops[i]? = some ⟨d, op, t, ps, af, g⟩)
    (hc : (Region.noSelect ops && freeR md ops listed i && (Region.ready md ops listed).contains i) = true) (hQ : ∀ c a w, Q (.panic c) (a.put d v) w → Q (.panic c) a w)
    (hw : Region.wanted ⟨d, op, t, ps, af, g⟩ (yielded ops a.tmps) = true) (hy : ∀ w', Lasts w w' → (execOp a.eval ⟨d, op, t, ps, af, g⟩).run P w' = .ok (.value v) w')
    (h : wpAny P md ops Q fuel (listed.setIfInBounds i true) (a.put d v) w) : wpAny P md ops Q (fuel + 1) listed a w := by
  simp only [Bool.and_eq_true] at hc
  exact wpAny_takeR hi hc.1.1 hc.1.2 hc.2 hQ ⟨hw, hy⟩ h
end
end Go.Ev

namespace Go.Ev
open Go.RowKit

variable {P : Program} {l n : Nat}

theorem list_round {ops : Array Oper} {Q : Exit → Act → World → Prop} (hQ : ¬ LetsOut Q) : ∀ (L : List Oper) (_ : ∀ o ∈ L, ∀ c, o.op ≠ .defer c) (a : Act) (w : World), wpList P ops Q L a w → wpListIn (wideR l) n P ops Q L a w
  | [], _, _, _, h => h
  | o :: L, hd, a, w, h => by
    unfold wpList at h
    unfold wpListIn
    split
    · rename_i hw
      rw [if_pos hw] at h
      rcases h with h | h
      · exact Oper.wpIn_mono (fun a w hh => list_round hQ L (fun o ho => hd o (List.mem_cons_of_mem _ ho)) a w hh) (oper_round (hd o (List.mem_cons_self ..)) h)
      · exact absurd h.2 hQ
    · rename_i hw
      rw [if_neg hw] at h
      exact ⟨fun _ _ => trivial, list_round hQ L (fun o ho => hd o (List.mem_cons_of_mem _ ho)) _ _ h⟩

def noDeferL (L : List Oper) : Bool := L.all fun o => match o.op with | .defer _ => false | _ => true
theorem noDeferL_spec {L : List Oper} (h : noDeferL L = true) : ∀ o ∈ L, ∀ c, o.op ≠ .defer c := by
  intro o ho c e
  unfold noDeferL at h
  rw [List.all_eq_true] at h
  have := h o ho
  rw [e] at this
  cases this

/-- A region in the order of its text, within a round. -/
theorem region_round0 {id : Nat} {L : List Oper} {Q : Exit → Act → World → Prop} {a : Act} {w : World} (hd : noDeferL L = true) (hQ : ¬ LetsOut Q) (h : wpList P L.toArray Q L a w) : (Code.region id L.toArray false).wpIn (wideR l) n P Q a w :=
  wpIn_region_lit (list_round hQ L (noDeferL_spec hd) _ _ h)

theorem wpListIn_append_at {w : World} {ops : Array Oper} {rest : List Oper} {o : Oper} {a : Act} {Q : Exit → Act → World → Prop} (hgd : o.guard = none) (s x : Operand) (t : TypeId)
    (ho : o.op = .call { callee := .builtin .append, args := #[s, x], argTypes := #[t, t] })
    (base : Nat) (e : TypeId) (i : TypeInfo) (z : Value) (size bytes : Nat) (ht : P.underlying t = some (.slice e)) (hi : P.info? e = some i) (hz : i.zero = some z)
    (hsize : i.size = size) (hby : i.bytes = bytes) (hzs : z.cells.size = size) (hsz : 0 < size)
    (v : Value) (k : Nat) (xs : List Value) (hs : a.eval s = v) (hown : w.ownsRow base e size v k xs)
    (ad : Addr) (m c : Nat) (news : List Value) (hx : a.eval x = .slice (some ad) m c) (hl : news.length = m * size) (hnews : ∀ j u, news[j]? = some u → w.cell? (ad.add j) = some u) (h1 : ∀ u ∈ news, u.oneCell' = true)
    (h63 : k + m ≤ maxLen) (hbytes : (k + m) * bytes ≤ 140737488355328) (hbase : base ≤ w.heap.size)
    (h : ∀ v' w', w'.ownsRow base e size v' (k + m) (xs ++ news) → w.grownBy w' v.ownBlock → (∀ j, v'.ownBlock = some j → v.ownBlock = some j ∨ w.heap.size ≤ j) → wpListIn (wideR l) n P ops Q rest (a.put o.dst v') w') : wpListIn (wideR l) n P ops Q (o :: rest) a w :=
  wpListIn_plain hgd fun _ hK => oper_round (fun c => by rw [ho]; intro e; cases e) (wp_append_at s x t ho base e i z size bytes ht hi hz hsize hby hzs hsz v k xs hs hown ad m c news hx hl hnews h1 h63 hbytes hbase fun v' w' h2 h3 h4 => hK _ _ (h v' w' h2 h3 h4))
end Go.Ev

set_option linter.unusedVariables false
set_option linter.unusedSimpArgs false
namespace Go.Ev
open Go.Joins Go.ChangeShapes Go.WideShapes Go.RowKit Go.Deep

structure OpL where
  kind : Int
  key : Bytes
  val : Bytes

def opCs (o : OpL) : List Value := [.int .i64 o.kind, strV o.key, strV o.val]
def opsCs : List OpL → List Value
  | [] => []
  | o :: l => opCs o ++ opsCs l
theorem opsCs_len : ∀ l : List OpL, (opsCs l).length = l.length * 3
  | [] => rfl
  | o :: l => by simp [opsCs, opCs, opsCs_len l]; omega
theorem opsCs_at : ∀ (l : List OpL) (k : Nat) (hk : k < l.length), (opsCs l)[k * 3]? = some (.int .i64 l[k].kind) ∧ (opsCs l)[k * 3 + 1]? = some (strV l[k].key) ∧ (opsCs l)[k * 3 + 2]? = some (strV l[k].val)
  | o :: l, 0, _ => ⟨rfl, rfl, rfl⟩
  | o :: l, k + 1, h => by
    have ih := opsCs_at l k (by simpa using h)
    rw [show (k + 1) * 3 = k * 3 + 3 by omega]
    simpa [opsCs, opCs] using ih

/-- A row that reads as these steps. -/
def OpsAt (w : World) (v : Value) (l : List OpL) : Prop := Sl w 3 v l.length (opsCs l) ∧ l.length ≤ maxLen ∧ ∀ o ∈ l, o.key.length ≤ maxLen ∧ o.val.length ≤ maxLen

theorem OpsAt.below {w w' : World} {v : Value} {l : List OpL} (h : OpsAt w v l) (hb : Below w.heap.size w w') : OpsAt w' v l := ⟨h.1.below hb, h.2⟩

theorem list_of {α : Type} {n : Nat} {Q : Nat → α → Prop} (h : ∀ j, j < n → ∃ a, Q j a) : ∃ l : List α, l.length = n ∧ ∀ j (hj : j < l.length), Q j l[j] := by
  refine ⟨List.ofFn fun j : Fin n => (h j.1 j.2).choose, by simp, fun j hj => ?_⟩
  have hj' : j < n := by simpa using hj
  have := (h j hj').choose_spec
  simpa using this

section
variable {H : Type} {enc : TypeId × Value → H} {P : Program} {w : World} {base : Nat} {spare : Nat → Bool} {held : Bool}

theorem slice_ops {t e : TypeId} {gs : Array Field} {fuel : Nat} {v : Value} {y : DataW H × List MemPlace} (ht : P.underlying t = some (.slice e)) (he : P.underlying e = some (.struct gs)) (hone : oneCellFields P gs = true) (hC : P.cellsOf e = 3)
    {g0 g1 g2 : Field} (h0 : gs[0]? = some g0) (h1 : gs[1]? = some g1) (h2 : gs[2]? = some g2) (t0 : P.underlying g0.type = some (.int .i64)) (t1 : P.underlying g1.type = some .string) (t2 : P.underlying g2.type = some .string)
    (h : DataW.trod enc P w base spare held fuel t [v] = some y) : ∃ l, OpsAt w v l := by
  rcases open_slice ht h with ⟨e0, _⟩ | ⟨a, len, cap, m, n, D, Pl, e0, hb, hl, hm, hmm, hx, hi⟩
  · simp only [List.cons.injEq, and_true] at e0
    subst e0
    exact ⟨[], Sl.nil .., Nat.zero_le _, fun o ho => by cases ho⟩
  · simp only [List.cons.injEq, and_true] at e0
    subst e0
    have hlm : len ≤ m := by rw [hmm]; split <;> omega
    rcases Nat.eq_zero_or_pos len with hz0 | hz0
    · subst hz0
      exact ⟨[], Sl.nil .., Nat.zero_le _, fun o ho => by cases ho⟩
    rw [hC] at hi
    have hsp : a.spot = none ∧ a.block < w.heap.size := by
      obtain ⟨cs', q1, q2⟩ := hi 0 (by omega)
      obtain ⟨_, hlen, hat⟩ := World.cells?_some q1
      have q3 := hat 0 (by omega)
      rw [List.getElem?_eq_getElem (by omega)] at q3
      simp [Addr.add] at q3
      unfold World.cell? at q3
      split at q3
      · rename_i c e' fz hq
        split at q3
        · cases q3
        · rename_i hs'
          exact ⟨by simpa using hs', (Array.getElem?_eq_some_iff.1 hq).1⟩
      · cases q3
    obtain ⟨bl, of, sp⟩ := a
    obtain ⟨hsp, hbl⟩ := hsp
    simp only at hsp
    subst hsp
    have hop : ∀ j, j < len → ∃ o : OpL, (o.key.length ≤ maxLen ∧ o.val.length ≤ maxLen) ∧ ∀ r u, (opCs o)[r]? = some u → w.cell? ⟨bl, of + (j * 3 + r), none⟩ = some u := by
      intro j hj
      obtain ⟨cs', q1, q2⟩ := hi j (by omega)
      obtain ⟨_, hlen, hat⟩ := World.cells?_some q1
      obtain ⟨xs, n', _, _, _, hxl, hf⟩ := DataW.trod_struct he q2
      have field : ∀ off g, gs[off]? = some g → off < 3 → ∃ y u, cs'[off]? = some u ∧ DataW.trod enc P w base spare held n' g.type [u] = some y ∧ w.cell? ⟨bl, of + (j * 3 + off), none⟩ = some u := by
        intro off g hg hoff
        obtain ⟨ho, hk⟩ := hone_of hone off g hg
        have q3 := hf off g hg
        have hgs : off < gs.size := (Array.getElem?_eq_some_iff.1 hg).1
        rw [ho, hk, List.getElem?_eq_getElem (by omega)] at q3
        have q4 : (cs'.drop off).take 1 = [cs'[off]'(by omega)] := by rw [List.drop_eq_getElem_cons (by omega)]; rfl
        rw [q4] at q3
        refine ⟨_, cs'[off]'(by omega), List.getElem?_eq_getElem (by omega), q3, ?_⟩
        have q7 := hat off hoff
        rw [List.getElem?_eq_getElem (by omega), addr_add, addr_add, Nat.add_assoc] at q7
        exact q7
      obtain ⟨_, u0, _, f0, c0⟩ := field 0 g0 h0 (by omega)
      obtain ⟨_, u1, _, f1, c1⟩ := field 1 g1 h1 (by omega)
      obtain ⟨_, u2, _, f2, c2⟩ := field 2 g2 h2 (by omega)
      obtain ⟨k, e0, _, _⟩ := DataW.trod_int t0 f0
      obtain ⟨s1, e1, _, b1⟩ := DataW.trod_string t1 f1
      obtain ⟨s2, e2, _, b2⟩ := DataW.trod_string t2 f2
      simp only [List.cons.injEq, and_true] at e0 e1 e2
      subst e0 e1 e2
      refine ⟨⟨k, s1.data.toList, s2.data.toList⟩, ⟨b1, b2⟩, fun r u hu => ?_⟩
      match r with
      | 0 => cases hu; exact c0
      | 1 => cases hu; exact c1
      | 2 => cases hu; exact c2
      | r + 3 => simp [opCs] at hu
    obtain ⟨l, hlen, hl'⟩ := list_of hop
    subst hlen
    refine ⟨l, ⟨_, _, rfl, hl, opsCs_len l, fun _ => ⟨bl, of, rfl, hbl, fun j u hu => ?_⟩⟩, Nat.le_trans hl hm, fun o ho => ?_⟩
    · have hj : j < l.length * 3 := by rw [← opsCs_len]; exact (List.getElem?_eq_some_iff.1 hu).1
      have hd : j / 3 < l.length := by omega
      obtain ⟨a0, a1, a2⟩ := opsCs_at l (j / 3) hd
      have := (hl' (j / 3) hd).2
      have hjj : j = j / 3 * 3 + j % 3 := by omega
      have hr : j % 3 = 0 ∨ j % 3 = 1 ∨ j % 3 = 2 := by omega
      rw [hjj]
      rcases hr with hr | hr | hr <;> rw [hr] at hjj ⊢ <;> rw [hjj] at hu
      · refine this 0 u ?_; rw [Nat.add_zero, a0] at hu; exact hu
      · refine this 1 u ?_; rw [a1] at hu; exact hu
      · refine this 2 u ?_; rw [a2] at hu; exact hu
    · obtain ⟨j, hj, rfl⟩ := List.getElem_of_mem ho
      exact (hl' j hj).1
end
end Go.Ev

set_option linter.unusedVariables false
set_option linter.unusedSimpArgs false
namespace Go.Ev
open Go.Proofs Go.RowKit

def RoomP (x0 x1 left : Int) (w : World) (e : Ending) (w' : World) : Prop := ∃ r : Int, e = .returned (.int .i64 r) ∧ (-1 ≤ r ∧ r ≤ 60000 ∧ (0 ≤ r → r + x0 + x1 = left)) ∧ w = w'

set_option maxHeartbeats 1000000 in
theorem room_two (g : Nat) (T : TypeId) (x0 x1 left : Int) (w : World) (h : Blk w g T #[.int .i64 x0, .int .i64 x1]) (h0 : 0 ≤ x0) (h1 : 0 ≤ x1) (hl : -1 ≤ left ∧ left ≤ 60000) :
    Calls Tryz.prog 37 #[.int .i64 left, .slice (some ⟨g, 0, none⟩) 2 2] w (RoomP x0 x1 left w) := by
  have c0 : w.cell? ⟨g, 0, none⟩ = some (.int .i64 x0) := h.cell 0
  have c1 : w.cell? ⟨g, 1, none⟩ = some (.int .i64 x1) := h.cell 1
  clear h
  go_enter Tryz.func37, Tryz.ntmps37
  go_wp2_with (fail)
  go_loopg [0, 5] 2 (fun gk s0 s5 wr => ∃ (r : Int) (i : Nat) (x : Int), s0 = .int .i64 r ∧ s5 = .int .i64 (i : Int) ∧ i + gk = 2 ∧ -1 ≤ r ∧ r ≤ 60000 ∧ Hid ((i = 0 ∧ r = left ∧ x = x0) ∨ (i = 1 ∧ 0 ≤ r ∧ r + x0 = left ∧ x = x1) ∨ (i = 2 ∧ 0 ≤ r ∧ r + x0 + x1 = left)) ∧ Hid (i < 2 → w.cell? ⟨g, i, none⟩ = some (.int .i64 x)) ∧ wr = w)
  case atStart => exact ⟨left, 0, x0, rfl, rfl, rfl, hl.1, hl.2, .inl ⟨rfl, rfl, rfl⟩, fun _ => c0, rfl⟩
  case round =>
    obtain ⟨r, i, x, rfl, rfl, hi, hr1, hr2, hd, hx, rfl⟩ := hrel
    have C0 := Lib.hid c0
    have C1 := Lib.hid c1
    clear c0 c1
    by_cases h2 : i < 2
    · have hx' := hx.out h2
      have h2' : (i : Int) < 2 := by omega
      have hi0 : (0 : Int) ≤ (i : Int) := by omega
      have hw1 : IntKind.i64.wrap ((i : Int) + 1) = (i : Int) + 1 := IntWalk.i64_in _ (by omega)
      have hxp : 0 ≤ x ∧ (0 ≤ r → x ≤ r ∨ r < x) := ⟨by rcases hd.out with h | h | h <;> omega, fun _ => by omega⟩
      clear hx
      by_cases hn : r < 0
      · go_wp2_with (fail)
        go_ret
        exact ⟨-1, rfl, ⟨by omega, by omega, fun h => by omega⟩, rfl⟩
      · by_cases hg : r < x
        · go_wp2_with (fail)
          go_ret
          exact ⟨-1, rfl, ⟨by omega, by omega, fun h => by omega⟩, rfl⟩
        · have hw2 : IntKind.i64.wrap (r - x) = r - x := IntWalk.i64_in _ (by omega)
          go_wp2_with (fail)
          go_roundg (gk - 1)
          case measure => omega
          case rel =>
            refine ⟨r - x, i + 1, x1, rfl, by simp, by omega, by omega, by omega, ?_, fun h => ?_, rfl⟩
            · show _ ∨ _
              rcases hd.out with h | h | h
              · exact .inr (.inl ⟨by omega, by omega, by omega, rfl⟩)
              · exact .inr (.inr ⟨by omega, by omega, by omega⟩)
              · omega
            · have : i = 0 := by omega
              subst this
              exact C1.out
    · have h2' : ¬ (i : Int) < 2 := by omega
      clear hx
      go_wp2_with (fail)
      go_ret
      refine ⟨r, rfl, ⟨by omega, by omega, fun _ => ?_⟩, rfl⟩
      rcases hd.out with h | h | h <;> omega

def LightP (ops : List OpL) (w : World) (e : Ending) (w' : World) : Prop :=
  ∃ b : Bool, e = .returned (.bool b) ∧ (b = true → ops.length ≤ 250 ∧ ∀ o ∈ ops, o.key.length + o.val.length ≤ 60000) ∧ Below w.heap.size w w'

set_option maxHeartbeats 2000000 in
set_option maxRecDepth 100000 in
theorem light_any (A : Option Addr) (n c : Nat) (ops : List OpL) (w : World) (h : OpsAt w (.slice A n c) ops) :
    Calls Tryz.prog 8 #[.slice A n c] w (LightP ops w) := by
  obtain ⟨hv, hml, hlen⟩ := h
  have hn : n = ops.length := by obtain ⟨_, _, e, _⟩ := hv; cases e; rfl
  subst hn
  unfold maxLen at hml
  have HLen := Lib.hid hlen
  clear hlen
  go_enter Tryz.func8, Tryz.ntmps8
  go_wp2_with (fail)
  go_loopg [3, 4] ops.length (fun gk s3 s4 wr => ∃ (r : Int) (i : Nat), s3 = .int .i64 r ∧ s4 = .int .i64 (i : Int) ∧ i + gk = ops.length ∧ -1 ≤ r ∧ r ≤ 60000 ∧ i ≤ 600 ∧ Hid (0 ≤ r → ∀ j (hj : j < ops.length), j < i → ops[j].key.length + ops[j].val.length ≤ 60000) ∧ Below w.heap.size w wr)
  case atStart => exact ⟨60000, 0, rfl, rfl, by omega, by omega, by omega, by omega, (fun _ j _ h => absurd h (Nat.not_lt_zero _)), Below.refl _ _⟩
  case round =>
    obtain ⟨r, i, rfl, rfl, hi, hr1, hr2, hi6, hall, hbw⟩ := hrel
    by_cases h1 : i < ops.length
    · have h1' : (i : Int) < (ops.length : Int) := by omega
      by_cases h2 : i < 600
      · have h2' : (i : Int) < 600 := by omega
        by_cases h3 : 0 ≤ r
        · have hi0 : (0 : Int) ≤ (i : Int) := by omega
          have hw1 : IntKind.i64.wrap ((i : Int) + 1) = (i : Int) + 1 := IntWalk.i64_in _ (by omega)
          obtain ⟨A', c', e0, _, _, hcl⟩ := hv.below hbw
          cases e0
          obtain ⟨blk, off, rfl, hbl, hcell⟩ := hcl (by omega)
          obtain ⟨_, p1, p2⟩ := opsCs_at ops i h1
          have x1 : wr.cell? ⟨blk, off + i * 3 + 1, none⟩ = _ := hcell _ _ p1
          have x2 : wr.cell? ⟨blk, off + i * 3 + 2, none⟩ = _ := hcell _ _ p2
          obtain ⟨m1, m2⟩ := HLen.out _ (List.getElem_mem h1)
          unfold maxLen at m1 m2
          have hR : ∀ W g T, Blk W g T #[.int .i64 (ops[i].key.length : Int), .int .i64 (ops[i].val.length : Int)] → Calls Tryz.prog 37 #[.int .i64 r, .slice (some ⟨g, 0, none⟩) 2 2] W (RoomP ops[i].key.length ops[i].val.length r W) :=
            fun W g T hb => room_two g T _ _ r W hb (by omega) (by omega) ⟨hr1, hr2⟩
          have HR := Lib.hid hR
          have HX := Lib.hid hcell
          clear hR hcell hcl p1 p2 hv
          generalize hk0 : ops[i].key = key at *
          generalize hv0 : ops[i].val = val at *
          have HK := Lib.hid (And.intro hk0 hv0)
          clear hk0 hv0
          go_wp2_with (fail)
          refine wp_region_any (by kernel_rfl) ?_
          change wpAny _ _ _ _ _ _ _ (World.drew _)
          try simp only [Act.put, lT, l0, lS]
          refine tk 0 (v := ?_) rfl (by kernel_rfl) (fun _ _ _ h => h) (by rfl) ?hy ?_
          case hy => intro w; go_simp; try with_reducible rfl
          try simp only [Act.put, lT, l0, lS]
          refine tk 1 (v := ?_) rfl (by kernel_rfl) (fun _ _ _ h => h) (by rfl) ?hy ?_
          case hy => intro w; go_simp; try with_reducible rfl
          try simp only [Act.put, lT, l0, lS]
          refine tk 2 (v := ?_) rfl (by kernel_rfl) (fun _ _ _ h => h) (by rfl) ?hy ?_
          case hy => intro w; go_simp; try with_reducible rfl
          try simp only [Act.put, lT, l0, lS]
          refine tk 3 (v := ?_) rfl (by kernel_rfl) (fun _ _ _ h => h) (by rfl) ?hy ?_
          case hy => intro w; go_simp; try with_reducible rfl
          try simp only [Act.put, lT, l0, lS]
          refine tk 4 (v := ?_) rfl (by kernel_rfl) (fun _ _ _ h => h) (by rfl) ?hy ?_
          case hy => intro w; go_simp; try with_reducible rfl
          try simp only [Act.put, lT, l0, lS]
          refine tk 7 (v := ?_) rfl (by kernel_rfl) (fun _ _ _ h => h) (by rfl) ?hy ?_
          case hy => intro w; go_simp; try with_reducible rfl
          try simp only [Act.put, lT, l0, lS]
          refine tk 8 (v := ?_) rfl (by kernel_rfl) (fun _ _ _ h => h) (by rfl) ?hy ?_
          case hy => intro w; go_simp; try with_reducible rfl
          try simp only [Act.put, lT, l0, lS]
          refine tk 9 (v := ?_) rfl (by kernel_rfl) (fun _ _ _ h => h) (by rfl) ?hy ?_
          case hy => intro w; go_simp; try with_reducible rfl
          try simp only [Act.put, lT, l0, lS]
          refine tk 10 (v := ?_) rfl (by kernel_rfl) (fun _ _ _ h => h) (by rfl) ?hy ?_
          case hy => intro w; go_simp; try with_reducible rfl
          try simp only [Act.put, lT, l0, lS]
          try simp only [Act.put, lT, l0, lS]
          refine tkR 5 (v := ?_) rfl (by kernel_rfl) (fun _ _ _ h => h) (by rfl) ?hy ?_
          case hy => intro w hE; have q0 := hE.cell x1; go_simp; try with_reducible rfl
          try simp only [Act.put, lT, l0, lS]
          try simp only [Act.put, lT, l0, lS]
          refine tkR 11 (v := ?_) rfl (by kernel_rfl) (fun _ _ _ h => h) (by rfl) ?hy ?_
          case hy => intro w hE; have q0 := hE.cell x2; go_simp; try with_reducible rfl
          try simp only [Act.put, lT, l0, lS]
          try simp only [Act.put, lT, l0, lS]
          refine tk 6 (v := ?_) rfl (by kernel_rfl) (fun _ _ _ h => h) (by rfl) ?hy ?_
          case hy => intro w; go_simp; try with_reducible rfl
          try simp only [Act.put, lT, l0, lS]
          refine tk 12 (v := ?_) rfl (by kernel_rfl) (fun _ _ _ h => h) (by rfl) ?hy ?_
          case hy => intro w; go_simp; try with_reducible rfl
          try simp only [Act.put, lT, l0, lS]
          refine rd 13 (by kernel_rfl) rfl (fun K hK => ?_)
          go_simp
          refine hK _ _ ?_
          clear hK K
          refine rd 14 (by kernel_rfl) rfl (fun K hK => ?_)
          go_simp
          (go_must (refine (HR.out _ _ _ (Blk.new _ _ _).drew).mono ?_); rintro e w1 ⟨r', rfl, ⟨q1, q2, q3⟩, rfl⟩)
          go_simp
          refine hK _ _ ?_
          clear hK K
          refine rd 15 (by kernel_rfl) rfl (fun K hK => ?_)
          go_simp
          refine hK _ _ ?_
          clear hK K
          refine wpAny_done (by kernel_rfl) ?_ _
          go_wp2_with (fail)
          go_roundg (gk - 1)
          case measure => omega
          case rel =>
            refine ⟨r', i + 1, rfl, by simp, by omega, q1, q2, by omega, fun h0 j hj hji => ?_, (hbw.alloc hbw.size _).drew⟩
            by_cases hje : j = i
            · subst hje
              rw [HK.out.1, HK.out.2]
              have := q3 h0
              omega
            · exact hall.out h3 j hj (by omega)
        · have h3' : ¬ (0 : Int) ≤ r := h3
          by_cases h4 : ops.length ≤ 250
          · have h4' : (ops.length : Int) ≤ 250 := by omega
            go_wp2_with (fail)
            go_ret
            exact ⟨_, rfl, fun hb => by simp at hb; try omega, hbw⟩
          · have h4' : ¬ (ops.length : Int) ≤ 250 := by omega
            go_wp2_with (fail)
            go_ret
            exact ⟨_, rfl, fun hb => by simp at hb; try omega, hbw⟩
      · have h2' : ¬ (i : Int) < 600 := by omega
        have h4' : ¬ (ops.length : Int) ≤ 250 := by omega
        go_wp2_with (fail)
        go_ret
        exact ⟨_, rfl, fun hb => by simp at hb; try omega, hbw⟩
    · have h1' : ¬ (i : Int) < (ops.length : Int) := by omega
      have HF : Hid (0 ≤ r → ∀ o ∈ ops, o.key.length + o.val.length ≤ 60000) := fun h0 o ho => by
        obtain ⟨j, hj, rfl⟩ := List.getElem_of_mem ho
        exact hall.out h0 j hj (by omega)
      by_cases h4 : ops.length ≤ 250
      · have h4' : (ops.length : Int) ≤ 250 := by omega
        have h2' : (i : Int) < 600 := by omega
        by_cases h3 : 0 ≤ r
        · go_wp2_with (fail)
          go_ret
          exact ⟨_, rfl, fun hb => ⟨h4, HF.out h3⟩, hbw⟩
        · go_wp2_with (fail)
          go_ret
          exact ⟨_, rfl, fun hb => by simp at hb; try omega, hbw⟩
      · have h4' : ¬ (ops.length : Int) ≤ 250 := by omega
        by_cases h2 : i < 600
        · have h2' : (i : Int) < 600 := by omega
          go_wp2_with (fail)
          go_ret
          exact ⟨_, rfl, fun hb => by simp at hb; try omega, hbw⟩
        · have h2' : ¬ (i : Int) < 600 := by omega
          go_wp2_with (fail)
          go_ret
          exact ⟨_, rfl, fun hb => by simp at hb; try omega, hbw⟩
end Go.Ev

namespace Go.Ev
open Go.Lib

def goodKV (k v : List UInt8) : Bool := decide (1 ≤ k.length) && decide (k.length ≤ 40) && decide (v.length ≤ 2000)
theorem goodKV_of {k v : List UInt8} (h : goodKV k v = true) : 1 ≤ k.length ∧ k.length ≤ 40 ∧ v.length ≤ 2000 := by
  unfold goodKV at h
  simp only [Bool.and_eq_true, decide_eq_true_eq] at h
  exact ⟨h.1.1, h.1.2, h.2⟩
theorem goodKV_not {k v : List UInt8} (h : goodKV k v = false) : ¬ (1 ≤ k.length ∧ k.length ≤ 40 ∧ v.length ≤ 2000) := by
  rintro ⟨h1, h2, h3⟩
  unfold goodKV at h
  simp [h1, h2, h3] at h

/-- Keys and values that a tree can have. -/
def GoodP (ps : List Pair) : Prop := ∀ q ∈ ps, goodKV q.1 q.2 = true

def growP : List (List UInt8 × List UInt8) → List Pair → List Pair
  | [], t => t
  | o :: l, t => growP l (if goodKV o.1 o.2 then insP o.1 o.2 t else t)

theorem growP_app : ∀ (a b : List (List UInt8 × List UInt8)) (t : List Pair), growP (a ++ b) t = growP b (growP a t)
  | [], _, _ => rfl
  | o :: a, b, t => by simp only [List.cons_append, growP]; exact growP_app a b _
theorem growP_good : ∀ {l : List (List UInt8 × List UInt8)} {t : List Pair}, GoodP t → GoodP (growP l t)
  | [], _, h => h
  | o :: l, t, h => by
    simp only [growP]
    split
    · rename_i hg
      exact growP_good fun q hq => by
        rcases insP_mem hq with rfl | hq
        · exact hg
        · exact h q hq
    · exact growP_good h
theorem growP_len : ∀ (l : List (List UInt8 × List UInt8)) (t : List Pair), (growP l t).length ≤ t.length + l.length
  | [], t => by simp [growP]
  | o :: l, t => by
    simp only [growP, List.length_cons]
    have := (insP_len (k := o.1) (v := o.2) t).1
    split
    · have h := growP_len l (insP o.1 o.2 t)
      omega
    · have h := growP_len l t
      omega
theorem growP_rising : ∀ {l : List (List UInt8 × List UInt8)} {t : List Pair}, Rising t → Rising (growP l t)
  | [], _, h => h
  | o :: l, t, h => by
    simp only [growP]
    split
    · exact growP_rising (insP_rising h)
    · exact growP_rising h
end Go.Ev

set_option linter.unusedVariables false
set_option linter.unusedSimpArgs false
namespace Go.Ev
open Go.Proofs Go.RowKit

theorem leftmost_any (v : Value) (w : World) : Calls Tryz.prog 42 #[v] w fun e w' => e = .returned (.int .i64 0) ∧ w = w' := by
  go_enter Tryz.func42, Tryz.ntmps42
  go_wp2
  go_ret
  exact ⟨rfl, rfl⟩

theorem rightmost_any (A : Option Addr) (n c : Nat) (w : World) (hn : 1 ≤ n) (hn2 : n ≤ 100000) : Calls Tryz.prog 44 #[.slice A n c] w fun e w' => e = .returned (.int .i64 ((n - 1 : Nat) : Int)) ∧ w = w' := by
  obtain ⟨m, rfl⟩ : ∃ m, n = m + 1 := ⟨n - 1, by omega⟩
  have hw : IntKind.i64.wrap ((m : Int) + 1 - 1) = (m : Int) := by rw [show (m : Int) + 1 - 1 = m by omega]; exact IntWalk.i64_in _ (by omega)
  have e0 : ((m + 1 : Nat) : Int) = (m : Int) + 1 := by omega
  go_enter Tryz.func44, Tryz.ntmps44
  go_wp2
  go_ret
  exact ⟨by simp, rfl⟩

theorem seekpick_any (A : Option Addr) (n c bx : Nat) (L : List Child) (key : Bytes) (w : World) (hb : w.cell? ⟨bx, 0, none⟩ = some (strV key)) (hv : Sl w 2 (.slice A n c) n (childrenCs L)) (hn : n ≤ 100000) (hr : rightC L = true) :
    Calls Tryz.prog 45 #[.slice A n c, .pointer (some ⟨bx, 0, none⟩)] w fun e w' => e = .returned (.int .i64 (findC key L : Int)) ∧ w = w' := by
  have HF := Lib.hid (findC_any A n c L key w hv hn hr)
  go_enter Tryz.func45, Tryz.ntmps45
  go_wp2_with (fail)

  go_must (refine HF.out.mono ?_)
  rintro e w1 ⟨rfl, rfl⟩
  go_wp2_with (fail)
  go_ret
  exact ⟨rfl, rfl⟩
end Go.Ev
