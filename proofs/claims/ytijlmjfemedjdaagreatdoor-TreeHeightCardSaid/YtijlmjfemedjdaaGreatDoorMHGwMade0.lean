/-
  A region in the order of its text, within a round. A range over a function whose rounds come in a known order, and of which one may leave by a return: the law, directed by the list of what comes. A tree that has been deleted from, in short: its history, how many levels it has, an empty one. A row of one's own within its room: an append that stays, cells beyond its end, what is cleared there. leaf.Del: items without a key. Where a cursor stands: a way into a tree, and how many pairs lie ahead of it. DERIVED: THE SHELF's CONTRACTS AT THIS DUMP, IN PLAIN WORDS (tools/lay-plain.mjs out of 'YtijlmjfemedjdaaGreatDoorSortLay.lean', which tools/lay-shelf.mjs wrote): THE SAME DECLARATIONS UNDER THE SAME NAMES: 'import', 'namespace', 'open', 'def', 'theorem' AND NOTHING ELSE: no command of the shelf's: FOR A HAND-IN. Each laying: the table of numbers ('.._ren') and one theorem, a field a fact of the dump's own or the kernel's comparison; each contract: ONE APPLICATION. slices.Sort at a row of integers that is one's own. The pairs that steps make, put in one by one. Steps of law 11 in a row: a kind, a key, a value each; what an argument's reading says of them. Are steps few and short enough? Are steps few and short enough? How long they are together. DERIVED: THE SHELF's CONTRACTS AT THIS DUMP, IN PLAIN WORDS (tools/lay-plain.mjs out of 'YtijlmjfemedjdaaGreatDoorKeysLay.lean', which tools/lay-shelf.mjs wrote): THE SAME DECLARATIONS UNDER THE SAME NAMES: 'import', 'namespace', 'open', 'def', 'theorem' AND NOTHING ELSE: no command of the shelf's: FOR A HAND-IN. Each laying: the table of numbers ('.._ren') and one theorem, a field a fact of the dump's own or the kernel's comparison; each contract: ONE APPLICATION. Keys of a map in a row: what pager.Made leans on.
-/
import Derived.Test.YtijlmjfemedjdaaGreatDoorMHGvGetC
import Derived.Tactics
import Derived.Test.YtijlmjfemedjdaaGreatDoorMHGvBranch
import Derived.OwnWalkIn
import Derived.RangeFuncNested
import Derived.RangeFuncBound
import Derived.RangeFuncLeaves
import Derived.Test.YtijlmjfemedjdaaGreatDoorMHGvPutDel
import Derived.Lib.SliceRun
import Derived.Laws.IdiomCopy
import Derived.Test.YtijlmjfemedjdaaGreatDoorMHGvAny2
import Derived.Test.YtijlmjfemedjdaaGreatDoorMHGwBranch2
import Derived.Test.YtijlmjfemedjdaaGreatDoorMHGwDev
import Derived.Shelf.SlGeneric
import Derived.Shelf.SortM.Plain
import Derived.Shelf.SortM.SortNone
import Derived.Ground.SlgmProg
import Derived.Test.YtijlmjfemedjdaaGreatDoorProg
import Derived.Test.YtijlmjfemedjdaaGreatDoorMHGwSeal
import Derived.Lib.SortBridge
import Derived.Test.YtijlmjfemedjdaaGreatDoorMHGvOrd
import Derived.Test.YtijlmjfemedjdaaGreatDoorMHGwReader
import Derived.Lib.SmallJoins
import Derived.Deep.Slices
import Derived.Deep.LoopGhost
import Derived.Deep.DeepMust
import Derived.Test.YtijlmjfemedjdaaGreatDoorMHEvInsert
import Derived.Shelf.SlIterI.Nil
import Derived.Ground.GgzProg
set_option linter.unusedVariables false
set_option linter.unusedSimpArgs false
namespace Go.Ev
open Go.RowKit

variable {P : Program} {l n : Nat}

theorem list_round {ops : Array Oper} {Q : Exit → Act → World → Prop} (hQ : ¬ LetsOut Q) : ∀ (L : List Oper) (_ : ∀ o ∈ L, ∀ c, o.op ≠ .defer c) (a : Act) (w : World), wpList P ops Q L a w → wpListIn (wideR l) n P ops Q L a w
  | [], _, _, _, h => h
  | o :: L, hd, a, w, h => by
    unfold wpList at h
    unfold wpListIn
    split
    · rename_i hw
      rw [if_pos hw] at h
      rcases h with h | h
      · exact Oper.wpIn_mono (fun a w hh => list_round hQ L (fun o ho => hd o (List.mem_cons_of_mem _ ho)) a w hh) (oper_round (hd o (List.mem_cons_self ..)) h)
      · exact absurd h.2 hQ
    · rename_i hw
      rw [if_neg hw] at h
      exact ⟨fun _ _ => trivial, list_round hQ L (fun o ho => hd o (List.mem_cons_of_mem _ ho)) _ _ h⟩

def noDeferL (L : List Oper) : Bool := L.all fun o => match o.op with | .defer _ => false | _ => true
theorem noDeferL_spec {L : List Oper} (h : noDeferL L = true) : ∀ o ∈ L, ∀ c, o.op ≠ .defer c := by
  intro o ho c e
  unfold noDeferL at h
  rw [List.all_eq_true] at h
  have := h o ho
  rw [e] at this
  cases this

/-- A region in the order of its text, within a round. -/
theorem region_round0 {id : Nat} {L : List Oper} {Q : Exit → Act → World → Prop} {a : Act} {w : World} (hd : noDeferL L = true) (hQ : ¬ LetsOut Q) (h : wpList P L.toArray Q L a w) : (Code.region id L.toArray false).wpIn (wideR l) n P Q a w :=
  wpIn_region_lit (list_round hQ L (noDeferL_spec hd) _ _ h)

theorem wpListIn_append_at {w : World} {ops : Array Oper} {rest : List Oper} {o : Oper} {a : Act} {Q : Exit → Act → World → Prop} (hgd : o.guard = none) (s x : Operand) (t : TypeId)
    (ho : o.op = .call { callee := .builtin .append, args := #[s, x], argTypes := #[t, t] })
    (base : Nat) (e : TypeId) (i : TypeInfo) (z : Value) (size bytes : Nat) (ht : P.underlying t = some (.slice e)) (hi : P.info? e = some i) (hz : i.zero = some z)
    (hsize : i.size = size) (hby : i.bytes = bytes) (hzs : z.cells.size = size) (hsz : 0 < size)
    (v : Value) (k : Nat) (xs : List Value) (hs : a.eval s = v) (hown : w.ownsRow base e size v k xs)
    (ad : Addr) (m c : Nat) (news : List Value) (hx : a.eval x = .slice (some ad) m c) (hl : news.length = m * size) (hnews : ∀ j u, news[j]? = some u → w.cell? (ad.add j) = some u) (h1 : ∀ u ∈ news, u.oneCell' = true)
    (h63 : k + m ≤ maxLen) (hbytes : (k + m) * bytes ≤ 140737488355328) (hbase : base ≤ w.heap.size)
    (h : ∀ v' w', w'.ownsRow base e size v' (k + m) (xs ++ news) → w.grownBy w' v.ownBlock → (∀ j, v'.ownBlock = some j → v.ownBlock = some j ∨ w.heap.size ≤ j) → wpListIn (wideR l) n P ops Q rest (a.put o.dst v') w') : wpListIn (wideR l) n P ops Q (o :: rest) a w :=
  wpListIn_plain hgd fun _ hK => oper_round (fun c => by rw [ho]; intro e; cases e) (wp_append_at s x t ho base e i z size bytes ht hi hz hsize hby hzs hsz v k xs hs hown ad m c news hx hl hnews h1 h63 hbytes hbase fun v' w' h2 h3 h4 => hK _ _ (h v' w' h2 h3 h4))
end Go.Ev

namespace Go.Ev
open Go.RowKit

variable {F : Fence} {n : Nat} {P : Program}

/-- The iterator hands over just these, one by one, till a round says no. -/
def EachS {α : Type} (F : Fence) (n : Nat) (P : Program) (g : Nat) (lb : Array Value) (encs : α → Array Value) (Kp : World → World → Prop) (xs : List α) (w : World) : Prop :=
  ∀ (l : Nat) (J Jx : Nat → World → Prop) (W : World), Below w.heap.size w W →
    (∀ (k : Nat) (x : α) (W1 : World), xs[k]? = some x → J k W1 → YieldAt F (n - 1) P l (encs x) W1 fun e W' => (e = .returned (.bool true) ∧ J (k + 1) W' ∧ Kp W1 W') ∨ (e = .returned (.bool false) ∧ Jx (k + 1) W')) →
    J 0 W → CallsIn F n P g (#[.func (.yield l) #[] #[]] ++ lb) W fun e W' => (∃ v, e = .returned v) ∧ (J xs.length W' ∨ ∃ k, k ≤ xs.length ∧ Jx k W')

/-- A round goes on, or leaves by a return: what the results' slots held ahead of the loop they hold again. -/
def goesOnS (B : Nat) (Kp : World → World → Prop) (I Ix : World → Prop) (W : World) : Exit → Act → World → Prop
  | .normal, _, W' => KeepsFrom B W W' ∧ Kp W W' ∧ I W'
  | .ret, _, W' => KeepsFrom B W W' ∧ Ix W'
  | _, _, _ => False

theorem rangeFunc_eachS {α : Type} {g : Operand} {ps : Array Tmp} {assign body : Code} {Q : Exit → Act → World → Prop} {a : Act} {w : World} {gf : Nat} {lb : Array Value} {encs : α → Array Value} {Kp : World → World → Prop} {xs : List α}
    (hro : F.round = none) (h1 : 1 ≤ n) (hg : a.eval g = .func (.func gf) #[] lb) (hF : F.fn gf) (eg : ∀ args w, (callFunc gf args).run P w = .ok (.enter gf args) w) (hseq : EachS F (n - 1) P gf lb encs Kp xs w)
    (hKt : ∀ {A B C : World}, Kp A B → Kp B C → Kp A C) (hKb : ∀ (W : World) (l : Nat) (o o' : Obj), w.heap.size ≤ l → W.heap[l]? = some o → o.isCells = false → o.isWalk = false → Kp W (W.putObj l o')) (hps : ∀ x, (encs x).size = ps.size)
    (I Ix : Nat → World → Prop) (hI : OwnFrom w.heap.size I) (hIx : OwnFrom w.heap.size Ix) (h0 : I 0 w) (Ax : α → Act → World → Prop) (hAx : ∀ x a', OwnFrom w.heap.size (fun (_ : Unit) W => Ax x a' W))
    (hassign : ∀ (l k : Nat) (x : α) (W : World) (K : Act → World → Prop), xs[k]? = some x → I k W → (∀ a' W', KeepsFrom w.heap.size W W' → Kp W W' → I k W' → Ax x a' W' → K a' W') →
      assign.wpIn (F.inRound l) (n - 1 - 1) P (Exit.then K (fun _ _ _ => False)) { tmps := (ps.zip (encs x)).foldl (fun t (p, v) => t.setIfInBounds p v) a.tmps, defers := [] } W)
    (hbody : ∀ (l k : Nat) (x : α) (a' : Act) (W : World), xs[k]? = some x → I k W → Ax x a' W → body.wpIn (F.inRound l) (n - 1 - 1) P (goesOnS w.heap.size Kp (I (k + 1)) (Ix (k + 1)) W) a' W)
    (hdone : ∀ (D : Nat) (W : World), w.heap.size ≤ D → I xs.length W → W.heap[D]? = some (.deferred (some [])) → Q .normal { a with defers := { target := .collected D, args := #[] } :: a.defers } W)
    (hstop : ∀ (D k : Nat) (W : World), w.heap.size ≤ D → k ≤ xs.length → Ix k W → W.heap[D]? = some (.deferred (some [])) → Code.ret.wpIn F n P Q { a with defers := { target := .collected D, args := #[] } :: a.defers } W) :
    (Code.rangeFunc g ps assign body).wpIn F n P Q a w := by
  refine wpIn_rangeFunc fun fn hfn => ?_
  rw [hro]
  -- the loop's record in its states; the block of the deferred calls is D, the record's is D + 1
  obtain ⟨D, hD⟩ : ∃ D, D = w.heap.size := ⟨_, rfl⟩
  obtain ⟨R0, hR0⟩ : ∃ R0 : LoopState → Option Code → Loop, R0 = fun st pe => { state := st, pending := pe, fn, tmps := a.tmps, params := ps, assign, body, defers := D } := ⟨_, rfl⟩
  obtain ⟨R, hR⟩ : ∃ R : LoopState → Loop, R = fun st => R0 st none := ⟨_, rfl⟩
  rw [hR0] at hR
  obtain ⟨W1, hW1⟩ : ∃ W1, (w.alloc (.deferred (some []))).alloc (.loop (R .ready)) = W1 := ⟨_, rfl⟩
  have hl1 : W1.heap[D + 1]? = some (.loop (R .ready)) := by
    have := World.alloc_heap_new (w.alloc (.deferred (some []))) (.loop (R .ready))
    rw [World.size_alloc, hW1] at this
    rw [hD]; exact this
  have hd1 : W1.heap[D]? = some (.deferred (some [])) := by
    rw [← hW1, hD]; exact (Below.heap_alloc _ _ _ (by simp)).trans (World.alloc_heap_new w _)
  have hi1 : I 0 W1 := by rw [← hW1]; exact hI.alloc _ (hI.alloc _ h0)
  have hb1 : Below w.heap.size w W1 := by rw [← hW1]; exact ((Below.refl _ w).alloc (Nat.le_refl _) _).alloc (by simp) _
  refine ⟨D + 1, [{ target := .collected D, args := #[] }], W1, { target := .fn (.func gf) lb, args := #[.func (.yield (D + 1)) #[] #[]] }, W1, gf, #[.func (.yield (D + 1)) #[] #[]] ++ lb, W1, ?_, ?_, ?_, ?_, fun _ => h1, ?_⟩
  · rw [← hW1, hR, hD]; exact run_enterLoop_outer _ _ _ _ _
  · simp only [resolve, hg]
    simp [go_sem]
  · intro f' hf'; simp [Target.leads] at hf'; subst hf'; exact hF
  · simp [invoke, go_sem, eg]
  refine (hseq (D + 1) (fun k W => I k W ∧ W.heap[D + 1]? = some (.loop (R .ready)) ∧ W.heap[D]? = some (.deferred (some []))) (fun k W => Ix k W ∧ W.heap[D + 1]? = some (.loop (R0 .done (some .ret))) ∧ W.heap[D]? = some (.deferred (some []))) W1 hb1 ?_ ⟨hi1, hl1, hd1⟩).mono ?_
  · -- a round
    rintro k x W hx ⟨hi, hl, hd⟩
    have hy := run_yield (P := P) (args := encs x) hl (by rw [hR]; exact hps x)
    rw [hR] at hy
    refine ⟨fn, _, assign, body, hy, roundIn_of_wpIn hfn (hassign _ k x W _ hx hi ?_)⟩
    intro a' Wa hka hpa hia hax
    have hla := hka.same _ _ (by omega) hl rfl
    have hda := hka.same _ _ (by omega) hd rfl
    have hlta : D + 1 < Wa.heap.size := (Array.getElem?_eq_some_iff.1 hla).1
    refine ⟨_, run_beginRound hla (by rw [hR]), ?_⟩
    have hlb : (Wa.putObj (D + 1) (.loop { R .ready with state := .busy })).heap[D + 1]? = some (.loop { R .ready with state := .busy }) := World.putObj_heap_same hlta
    have hdb : (Wa.putObj (D + 1) (.loop { R .ready with state := .busy })).heap[D]? = some (.deferred (some [])) := (World.putObj_heap_other (by omega)).trans hda
    have hpb : Kp Wa (Wa.putObj (D + 1) (.loop { R .ready with state := .busy })) := hKb _ _ _ _ (by omega) hla rfl rfl
    refine wpIn_mono (hbody _ k x a' _ hx (hI.putObj _ hia (by omega) hla rfl) ((hAx x a').putObj (s := ()) _ hax (by omega) hla rfl)) ?_
    rintro e a3 W3 hp
    cases e with
    | normal =>
      obtain ⟨hk3, hp3, hi3⟩ := hp
      have hl3 := hk3.same _ _ (by omega) hlb rfl
      have hd3 := hk3.same _ _ (by omega) hdb rfl
      have hr := run_endRound (P := P) none hl3
      rw [hR] at hr hl3
      refine ⟨_, _, hr, .inl ⟨rfl, ⟨hI.putObj _ hi3 (by omega) hl3 rfl, ?_, (World.putObj_heap_other (by omega)).trans hd3⟩, hKt hpa (hKt (hKt hpb hp3) (hKb _ _ _ _ (by omega) hl3 rfl rfl))⟩⟩
      rw [World.putObj_heap_same (Array.getElem?_eq_some_iff.1 hl3).1, hR]
      rfl
    | ret =>
      obtain ⟨hk3, hi3⟩ := hp
      have hl3 := hk3.same _ _ (by omega) hlb rfl
      have hd3 := hk3.same _ _ (by omega) hdb rfl
      have hr := run_endRound (P := P) (some .ret) hl3
      rw [hR] at hr hl3
      refine ⟨_, _, hr, .inr ⟨rfl, hIx.putObj _ hi3 (by omega) hl3 rfl, ?_, (World.putObj_heap_other (by omega)).trans hd3⟩⟩
      rw [World.putObj_heap_same (Array.getElem?_eq_some_iff.1 hl3).1, hR0]
      rfl
    | exit id => exact hp.elim
    | goto t => exact hp.elim
    | panic ch => exact hp.elim
    | outgrown => exact hp.elim
  · -- behind the iterator
    rintro e W2 ⟨⟨v, rfl⟩, (⟨hi, hl, hd⟩ | ⟨k, hk, hi, hl, hd⟩)⟩
    · have hr := run_endLoop (P := P) hl (by rw [hR]; simp)
      rw [hR] at hr
      exact ⟨none, _, hr, hdone D _ (by omega) (hI.putObj _ hi (by omega) hl rfl) ((World.putObj_heap_other (by omega)).trans hd)⟩
    · have hr := run_endLoop (P := P) hl (by rw [hR0]; simp)
      rw [hR0] at hr
      exact ⟨some .ret, _, hr, hstop D k _ (by omega) hk (hIx.putObj _ hi (by omega) hl rfl) ((World.putObj_heap_other (by omega)).trans hd)⟩
end Go.Ev

namespace Go.Ev
open Go.Lib

theorem TreeAt.one {M : Store} {d : Nat} (hd : 1 ≤ d) : ∀ {k : Nat} {id : Int} {lo : Bytes} {hi : Option Bytes} {ps : List Pair} {ids : List Int}, TreeAt M d k id lo hi ps ids → TreeAt M 1 k id lo hi ps ids
  | 0, _, _, _, _, _, ⟨items, i2, h1, h2, h3, h4, h5, h6⟩ => ⟨items, i2, h1, h2, h3, h4, h5, h6⟩
  | k + 1, _, _, _, _, _, ⟨c, L, i2, h1, h2, h3, h4, h5, h6, h7⟩ => ⟨c, L, i2, h1, h2, h3, by omega, h5, h6.mono fun _ _ _ _ _ _ ht => ⟨TreeAt.one hd ht.1, ht.2⟩, h7⟩

theorem TopAt.of2 {M : Store} {k : Nat} {root : Int} {ps : List Pair} {ids : List Int} (h : TreeAt M 2 k root [] none ps ids) : TopAt M k root ps ids := by
  refine ⟨h.one (by omega), ?_⟩
  cases k with
  | zero => exact .inl rfl
  | succ k =>
    obtain ⟨c, L, i2, h1, h2, h3, h4, h5, h6, h7⟩ := h
    refine .inr ?_
    rw [kidsAt_of h1 h2 h3]
    simp only [headKey, List.length_cons]
    omega

/-- Each level has a page. -/
theorem TreeAt.levels {M : Store} {d : Nat} : ∀ {k : Nat} {id : Int} {lo : Bytes} {hi : Option Bytes} {ps : List Pair} {ids : List Int}, TreeAt M d k id lo hi ps ids → k + 1 ≤ ids.length
  | 0, _, _, _, _, _, ⟨items, i2, h1, h2, h3, h4, h5, h6⟩ => by subst h5; simp
  | k + 1, _, _, _, _, _, ⟨c, L, i2, h1, h2, h3, h4, h5, ⟨p1, p2, i1, i3, g1, g2, ⟨g3, _⟩, g5⟩, h7⟩ => by
    have := TreeAt.levels g3
    subst h7 g2
    simp only [List.length_cons, List.length_append]
    omega

/-- An empty tree is one leaf. -/
theorem TreeAt.empty {M : Store} {d : Nat} {k : Nat} {id : Int} {lo : Bytes} {hi : Option Bytes} {ids : List Int} (h : TreeAt M d k id lo hi [] ids) : k = 0 ∧ ids = [id] := by
  cases k with
  | zero =>
    obtain ⟨items, i2, h1, h2, h3, h4, h5, h6⟩ := h
    cases items with
    | nil => obtain ⟨_, rfl⟩ := h4; exact ⟨rfl, h5⟩
    | cons x l => obtain ⟨_, _, _, _, e, _⟩ := h4; cases e
  | succ k =>
    obtain ⟨c, L, i2, h1, h2, h3, h4, h5, ⟨p1, p2, i1, i3, g1, g2, ⟨g3, g4⟩, g5⟩, h7⟩ := h
    have : p1 = [] := List.append_eq_nil_iff.1 g1.symm |>.1
    exact absurd this g4

theorem Hist.same {M M' : Store} {k : Nat} {root : Int} {S : Nat → Nat} {n : Nat} {d : Nat} {lo : Bytes} {hi : Option Bytes} {ps : List Pair} {ids : List Int} (h : Hist M k root S n) (ht : TreeAt M d k root lo hi ps ids) (hs : SameOn M M' ids) : Hist M' k root S n := by
  have e : ∀ (f : List Item → Nat) (g : List Child → Nat) l, meas f g M' k root l = meas f g M k root l := fun f g l => by rw [meas_same ht hs]
  exact ⟨by rw [e]; exact h.pot0, fun l => by rw [e]; exact h.potl l, fun l => by rw [e]; exact h.cnt l, h.top⟩

/-- .. that has been put into n times, and these are its pages. -/
structure TreeH (M : Store) (root : Int) (ps : List Pair) (ids : List Int) (n : Nat) : Prop where
  ex : ∃ k S, TopAt M k root ps ids ∧ Hist M k root S n
  once : ids.Nodup
  short : Short ps

theorem TreeH.same {M M' : Store} {root : Int} {ps : List Pair} {ids : List Int} {n : Nat} (h : TreeH M root ps ids n) (hs : SameOn M M' ids) : TreeH M' root ps ids n := by
  obtain ⟨⟨k, S, h1, h2⟩, h3, h4⟩ := h
  refine ⟨⟨k, S, ⟨h1.tree.same hs, h1.wide.imp id fun e => ?_⟩, h2.same h1.tree hs⟩, h3, h4⟩
  cases k with
  | zero => obtain ⟨items, i2, g1, g2⟩ := h1.tree; unfold kidsAt at e ⊢; rw [hs root (by rw [g2.2.2.2.1]; simp)]; exact e
  | succ k => obtain ⟨c, L, i2, g1, g2⟩ := h1.tree; unfold kidsAt at e ⊢; rw [hs root (by rw [g2.2.2.2.2.2]; simp)]; exact e

theorem TreeH.new {M : Store} {root : Int} (h : M root = some ⟨2, 0, []⟩) : TreeH M root [] [root] 0 :=
  ⟨⟨0, _, ⟨⟨[], [], h, rfl, by simp [layI], ⟨rfl, rfl⟩, rfl, fun q hq => by cases hq⟩, .inl rfl⟩, Hist.new h⟩, by simp, fun q hq => by cases hq⟩

theorem TreeH.there {M : Store} {root : Int} {ps : List Pair} {ids : List Int} {n : Nat} (h : TreeH M root ps ids n) : ∀ i ∈ ids, M i ≠ none := by
  obtain ⟨⟨k, S, h1, h2⟩, h3, h4⟩ := h
  exact h1.tree.there

theorem TreeH.pages {M : Store} {root : Int} {ps : List Pair} {ids : List Int} {n : Nat} (h : TreeH M root ps ids n) (hn : n ≤ 250) (hv : sumV ps ≤ 60000) (hp : ps.length ≤ 250) : ids.length ≤ 1337 := by
  obtain ⟨⟨k, S, h1, h2⟩, h3, h4⟩ := h
  exact h2.pages hn h1 hv hp

/-- A tree of one pair at most is one leaf. -/
theorem TopAt.low {M : Store} {k : Nat} {root : Int} {ps : List Pair} {ids : List Int} (h : TopAt M k root ps ids) (hp : ps.length ≤ 1) : k = 0 := by
  cases k with
  | zero => rfl
  | succ k =>
    exfalso
    obtain ⟨c, L, i2, h1, h2, h3, h4, h5, h6, h7⟩ := h.tree
    have hw := h.wide.resolve_left (by omega)
    rw [kidsAt_of h1 h2 h3] at hw
    cases L with
    | nil => simp [headKey] at hw
    | cons c' L =>
      obtain ⟨p1, p2, j1, j2, e1, e2, ⟨_, g2⟩, ⟨p3, p4, j3, j4, e3, e4, ⟨_, g4⟩, _⟩⟩ := h6
      have a1 := List.length_pos_iff.2 g2
      have a2 := List.length_pos_iff.2 g4
      rw [e1, e3, List.length_append, List.length_append] at hp
      omega

theorem TopAt.leaf2 {M : Store} {root : Int} {ps : List Pair} {ids : List Int} (h : TopAt M 0 root ps ids) : TreeAt M 2 0 root [] none ps ids := by
  obtain ⟨items, i2, h1, h2, h3, h4, h5, h6⟩ := h.tree
  exact ⟨items, i2, h1, h2, h3, h4, h5, h6⟩
end Go.Ev

namespace Go.Ev
open Go.RowKit

/-- An append within the room stays where it was. -/
theorem run_append_stays {P : Program} (w : World) {base : Nat} {t ty e : TypeId} {i : TypeInfo} {z : Value} {size bytes : Nat} (ht : P.underlying t = some (.slice e)) (hi : P.info? e = some i) (hz : i.zero = some z)
    (hsize : i.size = size) (hby : i.bytes = bytes) (hzs : z.cells.size = size) (hsz : 0 < size) {g n cap : Nat} {xs : List Value} (hown : w.ownsRow base e size (.slice (some ⟨g, 0, none⟩) n cap) n xs)
    {a : Addr} {m c : Nat} {news : List Value} (hl : news.length = m * size) (hnews : ∀ j u, news[j]? = some u → w.cell? (a.add j) = some u) (h1 : ∀ u ∈ news, u.oneCell' = true) (hroom : n + m ≤ cap)
    (h63 : n + m ≤ maxLen) (hbytes : (n + m) * bytes ≤ 140737488355328) (hbase : base ≤ w.heap.size) :
    ∃ w', (Builtin.append_ #[t, t] ty #[.slice (some ⟨g, 0, none⟩) n cap, .slice (some a) m c]).run P w = .ok (.slice (some ⟨g, 0, none⟩) (n + m) cap) w' ∧ w'.ownsRow base e size (.slice (some ⟨g, 0, none⟩) (n + m) cap) (n + m) (xs ++ news) ∧ w.grownBy w' (some g) := by
  obtain ⟨v', w', hr, h2, h3, _⟩ := run_append_own (P := P) w base t ty e i z size bytes ht hi hz hsize hby hzs hsz _ n xs hown a m c news hl hnews h1 h63 hbytes hbase
  rcases hown.2 with ⟨e0, _⟩ | ⟨g', cap', cur, e0, hbg, hg, hnc, hcm, hcs, htake⟩
  · cases e0
  · simp only [Value.slice.injEq, Option.some.injEq, Addr.mk.injEq, and_true, true_and] at e0
    obtain ⟨rfl, rfl⟩ := e0
    subst hsize
    have hr2 := run_append_room (P := P) w t ty e i ht hi g n cap cur hg a m c news hl hnews h1 hroom (by rw [hl, hcs, ← Nat.add_mul]; exact Nat.mul_le_mul_right _ hroom)
    rw [hr] at hr2
    simp only [Result.ok.injEq] at hr2
    obtain ⟨rfl, _⟩ := hr2
    exact ⟨w', hr, h2, h3⟩

theorem setCells_size {g : Nat} : ∀ (vs : List Value) (o : Nat) (w : World), (w.setCells g o vs).heap.size = w.heap.size
  | [], _, _ => rfl
  | v :: vs, o, w => by
    show ((w.setCell ⟨g, o, none⟩ v).setCells g (o + 1) vs).heap.size = _
    rw [setCells_size vs]
    simp [World.setCell]

theorem setCells_shape {g : Nat} {e : TypeId} : ∀ (vs : List Value) (o : Nat) (w : World) (cur : Array Value), w.heap[g]? = some (.cells cur e (0, 0)) → ∃ cur', (w.setCells g o vs).heap[g]? = some (.cells cur' e (0, 0)) ∧ cur'.size = cur.size
  | [], _, _, cur, h => ⟨cur, h, rfl⟩
  | v :: vs, o, w, cur, h => by
    have h1 : Blk w g e cur := h
    obtain ⟨cur', h2, h3⟩ := setCells_shape vs (o + 1) (w.setCell ⟨g, o, none⟩ v) _ (h1.set o v)
    exact ⟨cur', h2, by rw [h3]; simp⟩

theorem setCells_frm {g : Nat} : ∀ (vs : List Value) (o : Nat) (w : World), Keeps (fun k => k = g) w (w.setCells g o vs)
  | [], _, w => Keeps.refl _ w
  | v :: vs, o, w => ((Keeps.refl (fun k => k = g) w).setCell (p := ⟨g, o, none⟩) (fun _ => rfl) v).trans (setCells_frm vs (o + 1) _) fun _ _ e => e

/-- Cells beyond the end of a row of one's own are written. -/
theorem own_beyond {w : World} {base size g n cap o : Nat} {e : TypeId} {xs vs : List Value} (h : w.ownsRow base e size (.slice (some ⟨g, 0, none⟩) n cap) n xs) (ho : n * size ≤ o) : (w.setCells g o vs).ownsRow base e size (.slice (some ⟨g, 0, none⟩) n cap) n xs := by
  have hcells := h.cells (g := g) rfl
  refine ⟨h.1, ?_⟩
  rcases h.2 with ⟨e0, _⟩ | ⟨g', cap', cur, e0, hbg, hg, hnc, hcm, hcs, htake⟩
  · cases e0
  · simp only [Value.slice.injEq, Option.some.injEq, Addr.mk.injEq, and_true, true_and] at e0
    obtain ⟨rfl, rfl⟩ := e0
    obtain ⟨cur', h2, h3⟩ := setCells_shape vs o w cur hg
    refine .inr ⟨g, cap, cur', rfl, hbg, h2, hnc, hcm, by rw [h3, hcs], ?_⟩
    refine List.ext_getElem? fun j => ?_
    rw [List.getElem?_take]
    by_cases hj : j < n * size
    · rw [if_pos hj, Array.getElem?_toList, ← cell_of_row _ g j cur' e (0, 0) h2, World.cell?_setCells_out g vs o w ⟨g, j, none⟩ (fun _ _ => .inl (by show j < o; omega))]
      have hx : j < xs.length := by rw [h.1]; exact hj
      have := hcells j xs[j] (List.getElem?_eq_getElem hx)
      rw [addr_add, Nat.zero_add] at this
      rw [this, List.getElem?_eq_getElem hx]
    · rw [if_neg hj, List.getElem?_eq_none (by rw [h.1]; omega)]

/-- The front of a row of one's own. -/
theorem own_front {w : World} {base size g n cap i : Nat} {e : TypeId} {xs : List Value} (h : w.ownsRow base e size (.slice (some ⟨g, 0, none⟩) n cap) n xs) (hi : i ≤ n) : w.ownsRow base e size (.slice (some ⟨g, 0, none⟩) i cap) i (xs.take (i * size)) := by
  have hm : i * size ≤ n * size := Nat.mul_le_mul_right _ hi
  refine ⟨by rw [List.length_take, h.1]; omega, ?_⟩
  rcases h.2 with ⟨e0, _⟩ | ⟨g', cap', cur, e0, hbg, hg, hnc, hcm, hcs, htake⟩
  · cases e0
  · simp only [Value.slice.injEq, Option.some.injEq, Addr.mk.injEq, and_true, true_and] at e0
    obtain ⟨rfl, rfl⟩ := e0
    refine .inr ⟨g, cap, cur, rfl, hbg, hg, by omega, hcm, hcs, ?_⟩
    rw [← htake, List.take_take, Nat.min_eq_left hm]

/-- 'clear(s)' at one element: its cells are the zero value's. -/
theorem run_clear_one {P : Program} (w : World) (t e ty : TypeId) (z : Value) (ht : P.underlying t = some (.slice e)) (hv : ∀ w, (zeroValue e).run P w = .ok z w) (h1 : ∀ v ∈ z.cells.toList, v.oneCell' = true) (b o c : Nat)
    (hc : ∀ j, j < z.cells.size → (w.cell? ⟨b, o + j, none⟩).isSome = true) (hf : ∀ j, j < z.cells.size → w.frozen? ⟨b, o + j, none⟩ = false) :
    (Builtin.clear_ #[t] ty #[.slice (some ⟨b, o, none⟩) 1 c]).run P w = .ok (.tuple #[]) (w.setCells b o z.cells.toList) := by
  have hzc : (Builtin.zeroCells z.cells 1).toList = z.cells.toList := by
    apply List.ext_getElem
    · simp [Builtin.zeroCells]
    · intro i h1 h2
      have hlt : i < z.cells.size := by simpa using h2
      have e1 : (Builtin.zeroCells z.cells 1)[i]'(by simpa using h1) = z.cells[i % z.cells.size]! := by simp [Builtin.zeroCells]
      rw [Array.getElem_toList, Array.getElem_toList, e1, Nat.mod_eq_of_lt hlt]
      exact getElem!_pos z.cells i hlt
  have hst := run_storeCells_cells (P := P) b o z.cells.toList 0 w (by simpa using hc) (by simpa using hf) h1
  simp only [Nat.add_zero] at hst
  simp [Builtin.clear_, run_underlying ht, hv, hzc, hst]

/-- An append whose outcome is known. -/
theorem wp_append_eq {P : Program} {w w' : World} {o : Oper} {a : Act} {K : Act → World → Prop} {Q : Exit → Act → World → Prop} (s x : Operand) (t : TypeId) {v y v' : Value}
    (ho : o.op = .call { callee := .builtin .append, args := #[s, x], argTypes := #[t, t] }) (hs : a.eval s = v) (hx : a.eval x = y) (hr : (Builtin.append_ #[t, t] o.type #[v, y]).run P w = .ok v' w') (h : K (a.put o.dst v') w') : o.wp P a w K Q := by
  unfold Oper.wp execOp
  simp only [ho, resolve, invoke, builtin, Sem.run_bind, Sem.run_pure, Result.andThen_ok, List.map_toArray, List.map_cons, List.map_nil, hs, hx]
  rw [hr]
  exact h
end Go.Ev

set_option linter.unusedVariables false
set_option linter.unusedSimpArgs false
namespace Go.Ev
open Go.Proofs Go.RowKit

set_option maxHeartbeats 4000000 in
set_option maxRecDepth 100000 in
/-- slices.Delete of one element, out of a row of one's own. -/
theorem sdelI_any (base g n cap i : Nat) (l : List Item) (w : World) (h : w.ownsRow base 100 4 (.slice (some ⟨g, 0, none⟩) n cap) n (itemsCs l)) (hi : i < n) (hn : n ≤ 10000) (hb : base ≤ w.heap.size) :
    Calls Tryz.prog 111 #[.slice (some ⟨g, 0, none⟩) n cap, .int .i64 (i : Int), .int .i64 ((i : Int) + 1)] w fun e w' =>
      ∃ v, e = .returned v ∧ w'.ownsRow base 100 4 v (n - 1) (itemsCs (l.take i ++ l.drop (i + 1))) ∧ Keeps (fun k => k = g) w w' := by
  obtain ⟨i0, hinf, hz0, hz1, hz2⟩ := info_parts (show (Tryz.prog.info? 100).map (fun i => (i.zero, i.size, i.bytes)) = some (some (.agg #[.string ⟨#[]⟩, .string ⟨#[]⟩, .int .i64 0, .int .i64 0]), 4, 48) by kernel_rfl)
  have hll : l.length = n := by have := h.1; rw [itemsCs_len] at this; omega
  have hcap : n ≤ cap := by
    rcases h.2 with ⟨e0, _⟩ | ⟨g', cap', cur, e0, _, _, hnc, _⟩
    · cases e0
    · simp only [Value.slice.injEq, Option.some.injEq, Addr.mk.injEq, and_true, true_and] at e0
      obtain ⟨rfl, rfl⟩ := e0
      exact hnc
  obtain ⟨j, hj⟩ : ∃ j, i + 1 = j := ⟨_, rfl⟩
  obtain ⟨m, hm⟩ : ∃ m, n - 1 = m := ⟨_, rfl⟩
  -- what is moved up
  obtain ⟨ad, had, hadj⟩ : ∃ ad : Addr, (if cap = j then some (⟨g, 0, none⟩ : Addr) else some ⟨g, j * 4, none⟩) = some ad ∧ (cap = j ∨ ad = ⟨g, j * 4, none⟩) := by
    by_cases hc : cap = j
    · exact ⟨_, by rw [if_pos hc], .inl hc⟩
    · exact ⟨_, by rw [if_neg hc], .inr rfl⟩
  have hnews : ∀ k u, (itemsCs (l.drop j))[k]? = some u → w.drew.cell? (ad.add k) = some u := fun k u hu => by
    rcases hadj with hc | rfl
    · rw [List.drop_eq_nil_of_le (by omega)] at hu
      simp [itemsCs] at hu
    rw [← itemsCs_drop, List.getElem?_drop] at hu
    have h1 := h.cells (g := g) rfl _ _ hu
    rw [addr_add] at h1 ⊢
    rw [Nat.zero_add] at h1
    exact h1
  have hfr := own_front h (Nat.le_of_lt hi)
  rw [itemsCs_take] at hfr
  obtain ⟨w1, hr, hown1, hg1⟩ := run_append_stays (P := Tryz.prog) (ty := 92) w.drew (i := i0) Tryz.underlying92 hinf hz0 hz1 hz2 rfl (by decide) (show w.drew.ownsRow base 100 4 (.slice (some ⟨g, 0, none⟩) i cap) i (itemsCs (l.take i)) from hfr) (a := ad) (m := n - j) (c := cap - j) (news := itemsCs (l.drop j)) (by rw [itemsCs_len, List.length_drop]; omega) hnews (itemsCs_one _) (by omega) (by unfold maxLen; omega) (by omega) hb
  have hmm : i + (n - j) = m := by omega
  rw [hmm, ← itemsCs_append] at hown1
  rw [hmm] at hr
  have hK1 : Keeps (fun k => k = g) w w1 := ((Keeps.refl (fun k => k = g) w).drew).grown hg1 fun k e _ => by cases e; rfl
  -- what is cleared
  obtain ⟨cur', hb1, hcs1⟩ : ∃ cur', w1.heap[g]? = some (.cells cur' 100 (0, 0)) ∧ n * 4 ≤ cur'.size := by
    rcases hown1.2 with ⟨e0, _⟩ | ⟨g', cap', cur, e0, _, hg', hnc, _, hcs, _⟩
    · cases e0
    · simp only [Value.slice.injEq, Option.some.injEq, Addr.mk.injEq, and_true, true_and] at e0
      obtain ⟨rfl, rfl⟩ := e0
      exact ⟨cur, hg', by omega⟩
  have hB1 : Blk w1 g 100 cur' := hb1
  have hcl := fun ty => run_clear_one (P := Tryz.prog) w1 92 100 ty (.agg #[.string ⟨#[]⟩, .string ⟨#[]⟩, .int .i64 0, .int .i64 0]) Tryz.underlying92 (fun W => by kernel_rfl) (by simp [Value.cells, Value.oneCell']) g (m * 4) (cap - m) (fun k hk => by
    rw [hB1.cell]
    have h4 : k < 4 := hk
    rw [Array.getElem?_eq_getElem (by omega)]
    rfl) (fun k _ => hB1.frozen _)
  have hown2 := own_beyond (vs := (Value.agg #[.string ⟨#[]⟩, .string ⟨#[]⟩, .int .i64 0, .int .i64 0]).cells.toList) hown1 (Nat.le_refl _)
  have hK2 := hK1.trans (setCells_frm ((Value.agg #[.string ⟨#[]⟩, .string ⟨#[]⟩, .int .i64 0, .int .i64 0]).cells.toList) (m * 4) w1) fun _ _ e => e
  obtain ⟨w2, hw2⟩ : ∃ w2, w1.setCells g (m * 4) (Value.agg #[.string ⟨#[]⟩, .string ⟨#[]⟩, .int .i64 0, .int .i64 0]).cells.toList = w2 := ⟨_, rfl⟩
  rw [hw2] at hown2 hK2 hcl
  have hne : ((i : Int) == (i : Int) + 1) = false := by simp; omega
  have hi0 : (0 : Int) ≤ (i : Int) := by omega
  have hi1 : (i : Int) ≤ (i : Int) + 1 := by omega
  have hi2 : (i : Int) + 1 ≤ (n : Int) := by omega
  have hnc : (n : Int) ≤ (cap : Int) := by omega
  have hic : (i : Int) ≤ (cap : Int) := by omega
  have hm0 : (0 : Int) ≤ (m : Int) := by omega
  have hmn : (m : Int) ≤ (n : Int) := by omega
  have hi01 : (0 : Int) ≤ (i : Int) + 1 := by omega
  have hcm : ¬ cap = m := by omega
  have hnm : n - m = 1 := by omega
  have HE := Lib.hid (And.intro hown2 hK2)
  have HJ := Lib.hid hj
  clear hadj hfr hnews hown1 hg1 hmm hK1 hb1 hcs1 hB1 hown2 hK2 hw2 h
  go_enter Tryz.func111, Tryz.ntmps111
  go_wp2_with (fail)
  refine wp_region_any (by kernel_rfl) ?_
  change wpAny _ _ _ _ _ _ _ (World.drew _)
  try simp only [Act.put, lT, l0, lS]
  refine tA 0 ?_; try simp only [Act.put, lT, l0, lS]
  refine tA 1 ?_; try simp only [Act.put, lT, l0, lS]
  refine tA 2 ?_; try simp only [Act.put, lT, l0, lS]
  refine tA 3 ?_; try simp only [Act.put, lT, l0, lS]
  refine tA 4 ?_; try simp only [Act.put, lT, l0, lS]
  refine tA 5 ?_; try simp only [Act.put, lT, l0, lS]
  refine rd 6 (by kernel_rfl) rfl (fun K hK => ?_); refine if_on rfl ?_
  go_must (refine wp_append_eq _ _ 92 rfl rfl rfl hr ?_)
  go_simp
  refine hK _ _ ?_
  clear hK K
  try simp only [Act.put, lT, l0, lS]
  refine tA 7 ?_; try simp only [Act.put, lT, l0, lS]
  refine wpAny_done (by kernel_rfl) ?_ _
  go_wp2_with (fail)
  go_ret
  refine ⟨_, rfl, ?_, HE.out.2⟩
  rw [HJ.out, hm]
  exact HE.out.1

set_option maxHeartbeats 2000000 in
set_option maxRecDepth 100000 in
theorem delI_any (A : Option Addr) (n c : Nat) (l : List Item) (key : Bytes) (w : World) (hv : Sl w 4 (.slice A n c) n (itemsCs l)) (hn : n ≤ 10000) (hr : riseI l = true) :
    Calls Tryz.prog 52 #[.slice A n c, strV key] w (OwnPost (delI l key) w) := by
  have hl := hv.len4
  subst hl
  have hale := ahead_le key l
  have HF := Lib.hid (findI_any A l.length c l key w hv (by omega) hr)
  have HC := Lib.hid (fun W (hb : Below w.heap.size w W) => cloneI_all A l.length c l W (hv.below hb) (by omega))
  have HDel : Hid (isAt key l = true → delI l key = l.take (ahead key l) ++ l.drop (ahead key l + 1)) := fun h => by unfold delI; rw [if_pos h]
  have HNot : Hid (isAt key l = false → delI l key = l) := fun h => by unfold delI; rw [if_neg (by rw [h]; decide)]
  have HLt : Hid (isAt key l = true → ahead key l < l.length) := fun h => by
    obtain ⟨x, hx, _⟩ := isAt_iff.1 h
    exact (List.getElem?_eq_some_iff.1 hx).1
  clear hv hr
  generalize ahead key l = i at *
  go_enter Tryz.func52, Tryz.ntmps52
  go_wp2_with (fail)
  go_must (refine HF.out.mono ?_)
  rintro e w1 ⟨rfl, hb1⟩
  have HC1 := Lib.hid (HC.out w1 hb1)
  have HB1 := Lib.hid hb1
  clear hb1
  go_wp2_with (fail)
  go_must (refine HC1.out.mono ?_)
  rintro e w2 ⟨v2, rfl, hown, hb2⟩
  have HB2 := Lib.hid (HB1.out.trans (hb2.mono HB1.out.size))
  have hown := own_base hown HB1.out.size
  clear hb2
  cases hat : isAt key l with
  | false =>
    have hd := HNot.out hat
    have HE : Hid (OwnPost (delI l key) w (.returned v2) w2) := by
      rw [hd]
      exact ⟨v2, rfl, hown, HB2.out⟩
    obtain ⟨A2, c2, rfl, _⟩ := Sl.of_own hown
    clear hown hd
    go_wp2_with (fail)
    go_ret
    exact HE.out
  | true =>
    have hlt := HLt.out hat
    have hd := HDel.out hat
    rcases hown.2 with ⟨_, h0⟩ | ⟨g, cap, cur, rfl, hbg, _⟩
    · omega
    have hDl := sdelI_any w.heap.size g l.length cap i l w2 hown hlt (by omega) HB2.out.size
    have hwi : IntKind.i64.wrap ((i : Int) + 1) = (i : Int) + 1 := IntWalk.i64_in _ (by omega)
    have HDl := Lib.hid hDl
    have HD := Lib.hid hd
    clear hDl hown hd
    go_wp2_with (fail)
    go_must (refine HDl.out.mono ?_)
    rintro e w3 ⟨v3, rfl, hown3, hk3⟩
    have hl3 : l.length - 1 = (delI l key).length := by
      rw [HD.out, List.length_append, List.length_take, List.length_drop]
      omega
    have HE : Hid (OwnPost (delI l key) w (.returned v3) w3) := by
      refine ⟨v3, rfl, ?_, HB2.out.trans (hk3.below HB2.out.size fun k hk e => by omega)⟩
      rw [← hl3, HD.out]
      exact hown3
    obtain ⟨A3, c3, rfl, _⟩ := Sl.of_own hown3
    clear hown3 hk3 hl3
    go_wp2_with (fail)
    go_ret
    exact HE.out
end Go.Ev

namespace Go.Ev
open Go.Lib

/-- A part of a tree, the way to it, and how many pairs lie ahead of it. -/
inductive Zip (M : Store) (d : Nat) (all : List Pair) : Nat → Int → Bytes → Option Bytes → List Pair → Nat → List (List Child × Nat) → Prop
  | root {h : Nat} {id : Int} {ids : List Int} : TreeAt M d h id [] none all ids → Zip M d all h id [] none all 0 []
  | down {k : Nat} {id : Int} {lo : Bytes} {hi : Option Bytes} {ps p1 p2 p3 : List Pair} {off : Nat} {path : List (List Child × Nat)} {c y : Child} {L A B : List Child} {i1 i2 i3 : List Int} : Zip M d all (k + 1) id lo hi ps off path →
      c.key = lo → c :: L = A ++ y :: B → Seg (Sub M d k) A (some y.key) p1 i1 → Sub M d k y.page y.key (nextB B hi) p2 i2 → Seg (Sub M d k) B hi p3 i3 → ps = p1 ++ (p2 ++ p3) →
      Zip M d all k y.page y.key (nextB B hi) p2 (off + p1.length) (path ++ [(headKey [] (c :: L), A.length)])

theorem headKey_pg (k : Bytes) : ∀ (L : List Child) (i : Nat) (x : Child), (headKey k L)[i]? = some x → ∃ y, L[i]? = some y ∧ y.page = x.page
  | [], i, x, h => by simp [headKey] at h
  | c :: L, 0, x, h => by
    simp only [headKey, List.getElem?_cons_zero, Option.some.injEq] at h
    subst h
    exact ⟨c, rfl, rfl⟩
  | c :: L, i + 1, x, h => ⟨x, by simpa [headKey] using h, rfl⟩

section
variable {M : Store} {d k off : Nat} {all ps : List Pair} {id : Int} {lo : Bytes} {hi : Option Bytes} {path : List (List Child × Nat)}

theorem Zip.tree (h : Zip M d all k id lo hi ps off path) : (∃ ids, TreeAt M d k id lo hi ps ids) ∧ (path ≠ [] → ps ≠ []) := by
  cases h with
  | root h => exact ⟨⟨_, h⟩, fun h => absurd rfl h⟩
  | down _ _ _ _ h _ _ => exact ⟨⟨_, h.1⟩, fun _ => h.2⟩

/-- What lies ahead is less than all here, what lies behind is not. -/
theorem Zip.pos (h : Zip M d all k id lo hi ps off path) : ∃ a b, all = a ++ (ps ++ b) ∧ a.length = off ∧ (∀ q ∈ a, lessB q.1 lo = true) ∧ ∀ q ∈ b, ∃ u, hi = some u ∧ lessB q.1 u = false := by
  induction h with
  | root h => exact ⟨[], [], by simp, rfl, fun q hq => by simp at hq, fun q hq => by simp at hq⟩
  | @down k id lo hi ps p1 p2 p3 off path c y L A B i1 i2 i3 hz hr hF s1 s2 s3 hps ih =>
    obtain ⟨a, b, h1, h2, h3, h4⟩ := ih
    subst hps
    -- the lower bound of the parent is not above the child's
    have hlo : ∀ q ∈ a, lessB q.1 y.key = true := by
      intro q hq
      have hq1 := h3 q hq
      cases hAA : A with
      | nil =>
        rw [hAA] at hF
        simp only [List.nil_append, List.cons.injEq] at hF
        rw [← hF.1, hr]
        exact hq1
      | cons x A' =>
        rw [hAA] at hF s1
        simp only [List.cons_append, List.cons.injEq] at hF
        obtain ⟨z, hz'⟩ := List.exists_mem_of_ne_nil _ (s1.ne (by simp))
        have hb := Seg.inR s1 z hz'
        rw [← hF.1, hr] at hb
        exact lessB_trans (lessB_of_lt_le hq1 hb.1) (hb.2 y.key rfl)
    exact ⟨a ++ p1, p3 ++ b, by rw [h1]; simp, by simp [h2], fun q hq => by
      rcases List.mem_append.1 hq with hq | hq
      · exact hlo q hq
      · cases hAA : A with
        | nil => rw [hAA] at s1; rw [s1.1] at hq; simp at hq
        | cons x A' => rw [hAA] at s1; exact (Seg.inR s1 q hq).2 y.key rfl, fun q hq => by
      rcases List.mem_append.1 hq with hq | hq
      · cases hBB : B with
        | nil => rw [hBB] at s3; rw [s3.1] at hq; simp at hq
        | cons b' B' => rw [hBB] at s3; exact ⟨b'.key, rfl, (Seg.inR s3 q hq).1⟩
      · obtain ⟨u, hu, hl⟩ := h4 q hq
        cases hBB : B with
        | nil => exact ⟨u, hu, hl⟩
        | cons b' B' =>
          rw [hBB] at s3
          refine ⟨b'.key, rfl, ?_⟩
          obtain ⟨x, hx⟩ := List.exists_mem_of_ne_nil _ (s3.ne (by simp))
          have hb := Seg.inR s3 x hx
          have h5 := hb.2 u hu
          -- b'.key <= x < u <= q
          exact lessB_le_trans hb.1 (lessB_asymm (lessB_of_lt_le h5 hl))⟩

/-- A branch's page, and its children. -/
theorem Zip.child (h : Zip M d all (k + 1) id lo hi ps off path) : ∃ L, M id = some ⟨3, 0, layC L⟩ ∧ rightC L = true ∧ (layC L).length ≤ 240 ∧ d ≤ L.length ∧ ∀ i x, L[i]? = some x → ∃ lo' hi' ps' off', Zip M d all k x.page lo' hi' ps' off' (path ++ [(L, i)]) ∧
    (i = 0 → off' = off) ∧ (i + 1 = L.length → off' + ps'.length = off + ps.length) ∧ ∀ key, inR lo hi key → i = findC key L → inR lo' hi' key := by
  obtain ⟨⟨ids, c, L, i2, h1, h2, h3, h4, h5, h6, h7⟩, _⟩ := h.tree
  refine ⟨headKey [] (c :: L), h1, h2, h3, by simpa [headKey] using h4, fun i x hx => ?_⟩
  obtain ⟨y, hy, hpg⟩ := headKey_pg _ _ _ _ hx
  have hil : i < (c :: L).length := (List.getElem?_eq_some_iff.1 hy).1
  have hF : c :: L = (c :: L).take i ++ y :: (c :: L).drop (i + 1) := by
    have e : (c :: L).drop i = y :: (c :: L).drop (i + 1) := by
      rw [List.drop_eq_getElem_cons hil]
      rw [List.getElem?_eq_getElem hil, Option.some.injEq] at hy
      rw [hy]
    rw [← e, List.take_append_drop]
  have hlen : ((c :: L).take i).length = i := by rw [List.length_take]; omega
  have hB0 : (c :: L).drop (i + 1) = L.drop i := by simp
  have hy0 : i = 0 → y = c := by rintro rfl; simpa using hy.symm
  have hyk : i ≠ 0 → L[i - 1]? = some y := by
    intro h0
    obtain ⟨j, rfl⟩ : ∃ j, i = j + 1 := ⟨i - 1, by omega⟩
    simpa using hy
  rw [← hpg]
  clear hpg hx hy
  generalize hA : (c :: L).take i = A at *
  generalize hB : (c :: L).drop (i + 1) = B at *
  have hs := h6
  rw [hF] at hs
  obtain ⟨p1, pr, j1, jr, rfl, rfl, s1, s2⟩ := Seg.append.1 hs
  obtain ⟨p2, p3, j2, j3, rfl, rfl, s3, s5⟩ := s2
  have hz := Zip.down h h5 hF s1 s3 s5 rfl
  rw [hlen] at hz
  refine ⟨_, _, _, _, hz, ?_, ?_, ?_⟩
  · rintro rfl
    have : A = [] := List.eq_nil_of_length_eq_zero hlen
    subst this
    rw [s1.1]
    simp
  · intro he
    have hBn : B = [] := by
      rw [← hB]
      exact List.drop_of_length_le (by simp [headKey] at he ⊢; omega)
    subst hBn
    rw [s5.1]
    simp only [List.length_append, List.append_nil]
    omega
  · intro key hin hi0
    have hri : riseC [] L = true := (rightC_cons.1 h2).2.2
    have hfc : findC key (headKey [] (c :: L)) = Go.Ev.below key L := rfl
    rw [hfc] at hi0
    refine ⟨?_, ?_⟩
    · by_cases h0 : i = 0
      · rw [hy0 h0, h5]; exact hin.1
      · obtain ⟨z, z1, z2⟩ := below_lt (k := key) (l := L) (i := i - 1) (by omega)
        rw [hyk h0] at z1
        cases z1
        exact z2
    · intro u hu
      cases hBB : B with
      | nil => rw [hBB] at hu; exact hin.2 u hu
      | cons b B' =>
        rw [hBB] at hu hB0
        simp only [nextB, Option.some.injEq] at hu
        subst hu
        have hlt : i < L.length := by
          rcases Nat.lt_or_ge i L.length with h | h
          · exact h
          · rw [List.drop_of_length_le h] at hB0; cases hB0
        rw [List.drop_eq_getElem_cons hlt] at hB0
        have hb1 := (List.cons.inj hB0).1
        exact below_ge hri (by omega : Go.Ev.below key L ≤ i) (by rw [List.getElem?_eq_getElem hlt, hb1])

/-- Back to the branch above, and to the parts beside. -/
theorem Zip.beside {L : List Child} {i : Nat} (h : Zip M d all k id lo hi ps off (path ++ [(L, i)])) : i < L.length ∧ (∃ id' lo' hi' ps' off', Zip M d all (k + 1) id' lo' hi' ps' off' path ∧ (i + 1 = L.length → off' + ps'.length = off + ps.length) ∧ (i = 0 → off' = off)) ∧
    (∀ x, L[i + 1]? = some x → ∃ lo' hi' ps', Zip M d all k x.page lo' hi' ps' (off + ps.length) (path ++ [(L, i + 1)])) ∧
    (∀ x, L[i - 1]? = some x → 0 < i → ∃ lo' hi' ps' off', Zip M d all k x.page lo' hi' ps' off' (path ++ [(L, i - 1)]) ∧ off' + ps'.length = off) := by
  generalize hG : path ++ [(L, i)] = G at h
  cases h with
  | root h => simp at hG
  | @down k id lo hi ps0 p1 _ p3 off path' c y L0 A B i1 i2 i3 hz hr hF s1 s2 s3 hps =>
    obtain ⟨e1, e2⟩ := List.append_inj' hG rfl
    simp only [List.cons.injEq, Prod.mk.injEq, and_true] at e2
    obtain ⟨rfl, rfl⟩ := e2
    subst e1
    subst hps
    have hlen : (headKey [] (c :: L0)).length = A.length + (B.length + 1) := by
      rw [headKey_len, hF, List.length_append]; rfl
    refine ⟨by omega, ⟨_, _, _, _, _, hz, fun he => ?_, fun h0 => ?_⟩, fun x hx => ?_, fun x hx h0 => ?_⟩
    · have : B = [] := List.eq_nil_of_length_eq_zero (by omega)
      subst this
      rw [s3.1]
      simp only [List.length_append, List.append_nil]
      omega
    · have : A = [] := List.eq_nil_of_length_eq_zero h0
      subst this
      rw [s1.1]
      simp
    · cases hBB : B with
      | nil => rw [hBB] at hlen; simp only [List.length_nil] at hlen; have := (List.getElem?_eq_some_iff.1 hx).1; omega
      | cons b B' =>
        subst hBB
        have hs3 := s3
        obtain ⟨q1, q2, j1, j2, rfl, rfl, t1, t2⟩ := hs3
        have hsA : Seg (Sub M d k) (A ++ [y]) (some b.key) (p1 ++ ps) (i1 ++ i2) := Seg.append.2 ⟨p1, ps, i1, i2, rfl, rfl, s1, ps, [], i2, [], by simp, by simp, s2, rfl, rfl⟩
        have hz' := Zip.down hz hr (by rw [hF]; simp : c :: L0 = (A ++ [y]) ++ b :: B') hsA t1 t2 (by simp)
        have e3 : (A ++ [y]).length = A.length + 1 := by simp
        have e4 : off + (p1 ++ ps).length = off + p1.length + ps.length := by simp; omega
        rw [e3, e4] at hz'
        have hg : x = b := by
          have : (c :: L0)[A.length + 1]? = some b := by rw [hF]; simp
          have e5 : (headKey [] (c :: L0))[A.length + 1]? = some b := by simpa [headKey] using this
          rw [e5] at hx
          exact (Option.some.inj hx).symm
        rw [hg]
        exact ⟨_, _, _, hz'⟩
    · obtain ⟨A', a, hA⟩ : ∃ A' a, A = A' ++ [a] := by
        rcases List.eq_nil_or_concat A with h | ⟨l, b, h⟩
        · rw [h] at h0; simp at h0
        · exact ⟨l, b, by simpa using h⟩
      subst hA
      obtain ⟨q1, q2, j1, j2, rfl, rfl, t1, t2⟩ := Seg.append.1 s1
      obtain ⟨r1, r2, k1, k2, rfl, rfl, u1, rfl, rfl⟩ := t2
      simp only [nextB] at u1
      have hsB : Seg (Sub M d k) (y :: B) hi (ps ++ p3) (i2 ++ i3) := ⟨ps, p3, i2, i3, rfl, rfl, s2, s3⟩
      have hz' := Zip.down hz hr (by rw [hF]; simp : c :: L0 = A' ++ a :: (y :: B)) t1 u1 hsB (by simp)
      have e3 : (A' ++ [a]).length - 1 = A'.length := by simp
      have hg : x.page = a.page := by
        obtain ⟨y', hy', hpg⟩ := headKey_pg _ _ _ _ hx
        have : (c :: L0)[(A' ++ [a]).length - 1]? = some a := by rw [hF]; simp
        rw [this] at hy'
        rw [← hpg, Option.some.inj hy']
      rw [hg, e3]
      exact ⟨_, _, _, _, hz', by simp; omega⟩

/-- A leaf's page, and its items. -/
theorem Zip.leaf (h : Zip M d all 0 id lo hi ps off path) : ∃ items i2, M id = some ⟨2, 0, layI items⟩ ∧ riseI items = true ∧ (layI items).length ≤ 240 ∧ LeafAt M items ps i2 ∧ (path ≠ [] → items ≠ []) := by
  obtain ⟨⟨ids, items, i2, h1, h2, h3, h4, h5, h6⟩, hne⟩ := h.tree
  refine ⟨items, i2, h1, h2, h3, h4, fun hp e => hne hp ?_⟩
  subst e
  exact h4.1

theorem LeafAt.item {l : List Item} {ids : List Int} (h : LeafAt M l ps ids) : l.length = ps.length ∧ ∀ j (hl : j < l.length) (hp : j < ps.length), l[j].key = ps[j].1 ∧ ∃ ii, ValAt M l[j] ps[j].2 ii := by
  induction l generalizing ps ids with
  | nil => obtain ⟨rfl, rfl⟩ := h; exact ⟨rfl, fun j hl => by simp at hl⟩
  | cons x l ih =>
    obtain ⟨v, ps', i1, i2, rfl, rfl, h3, h4⟩ := h
    obtain ⟨q1, q2⟩ := ih h4
    refine ⟨by simp [q1], fun j hl hp => ?_⟩
    cases j with
    | zero => exact ⟨rfl, _, h3⟩
    | succ j => exact q2 j (by simpa using hl) (by simpa using hp)

theorem Zip.high (h : Zip M d all k id lo hi ps off path) : ∃ id' ids', TreeAt M d (k + path.length) id' [] none all ids' := by
  induction h with
  | root h => exact ⟨_, _, h⟩
  | down hz _ _ _ _ _ _ ih =>
    obtain ⟨id', ids', h⟩ := ih
    refine ⟨id', ids', ?_⟩
    have e : ∀ a b : Nat, a + (b + 1) = a + 1 + b := by omega
    rw [List.length_append, List.length_cons, List.length_nil, e]
    exact h
end
end Go.Ev

namespace Go.Proofs
open Go.Shelf
def Tryz.sortZ_ren : Go.Shelf.Ren := ⟨fun | 5 => 90 | 8 => 145 | 7 => 144 | 19 => 192 | 20 => 193 | 10 => 183 | 11 => 184 | 12 => 185 | 13 => 186 | 14 => 187 | 15 => 188 | 16 => 189 | 17 => 190 | 18 => 191 | 30 => 219 | 31 => 220 | 32 => 221 | 33 => 222 | 34 => 223 | 35 => 224 | 40 => 243 | n => n, fun | 23 => 36 | 25 => 3 | 3 => 3 | 32 => 237 | 22 => 36 | 0 => 0 | 44 => 261 | 46 => 269 | 4 => 4 | 36 => 278 | 35 => 277 | 41 => 109 | 5 => 5 | 9 => 9 | 53 => 307 | 57 => 311 | 63 => 325 | 64 => 326 | n => n, fun | n => n⟩
theorem Tryz.sortZ : Go.Proofs.SlLaysM.n5 Tryz.prog Tryz.sortZ_ren := {
  mixed := by kernel_rfl
  f5 := ⟨Tryz.f90.name, by decide, Tryz.func90.trans (congrArg some (by kernel_rfl))⟩
  f7 := ⟨Tryz.f144.name, by decide, Tryz.func144.trans (congrArg some (by kernel_rfl))⟩
  f8 := Tryz.func145.trans (congrArg some (by kernel_rfl))
  f10 := ⟨Tryz.f183.name, by decide, Tryz.func183.trans (congrArg some (by kernel_rfl))⟩
  f11 := ⟨Tryz.f184.name, by decide, Tryz.func184.trans (congrArg some (by kernel_rfl))⟩
  f12 := ⟨Tryz.f185.name, by decide, Tryz.func185.trans (congrArg some (by kernel_rfl))⟩
  f13 := ⟨Tryz.f186.name, by decide, Tryz.func186.trans (congrArg some (by kernel_rfl))⟩
  f14 := ⟨Tryz.f187.name, by decide, Tryz.func187.trans (congrArg some (by kernel_rfl))⟩
  f15 := ⟨Tryz.f188.name, by decide, Tryz.func188.trans (congrArg some (by kernel_rfl))⟩
  f16 := ⟨Tryz.f189.name, by decide, Tryz.func189.trans (congrArg some (by kernel_rfl))⟩
  f17 := ⟨Tryz.f190.name, by decide, Tryz.func190.trans (congrArg some (by kernel_rfl))⟩
  f18 := ⟨Tryz.f191.name, by decide, Tryz.func191.trans (congrArg some (by kernel_rfl))⟩
  f19 := Tryz.func192.trans (congrArg some (by kernel_rfl))
  f20 := Tryz.func193.trans (congrArg some (by kernel_rfl))
  f30 := ⟨Tryz.f219.name, by decide, Tryz.func219.trans (congrArg some (by kernel_rfl))⟩
  f31 := Tryz.func220.trans (congrArg some (by kernel_rfl))
  f32 := Tryz.func221.trans (congrArg some (by kernel_rfl))
  f33 := ⟨Tryz.f222.name, by decide, Tryz.func222.trans (congrArg some (by kernel_rfl))⟩
  f34 := ⟨Tryz.f223.name, by decide, Tryz.func223.trans (congrArg some (by kernel_rfl))⟩
  f35 := ⟨Tryz.f224.name, by decide, Tryz.func224.trans (congrArg some (by kernel_rfl))⟩
  f40 := ⟨Tryz.f243.name, by decide, Tryz.func243.trans (congrArg some (by kernel_rfl))⟩
  t0 := Tryz.underlying0
  a0 := Tryz.isAgg0
  z0 := Tryz.sizeOf0
  v0 := Tryz.zeroValue0
  t3 := Tryz.underlying3
  a3 := Tryz.isAgg3
  z3 := Tryz.sizeOf3
  v3 := Tryz.zeroValue3
  t4 := Tryz.underlying4
  a4 := Tryz.isAgg4
  z4 := Tryz.sizeOf4
  v4 := Tryz.zeroValue4
  t5 := Tryz.underlying5
  a5 := Tryz.isAgg5
  z5 := Tryz.sizeOf5
  v5 := Tryz.zeroValue5
  t9 := Tryz.underlying9
  a9 := Tryz.isAgg9
  z9 := Tryz.sizeOf9
  v9 := Tryz.zeroValue9
  t22 := Tryz.underlying36
  a22 := Tryz.isAgg36
  z22 := Tryz.sizeOf36
  v22 := Tryz.zeroValue36
  t23 := Tryz.underlying36
  a23 := Tryz.isAgg36
  z23 := Tryz.sizeOf36
  v23 := Tryz.zeroValue36
  t25 := Tryz.underlying3
  a25 := Tryz.isAgg3
  z25 := Tryz.sizeOf3
  v25 := Tryz.zeroValue3
  t32 := Tryz.underlying237
  a32 := Tryz.isAgg237
  z32 := Tryz.sizeOf237
  v32 := Tryz.zeroValue237
  t35 := Tryz.underlying277
  a35 := Tryz.isAgg277
  z35 := Tryz.sizeOf277
  v35 := Tryz.zeroValue277
  t36 := Tryz.underlying278
  a36 := Tryz.isAgg278
  z36 := Tryz.sizeOf278
  v36 := Tryz.zeroValue278
  t41 := Tryz.underlying109
  a41 := Tryz.isAgg109
  z41 := Tryz.sizeOf109
  v41 := Tryz.zeroValue109
  t44 := Tryz.underlying261
  a44 := Tryz.isAgg261
  z44 := Tryz.sizeOf261
  v44 := Tryz.zeroValue261
  t46 := Tryz.underlying269
  a46 := Tryz.isAgg269
  z46 := Tryz.sizeOf269
  v46 := Tryz.zeroValue269
  t53 := Tryz.underlying307
  a53 := Tryz.isAgg307
  z53 := Tryz.sizeOf307
  v53 := Tryz.zeroValue307
  t57 := Tryz.underlying311
  a57 := Tryz.isAgg311
  z57 := Tryz.sizeOf311
  v57 := Tryz.zeroValue311
  t63 := Tryz.underlying325
  a63 := Tryz.isAgg325
  z63 := Tryz.sizeOf325
  v63 := Tryz.zeroValue325
  t64 := Tryz.underlying326
  a64 := Tryz.isAgg326
  z64 := Tryz.sizeOf326
  v64 := Tryz.zeroValue326 }
end Go.Proofs

set_option linter.unusedVariables false
set_option linter.unusedSimpArgs false
namespace Go.Ev
open Go.Proofs Go.RowKit Go.Sort

def sortZs (l : List Int) : List Int := l.mergeSort fun x y => decide (x ≤ y)
theorem sortZs_perm (l : List Int) : (sortZs l).Perm l := List.mergeSort_perm ..
theorem sortZs_len (l : List Int) : (sortZs l).length = l.length := (sortZs_perm l).length_eq

theorem setCells_row {g : Nat} {e : TypeId} : ∀ (vs : List Value) (o : Nat) (w : World) (cur : Array Value), w.heap[g]? = some (.cells cur e (0, 0)) → ∃ cur', (w.setCells g o vs).heap[g]? = some (.cells cur' e (0, 0)) ∧ cur'.size = cur.size
  | [], _, _, cur, h => ⟨cur, h, rfl⟩
  | v :: vs, o, w, cur, h => by
    have h1 : Blk w g e cur := h
    obtain ⟨cur', h2, h3⟩ := setCells_row vs (o + 1) (w.setCell ⟨g, o, none⟩ v) _ (h1.set o v)
    exact ⟨cur', h2, by rw [h3]; simp⟩

theorem setCells_keeps {g : Nat} : ∀ (vs : List Value) (o : Nat) (w : World), Keeps (fun k => k = g) w (w.setCells g o vs)
  | [], _, w => Keeps.refl _ w
  | v :: vs, o, w => ((Keeps.refl (fun k => k = g) w).setCell (p := ⟨g, o, none⟩) (fun _ => rfl) v).trans (setCells_keeps vs (o + 1) _) fun _ _ e => e

theorem keeps_grow (S : Nat → Prop) (w : World) (os : Array Obj) : Keeps S w (Sort.grow w os) :=
  ⟨rfl, rfl, rfl, by simp [Sort.grow], fun k hk _ => by simp [Sort.grow, Array.getElem?_append, hk]⟩

def SortP (v : Value) (l : List Int) (base : Nat) (w : World) (e : Ending) (w' : World) : Prop :=
  e = .returned (.tuple #[]) ∧ w'.ownsRow base 3 1 v l.length (intsV (sortZs l)) ∧ Keeps (fun k => v.ownBlock = some k) w w'

theorem sort_any (v : Value) (l : List Int) (base : Nat) (w : World) (h : w.ownsRow base 3 1 v l.length (intsV l)) (hl : l.length ≤ 1000000) :
    Calls Tryz.prog 90 #[v] w (SortP v l base w) := by
  have hs := Sl.of_own h
  rcases h.2 with ⟨rfl, h0⟩ | ⟨g, cap, cur, rfl, hb, hg, hn, hm, hcs, hx⟩
  · have hl0 : l = [] := List.eq_nil_of_length_eq_zero h0
    subst hl0
    refine (AnyM.slices_Sort_int_none Tryz.sortZ none 0 w).mono ?_
    rintro e w' ⟨rfl, rfl⟩
    have e0 : sortZs [] = [] := by simp [sortZs]
    refine ⟨rfl, ?_, Keeps.refl _ _⟩
    rw [e0]
    exact World.ownsRow_nil _ _ _ _
  · have hB : Blk w g 3 cur := hg
    have hcell : ∀ j, j < l.length → w.cell? ⟨g, 0 + j, none⟩ = some (.int .i64 (l.getD j 0)) := fun j hj => by
      obtain ⟨_, _, e0, _, _, hc⟩ := hs
      cases e0
      obtain ⟨g', o, e1, _, hc⟩ := hc (by omega)
      cases e1
      refine hc j _ ?_
      simp [intsV, hj, List.getD_eq_getElem?_getD]
    have hfr : ∀ j, j < l.length → w.frozen? ⟨g, 0 + j, none⟩ = false := fun j _ => hB.frozen _
    have hH := Lib.holds_of_ints (n := l.length) (Nat.le_refl _) hcell hfr
    rw [List.take_length] at hH
    refine (AnyM.slices_Sort_int Tryz.sortZ g 0 cap l w hH hB.lt (by omega)).mono ?_
    rintro e w' ⟨rfl, q, os, hw⟩
    rw [Lib.sorted_world (Value.int .i64) w g 0 q l.toArray (l.mergeSort fun x y => decide (x ≤ y)) os hH (by simp)] at hw
    replace hw : w' = Sort.grow ((w.drewN q).setCells g 0 ((sortZs l).map (Value.int .i64))) os := hw
    have hcs2 := Lib.cells_sorted_ints (q := q) (os := os) (n := l.length) (ys := sortZs l) (Nat.le_refl _) (sortZs_len l) hcell
    have hK : Keeps (fun k => k = g) w w' := by
      rw [hw]
      exact (((Keeps.refl (fun k => k = g) w).drewN q).trans (setCells_keeps _ 0 _) fun _ _ e => e).trans (keeps_grow _ _ os) fun _ _ e => e
    obtain ⟨cur', h2, h3⟩ := setCells_row (e := 3) ((sortZs l).map (Value.int .i64)) 0 (w.drewN q) cur (hB.drewN q)
    have h4 : w'.heap[g]? = some (.cells cur' 3 (0, 0)) := by
      rw [hw]
      exact ((keeps_grow (fun _ => False) ((w.drewN q).setCells g 0 ((sortZs l).map (Value.int .i64))) os).block g (Array.getElem?_eq_some_iff.1 h2).1 (fun h => h)).trans h2
    refine ⟨rfl, ⟨by simp [intsV, sortZs_len], .inr ⟨g, cap, cur', rfl, hb, h4, hn, hm, by rw [h3, hcs], ?_⟩⟩, hK.mono fun i _ e => by rw [e]; rfl⟩
    refine List.ext_getElem? fun j => ?_
    have hc' := fun j => cell_of_row w' g j cur' 3 (0, 0) h4
    rw [List.getElem?_take]
    by_cases hj : j < l.length
    · rw [if_pos (by omega), Array.getElem?_toList, ← hc' j]
      have := hcs2 j (by simp [sortZs_len, hj])
      rw [← hw, Nat.zero_add] at this
      rw [this]
      have hj2 : j < (sortZs l).length := by rw [sortZs_len]; exact hj
      simp [intsV, hj2, List.getD_eq_getElem?_getD]
    · rw [if_neg (by omega), List.getElem?_eq_none (by simp [intsV, sortZs_len]; omega)]
end Go.Ev

namespace Go.Ev
open Go.Lib

def goodKV (k v : List UInt8) : Bool := decide (1 ≤ k.length) && decide (k.length ≤ 40) && decide (v.length ≤ 2000)
theorem goodKV_of {k v : List UInt8} (h : goodKV k v = true) : 1 ≤ k.length ∧ k.length ≤ 40 ∧ v.length ≤ 2000 := by
  unfold goodKV at h
  simp only [Bool.and_eq_true, decide_eq_true_eq] at h
  exact ⟨h.1.1, h.1.2, h.2⟩
theorem goodKV_not {k v : List UInt8} (h : goodKV k v = false) : ¬ (1 ≤ k.length ∧ k.length ≤ 40 ∧ v.length ≤ 2000) := by
  rintro ⟨h1, h2, h3⟩
  unfold goodKV at h
  simp [h1, h2, h3] at h

/-- Keys and values that a tree can have. -/
def GoodP (ps : List Pair) : Prop := ∀ q ∈ ps, goodKV q.1 q.2 = true

def growP : List (List UInt8 × List UInt8) → List Pair → List Pair
  | [], t => t
  | o :: l, t => growP l (if goodKV o.1 o.2 then insP o.1 o.2 t else t)

theorem growP_app : ∀ (a b : List (List UInt8 × List UInt8)) (t : List Pair), growP (a ++ b) t = growP b (growP a t)
  | [], _, _ => rfl
  | o :: a, b, t => by simp only [List.cons_append, growP]; exact growP_app a b _
theorem growP_good : ∀ {l : List (List UInt8 × List UInt8)} {t : List Pair}, GoodP t → GoodP (growP l t)
  | [], _, h => h
  | o :: l, t, h => by
    simp only [growP]
    split
    · rename_i hg
      exact growP_good fun q hq => by
        rcases insP_mem hq with rfl | hq
        · exact hg
        · exact h q hq
    · exact growP_good h
theorem growP_len : ∀ (l : List (List UInt8 × List UInt8)) (t : List Pair), (growP l t).length ≤ t.length + l.length
  | [], t => by simp [growP]
  | o :: l, t => by
    simp only [growP, List.length_cons]
    have := (insP_len (k := o.1) (v := o.2) t).1
    split
    · have h := growP_len l (insP o.1 o.2 t)
      omega
    · have h := growP_len l t
      omega
theorem growP_rising : ∀ {l : List (List UInt8 × List UInt8)} {t : List Pair}, Rising t → Rising (growP l t)
  | [], _, h => h
  | o :: l, t, h => by
    simp only [growP]
    split
    · exact growP_rising (insP_rising h)
    · exact growP_rising h
end Go.Ev

set_option linter.unusedVariables false
set_option linter.unusedSimpArgs false
namespace Go.Ev
open Go.Joins Go.ChangeShapes Go.WideShapes Go.RowKit Go.Deep

structure OpL where
  kind : Int
  key : Bytes
  val : Bytes

def opCs (o : OpL) : List Value := [.int .i64 o.kind, strV o.key, strV o.val]
def opsCs : List OpL → List Value
  | [] => []
  | o :: l => opCs o ++ opsCs l
theorem opsCs_len : ∀ l : List OpL, (opsCs l).length = l.length * 3
  | [] => rfl
  | o :: l => by simp [opsCs, opCs, opsCs_len l]; omega
theorem opsCs_at : ∀ (l : List OpL) (k : Nat) (hk : k < l.length), (opsCs l)[k * 3]? = some (.int .i64 l[k].kind) ∧ (opsCs l)[k * 3 + 1]? = some (strV l[k].key) ∧ (opsCs l)[k * 3 + 2]? = some (strV l[k].val)
  | o :: l, 0, _ => ⟨rfl, rfl, rfl⟩
  | o :: l, k + 1, h => by
    have ih := opsCs_at l k (by simpa using h)
    rw [show (k + 1) * 3 = k * 3 + 3 by omega]
    simpa [opsCs, opCs] using ih

/-- A row that reads as these steps. -/
def OpsAt (w : World) (v : Value) (l : List OpL) : Prop := Sl w 3 v l.length (opsCs l) ∧ l.length ≤ maxLen ∧ ∀ o ∈ l, o.key.length ≤ maxLen ∧ o.val.length ≤ maxLen

theorem OpsAt.below {w w' : World} {v : Value} {l : List OpL} (h : OpsAt w v l) (hb : Below w.heap.size w w') : OpsAt w' v l := ⟨h.1.below hb, h.2⟩

theorem list_of {α : Type} {n : Nat} {Q : Nat → α → Prop} (h : ∀ j, j < n → ∃ a, Q j a) : ∃ l : List α, l.length = n ∧ ∀ j (hj : j < l.length), Q j l[j] := by
  refine ⟨List.ofFn fun j : Fin n => (h j.1 j.2).choose, by simp, fun j hj => ?_⟩
  have hj' : j < n := by simpa using hj
  have := (h j hj').choose_spec
  simpa using this

section
variable {H : Type} {enc : TypeId × Value → H} {P : Program} {w : World} {base : Nat} {spare : Nat → Bool} {held : Bool}

theorem slice_ops {t e : TypeId} {gs : Array Field} {fuel : Nat} {v : Value} {y : DataW H × List MemPlace} (ht : P.underlying t = some (.slice e)) (he : P.underlying e = some (.struct gs)) (hone : oneCellFields P gs = true) (hC : P.cellsOf e = 3)
    {g0 g1 g2 : Field} (h0 : gs[0]? = some g0) (h1 : gs[1]? = some g1) (h2 : gs[2]? = some g2) (t0 : P.underlying g0.type = some (.int .i64)) (t1 : P.underlying g1.type = some .string) (t2 : P.underlying g2.type = some .string)
    (h : DataW.trod enc P w base spare held fuel t [v] = some y) : ∃ l, OpsAt w v l := by
  rcases open_slice ht h with ⟨e0, _⟩ | ⟨a, len, cap, m, n, D, Pl, e0, hb, hl, hm, hmm, hx, hi⟩
  · simp only [List.cons.injEq, and_true] at e0
    subst e0
    exact ⟨[], Sl.nil .., Nat.zero_le _, fun o ho => by cases ho⟩
  · simp only [List.cons.injEq, and_true] at e0
    subst e0
    have hlm : len ≤ m := by rw [hmm]; split <;> omega
    rcases Nat.eq_zero_or_pos len with hz0 | hz0
    · subst hz0
      exact ⟨[], Sl.nil .., Nat.zero_le _, fun o ho => by cases ho⟩
    rw [hC] at hi
    have hsp : a.spot = none ∧ a.block < w.heap.size := by
      obtain ⟨cs', q1, q2⟩ := hi 0 (by omega)
      obtain ⟨_, hlen, hat⟩ := World.cells?_some q1
      have q3 := hat 0 (by omega)
      rw [List.getElem?_eq_getElem (by omega)] at q3
      simp [Addr.add] at q3
      unfold World.cell? at q3
      split at q3
      · rename_i c e' fz hq
        split at q3
        · cases q3
        · rename_i hs'
          exact ⟨by simpa using hs', (Array.getElem?_eq_some_iff.1 hq).1⟩
      · cases q3
    obtain ⟨bl, of, sp⟩ := a
    obtain ⟨hsp, hbl⟩ := hsp
    simp only at hsp
    subst hsp
    have hop : ∀ j, j < len → ∃ o : OpL, (o.key.length ≤ maxLen ∧ o.val.length ≤ maxLen) ∧ ∀ r u, (opCs o)[r]? = some u → w.cell? ⟨bl, of + (j * 3 + r), none⟩ = some u := by
      intro j hj
      obtain ⟨cs', q1, q2⟩ := hi j (by omega)
      obtain ⟨_, hlen, hat⟩ := World.cells?_some q1
      obtain ⟨xs, n', _, _, _, hxl, hf⟩ := DataW.trod_struct he q2
      have field : ∀ off g, gs[off]? = some g → off < 3 → ∃ y u, cs'[off]? = some u ∧ DataW.trod enc P w base spare held n' g.type [u] = some y ∧ w.cell? ⟨bl, of + (j * 3 + off), none⟩ = some u := by
        intro off g hg hoff
        obtain ⟨ho, hk⟩ := hone_of hone off g hg
        have q3 := hf off g hg
        have hgs : off < gs.size := (Array.getElem?_eq_some_iff.1 hg).1
        rw [ho, hk, List.getElem?_eq_getElem (by omega)] at q3
        have q4 : (cs'.drop off).take 1 = [cs'[off]'(by omega)] := by rw [List.drop_eq_getElem_cons (by omega)]; rfl
        rw [q4] at q3
        refine ⟨_, cs'[off]'(by omega), List.getElem?_eq_getElem (by omega), q3, ?_⟩
        have q7 := hat off hoff
        rw [List.getElem?_eq_getElem (by omega), addr_add, addr_add, Nat.add_assoc] at q7
        exact q7
      obtain ⟨_, u0, _, f0, c0⟩ := field 0 g0 h0 (by omega)
      obtain ⟨_, u1, _, f1, c1⟩ := field 1 g1 h1 (by omega)
      obtain ⟨_, u2, _, f2, c2⟩ := field 2 g2 h2 (by omega)
      obtain ⟨k, e0, _, _⟩ := DataW.trod_int t0 f0
      obtain ⟨s1, e1, _, b1⟩ := DataW.trod_string t1 f1
      obtain ⟨s2, e2, _, b2⟩ := DataW.trod_string t2 f2
      simp only [List.cons.injEq, and_true] at e0 e1 e2
      subst e0 e1 e2
      refine ⟨⟨k, s1.data.toList, s2.data.toList⟩, ⟨b1, b2⟩, fun r u hu => ?_⟩
      match r with
      | 0 => cases hu; exact c0
      | 1 => cases hu; exact c1
      | 2 => cases hu; exact c2
      | r + 3 => simp [opCs] at hu
    obtain ⟨l, hlen, hl'⟩ := list_of hop
    subst hlen
    refine ⟨l, ⟨_, _, rfl, hl, opsCs_len l, fun _ => ⟨bl, of, rfl, hbl, fun j u hu => ?_⟩⟩, Nat.le_trans hl hm, fun o ho => ?_⟩
    · have hj : j < l.length * 3 := by rw [← opsCs_len]; exact (List.getElem?_eq_some_iff.1 hu).1
      have hd : j / 3 < l.length := by omega
      obtain ⟨a0, a1, a2⟩ := opsCs_at l (j / 3) hd
      have := (hl' (j / 3) hd).2
      have hjj : j = j / 3 * 3 + j % 3 := by omega
      have hr : j % 3 = 0 ∨ j % 3 = 1 ∨ j % 3 = 2 := by omega
      rw [hjj]
      rcases hr with hr | hr | hr <;> rw [hr] at hjj ⊢ <;> rw [hjj] at hu
      · refine this 0 u ?_; rw [Nat.add_zero, a0] at hu; exact hu
      · refine this 1 u ?_; rw [a1] at hu; exact hu
      · refine this 2 u ?_; rw [a2] at hu; exact hu
    · obtain ⟨j, hj, rfl⟩ := List.getElem_of_mem ho
      exact (hl' j hj).1
end
end Go.Ev

set_option linter.unusedVariables false
set_option linter.unusedSimpArgs false
namespace Go.Ev
open Go.Proofs Go.RowKit

def RoomP (x0 x1 left : Int) (w : World) (e : Ending) (w' : World) : Prop := ∃ r : Int, e = .returned (.int .i64 r) ∧ (-1 ≤ r ∧ r ≤ 60000 ∧ (0 ≤ r → r + x0 + x1 = left)) ∧ w = w'

set_option maxHeartbeats 1000000 in
theorem room_two (g : Nat) (T : TypeId) (x0 x1 left : Int) (w : World) (h : Blk w g T #[.int .i64 x0, .int .i64 x1]) (h0 : 0 ≤ x0) (h1 : 0 ≤ x1) (hl : -1 ≤ left ∧ left ≤ 60000) :
    Calls Tryz.prog 33 #[.int .i64 left, .slice (some ⟨g, 0, none⟩) 2 2] w (RoomP x0 x1 left w) := by
  have c0 : w.cell? ⟨g, 0, none⟩ = some (.int .i64 x0) := h.cell 0
  have c1 : w.cell? ⟨g, 1, none⟩ = some (.int .i64 x1) := h.cell 1
  clear h
  go_enter Tryz.func33, Tryz.ntmps33
  go_wp2_with (fail)
  go_loopg [0, 5] 2 (fun gk s0 s5 wr => ∃ (r : Int) (i : Nat) (x : Int), s0 = .int .i64 r ∧ s5 = .int .i64 (i : Int) ∧ i + gk = 2 ∧ -1 ≤ r ∧ r ≤ 60000 ∧ Hid ((i = 0 ∧ r = left ∧ x = x0) ∨ (i = 1 ∧ 0 ≤ r ∧ r + x0 = left ∧ x = x1) ∨ (i = 2 ∧ 0 ≤ r ∧ r + x0 + x1 = left)) ∧ Hid (i < 2 → w.cell? ⟨g, i, none⟩ = some (.int .i64 x)) ∧ wr = w)
  case atStart => exact ⟨left, 0, x0, rfl, rfl, rfl, hl.1, hl.2, .inl ⟨rfl, rfl, rfl⟩, fun _ => c0, rfl⟩
  case round =>
    obtain ⟨r, i, x, rfl, rfl, hi, hr1, hr2, hd, hx, rfl⟩ := hrel
    have C0 := Lib.hid c0
    have C1 := Lib.hid c1
    clear c0 c1
    by_cases h2 : i < 2
    · have hx' := hx.out h2
      have h2' : (i : Int) < 2 := by omega
      have hi0 : (0 : Int) ≤ (i : Int) := by omega
      have hw1 : IntKind.i64.wrap ((i : Int) + 1) = (i : Int) + 1 := IntWalk.i64_in _ (by omega)
      have hxp : 0 ≤ x ∧ (0 ≤ r → x ≤ r ∨ r < x) := ⟨by rcases hd.out with h | h | h <;> omega, fun _ => by omega⟩
      clear hx
      by_cases hn : r < 0
      · go_wp2_with (fail)
        go_ret
        exact ⟨-1, rfl, ⟨by omega, by omega, fun h => by omega⟩, rfl⟩
      · by_cases hg : r < x
        · go_wp2_with (fail)
          go_ret
          exact ⟨-1, rfl, ⟨by omega, by omega, fun h => by omega⟩, rfl⟩
        · have hw2 : IntKind.i64.wrap (r - x) = r - x := IntWalk.i64_in _ (by omega)
          go_wp2_with (fail)
          go_roundg (gk - 1)
          case measure => omega
          case rel =>
            refine ⟨r - x, i + 1, x1, rfl, by simp, by omega, by omega, by omega, ?_, fun h => ?_, rfl⟩
            · show _ ∨ _
              rcases hd.out with h | h | h
              · exact .inr (.inl ⟨by omega, by omega, by omega, rfl⟩)
              · exact .inr (.inr ⟨by omega, by omega, by omega⟩)
              · omega
            · have : i = 0 := by omega
              subst this
              exact C1.out
    · have h2' : ¬ (i : Int) < 2 := by omega
      clear hx
      go_wp2_with (fail)
      go_ret
      refine ⟨r, rfl, ⟨by omega, by omega, fun _ => ?_⟩, rfl⟩
      rcases hd.out with h | h | h <;> omega

def LightP (ops : List OpL) (w : World) (e : Ending) (w' : World) : Prop :=
  ∃ b : Bool, e = .returned (.bool b) ∧ (b = true → ops.length ≤ 250 ∧ ∀ o ∈ ops, o.key.length + o.val.length ≤ 60000) ∧ Below w.heap.size w w'

set_option maxHeartbeats 2000000 in
set_option maxRecDepth 100000 in
theorem light_any (A : Option Addr) (n c : Nat) (ops : List OpL) (w : World) (h : OpsAt w (.slice A n c) ops) :
    Calls Tryz.prog 8 #[.slice A n c] w (LightP ops w) := by
  obtain ⟨hv, hml, hlen⟩ := h
  have hn : n = ops.length := by obtain ⟨_, _, e, _⟩ := hv; cases e; rfl
  subst hn
  unfold maxLen at hml
  have HLen := Lib.hid hlen
  clear hlen
  go_enter Tryz.func8, Tryz.ntmps8
  go_wp2_with (fail)
  go_loopg [3, 4] ops.length (fun gk s3 s4 wr => ∃ (r : Int) (i : Nat), s3 = .int .i64 r ∧ s4 = .int .i64 (i : Int) ∧ i + gk = ops.length ∧ -1 ≤ r ∧ r ≤ 60000 ∧ i ≤ 600 ∧ Hid (0 ≤ r → ∀ j (hj : j < ops.length), j < i → ops[j].key.length + ops[j].val.length ≤ 60000) ∧ Below w.heap.size w wr)
  case atStart => exact ⟨60000, 0, rfl, rfl, by omega, by omega, by omega, by omega, (fun _ j _ h => absurd h (Nat.not_lt_zero _)), Below.refl _ _⟩
  case round =>
    obtain ⟨r, i, rfl, rfl, hi, hr1, hr2, hi6, hall, hbw⟩ := hrel
    by_cases h1 : i < ops.length
    · have h1' : (i : Int) < (ops.length : Int) := by omega
      by_cases h2 : i < 600
      · have h2' : (i : Int) < 600 := by omega
        by_cases h3 : 0 ≤ r
        · have hi0 : (0 : Int) ≤ (i : Int) := by omega
          have hw1 : IntKind.i64.wrap ((i : Int) + 1) = (i : Int) + 1 := IntWalk.i64_in _ (by omega)
          obtain ⟨A', c', e0, _, _, hcl⟩ := hv.below hbw
          cases e0
          obtain ⟨blk, off, rfl, hbl, hcell⟩ := hcl (by omega)
          obtain ⟨_, p1, p2⟩ := opsCs_at ops i h1
          have x1 : wr.cell? ⟨blk, off + i * 3 + 1, none⟩ = _ := hcell _ _ p1
          have x2 : wr.cell? ⟨blk, off + i * 3 + 2, none⟩ = _ := hcell _ _ p2
          obtain ⟨m1, m2⟩ := HLen.out _ (List.getElem_mem h1)
          unfold maxLen at m1 m2
          have hR : ∀ W g T, Blk W g T #[.int .i64 (ops[i].key.length : Int), .int .i64 (ops[i].val.length : Int)] → Calls Tryz.prog 33 #[.int .i64 r, .slice (some ⟨g, 0, none⟩) 2 2] W (RoomP ops[i].key.length ops[i].val.length r W) :=
            fun W g T hb => room_two g T _ _ r W hb (by omega) (by omega) ⟨hr1, hr2⟩
          have HR := Lib.hid hR
          have HX := Lib.hid hcell
          clear hR hcell hcl p1 p2 hv
          generalize hk0 : ops[i].key = key at *
          generalize hv0 : ops[i].val = val at *
          have HK := Lib.hid (And.intro hk0 hv0)
          clear hk0 hv0
          go_wp2_with (fail)
          refine wp_region_any (by kernel_rfl) ?_
          change wpAny _ _ _ _ _ _ _ (World.drew _)
          try simp only [Act.put, lT, l0, lS]
          refine tA 0 ?_; try simp only [Act.put, lT, l0, lS]
          refine tA 1 ?_; try simp only [Act.put, lT, l0, lS]
          refine tA 2 ?_; try simp only [Act.put, lT, l0, lS]
          refine tA 3 ?_; try simp only [Act.put, lT, l0, lS]
          refine tA 4 ?_; try simp only [Act.put, lT, l0, lS]
          refine tA 7 ?_; try simp only [Act.put, lT, l0, lS]
          refine tA 8 ?_; try simp only [Act.put, lT, l0, lS]
          refine tA 9 ?_; try simp only [Act.put, lT, l0, lS]
          refine tA 10 ?_; try simp only [Act.put, lT, l0, lS]
          try simp only [Act.put, lT, l0, lS]
          refine rA 5 (v := ?_) (hy := ?hy) ?_; case hy => (intro w hE; have q0 := hE.cell x1; go_simp; try with_reducible rfl)
          try simp only [Act.put, lT, l0, lS]
          try simp only [Act.put, lT, l0, lS]
          refine rA 11 (v := ?_) (hy := ?hy) ?_; case hy => (intro w hE; have q0 := hE.cell x2; go_simp; try with_reducible rfl)
          try simp only [Act.put, lT, l0, lS]
          try simp only [Act.put, lT, l0, lS]
          refine tA 6 ?_; try simp only [Act.put, lT, l0, lS]
          refine tA 12 ?_; try simp only [Act.put, lT, l0, lS]
          refine rd 13 (by kernel_rfl) rfl (fun K hK => ?_); go_simp; refine hK _ _ ?_; clear hK K
          refine rd 14 (by kernel_rfl) rfl (fun K hK => ?_); go_simp
          (go_must (refine (HR.out _ _ _ (Blk.new _ _ _).drew).mono ?_); rintro e w1 ⟨r', rfl, ⟨q1, q2, q3⟩, rfl⟩)
          go_simp
          refine hK _ _ ?_
          clear hK K
          refine rd 15 (by kernel_rfl) rfl (fun K hK => ?_); go_simp; refine hK _ _ ?_; clear hK K
          refine wpAny_done (by kernel_rfl) ?_ _
          go_wp2_with (fail)
          go_roundg (gk - 1)
          case measure => omega
          case rel =>
            refine ⟨r', i + 1, rfl, by simp, by omega, q1, q2, by omega, fun h0 j hj hji => ?_, (hbw.alloc hbw.size _).drew⟩
            by_cases hje : j = i
            · subst hje
              rw [HK.out.1, HK.out.2]
              have := q3 h0
              omega
            · exact hall.out h3 j hj (by omega)
        · have h3' : ¬ (0 : Int) ≤ r := h3
          by_cases h4 : ops.length ≤ 250
          · have h4' : (ops.length : Int) ≤ 250 := by omega
            go_wp2_with (fail)
            go_ret
            exact ⟨_, rfl, fun hb => by simp at hb; try omega, hbw⟩
          · have h4' : ¬ (ops.length : Int) ≤ 250 := by omega
            go_wp2_with (fail)
            go_ret
            exact ⟨_, rfl, fun hb => by simp at hb; try omega, hbw⟩
      · have h2' : ¬ (i : Int) < 600 := by omega
        have h4' : ¬ (ops.length : Int) ≤ 250 := by omega
        go_wp2_with (fail)
        go_ret
        exact ⟨_, rfl, fun hb => by simp at hb; try omega, hbw⟩
    · have h1' : ¬ (i : Int) < (ops.length : Int) := by omega
      have HF : Hid (0 ≤ r → ∀ o ∈ ops, o.key.length + o.val.length ≤ 60000) := fun h0 o ho => by
        obtain ⟨j, hj, rfl⟩ := List.getElem_of_mem ho
        exact hall.out h0 j hj (by omega)
      by_cases h4 : ops.length ≤ 250
      · have h4' : (ops.length : Int) ≤ 250 := by omega
        have h2' : (i : Int) < 600 := by omega
        by_cases h3 : 0 ≤ r
        · go_wp2_with (fail)
          go_ret
          exact ⟨_, rfl, fun hb => ⟨h4, HF.out h3⟩, hbw⟩
        · go_wp2_with (fail)
          go_ret
          exact ⟨_, rfl, fun hb => by simp at hb; try omega, hbw⟩
      · have h4' : ¬ (ops.length : Int) ≤ 250 := by omega
        by_cases h2 : i < 600
        · have h2' : (i : Int) < 600 := by omega
          go_wp2_with (fail)
          go_ret
          exact ⟨_, rfl, fun hb => by simp at hb; try omega, hbw⟩
        · have h2' : ¬ (i : Int) < 600 := by omega
          go_wp2_with (fail)
          go_ret
          exact ⟨_, rfl, fun hb => by simp at hb; try omega, hbw⟩
end Go.Ev

set_option linter.unusedVariables false
set_option linter.unusedSimpArgs false
namespace Go.Ev
open Go.Proofs Go.RowKit

/-- How long keys and values are together. -/
def sumO : List OpL → Nat
  | [] => 0
  | o :: l => o.key.length + o.val.length + sumO l
theorem sumO_app : ∀ a b : List OpL, sumO (a ++ b) = sumO a + sumO b
  | [], b => by simp [sumO]
  | o :: a, b => by simp only [List.cons_append, sumO, sumO_app a b]; omega
theorem sumO_take {l : List OpL} {i : Nat} (h : i < l.length) : sumO (l.take (i + 1)) = sumO (l.take i) + (l[i].key.length + l[i].val.length) := by
  rw [(List.take_append_getElem h).symm, sumO_app]
  rfl
theorem sumO_take_le (l : List OpL) (i : Nat) : sumO (l.take i) ≤ sumO l := by
  have : sumO l = sumO (l.take i ++ l.drop i) := by rw [List.take_append_drop]
  rw [this, sumO_app]
  omega

def LightS (ops : List OpL) (w : World) (e : Ending) (w' : World) : Prop :=
  ∃ b : Bool, e = .returned (.bool b) ∧ (b = true → ops.length ≤ 250 ∧ sumO ops ≤ 60000) ∧ Below w.heap.size w w'

set_option maxHeartbeats 2000000 in
set_option maxRecDepth 100000 in
theorem light_sum (A : Option Addr) (n c : Nat) (ops : List OpL) (w : World) (h : OpsAt w (.slice A n c) ops) :
    Calls Tryz.prog 8 #[.slice A n c] w (LightS ops w) := by
  obtain ⟨hv, hml, hlen⟩ := h
  have hn : n = ops.length := by obtain ⟨_, _, e, _⟩ := hv; cases e; rfl
  subst hn
  unfold maxLen at hml
  have HLen := Lib.hid hlen
  clear hlen
  go_enter Tryz.func8, Tryz.ntmps8
  go_wp2_with (fail)
  go_loopg [3, 4] ops.length (fun gk s3 s4 wr => ∃ (r : Int) (i : Nat), s3 = .int .i64 r ∧ s4 = .int .i64 (i : Int) ∧ i + gk = ops.length ∧ -1 ≤ r ∧ r ≤ 60000 ∧ i ≤ 600 ∧ Hid (0 ≤ r → (sumO (ops.take i) : Int) + r = 60000) ∧ Below w.heap.size w wr)
  case atStart => exact ⟨60000, 0, rfl, rfl, by omega, by omega, by omega, by omega, (fun _ => by simp [sumO]), Below.refl _ _⟩
  case round =>
    obtain ⟨r, i, rfl, rfl, hi, hr1, hr2, hi6, hall, hbw⟩ := hrel
    by_cases h1 : i < ops.length
    · have h1' : (i : Int) < (ops.length : Int) := by omega
      by_cases h2 : i < 600
      · have h2' : (i : Int) < 600 := by omega
        by_cases h3 : 0 ≤ r
        · have hi0 : (0 : Int) ≤ (i : Int) := by omega
          have hw1 : IntKind.i64.wrap ((i : Int) + 1) = (i : Int) + 1 := IntWalk.i64_in _ (by omega)
          obtain ⟨A', c', e0, _, _, hcl⟩ := hv.below hbw
          cases e0
          obtain ⟨blk, off, rfl, hbl, hcell⟩ := hcl (by omega)
          obtain ⟨_, p1, p2⟩ := opsCs_at ops i h1
          have x1 : wr.cell? ⟨blk, off + i * 3 + 1, none⟩ = _ := hcell _ _ p1
          have x2 : wr.cell? ⟨blk, off + i * 3 + 2, none⟩ = _ := hcell _ _ p2
          obtain ⟨m1, m2⟩ := HLen.out _ (List.getElem_mem h1)
          unfold maxLen at m1 m2
          have hR : ∀ W g T, Blk W g T #[.int .i64 (ops[i].key.length : Int), .int .i64 (ops[i].val.length : Int)] → Calls Tryz.prog 33 #[.int .i64 r, .slice (some ⟨g, 0, none⟩) 2 2] W (RoomP ops[i].key.length ops[i].val.length r W) :=
            fun W g T hb => room_two g T _ _ r W hb (by omega) (by omega) ⟨hr1, hr2⟩
          have HR := Lib.hid hR
          have HX := Lib.hid hcell
          clear hR hcell hcl p1 p2 hv
          generalize hk0 : ops[i].key = key at *
          generalize hv0 : ops[i].val = val at *
          have HK := Lib.hid (And.intro hk0 hv0)
          clear hk0 hv0
          go_wp2_with (fail)
          refine wp_region_any (by kernel_rfl) ?_
          change wpAny _ _ _ _ _ _ _ (World.drew _)
          try simp only [Act.put, lT, l0, lS]
          refine tA 0 ?_; try simp only [Act.put, lT, l0, lS]
          refine tA 1 ?_; try simp only [Act.put, lT, l0, lS]
          refine tA 2 ?_; try simp only [Act.put, lT, l0, lS]
          refine tA 3 ?_; try simp only [Act.put, lT, l0, lS]
          refine tA 4 ?_; try simp only [Act.put, lT, l0, lS]
          refine tA 7 ?_; try simp only [Act.put, lT, l0, lS]
          refine tA 8 ?_; try simp only [Act.put, lT, l0, lS]
          refine tA 9 ?_; try simp only [Act.put, lT, l0, lS]
          refine tA 10 ?_; try simp only [Act.put, lT, l0, lS]
          try simp only [Act.put, lT, l0, lS]
          refine rA 5 (v := ?_) (hy := ?hy) ?_; case hy => (intro w hE; have q0 := hE.cell x1; go_simp; try with_reducible rfl)
          try simp only [Act.put, lT, l0, lS]
          try simp only [Act.put, lT, l0, lS]
          refine rA 11 (v := ?_) (hy := ?hy) ?_; case hy => (intro w hE; have q0 := hE.cell x2; go_simp; try with_reducible rfl)
          try simp only [Act.put, lT, l0, lS]
          try simp only [Act.put, lT, l0, lS]
          refine tA 6 ?_; try simp only [Act.put, lT, l0, lS]
          refine tA 12 ?_; try simp only [Act.put, lT, l0, lS]
          refine rd 13 (by kernel_rfl) rfl (fun K hK => ?_); go_simp; refine hK _ _ ?_; clear hK K
          refine rd 14 (by kernel_rfl) rfl (fun K hK => ?_); go_simp
          (go_must (refine (HR.out _ _ _ (Blk.new _ _ _).drew).mono ?_); rintro e w1 ⟨r', rfl, ⟨q1, q2, q3⟩, rfl⟩)
          go_simp
          refine hK _ _ ?_
          clear hK K
          refine rd 15 (by kernel_rfl) rfl (fun K hK => ?_); go_simp; refine hK _ _ ?_; clear hK K
          refine wpAny_done (by kernel_rfl) ?_ _
          go_wp2_with (fail)
          go_roundg (gk - 1)
          case measure => omega
          case rel =>
            refine ⟨r', i + 1, rfl, by simp, by omega, q1, q2, by omega, fun h0 => ?_, (hbw.alloc hbw.size _).drew⟩
            have := q3 h0
            have := hall.out h3
            rw [sumO_take h1, HK.out.1, HK.out.2]
            omega
        · have h3' : ¬ (0 : Int) ≤ r := h3
          by_cases h4 : ops.length ≤ 250
          · have h4' : (ops.length : Int) ≤ 250 := by omega
            go_wp2_with (fail)
            go_ret
            exact ⟨_, rfl, fun hb => by simp at hb; try omega, hbw⟩
          · have h4' : ¬ (ops.length : Int) ≤ 250 := by omega
            go_wp2_with (fail)
            go_ret
            exact ⟨_, rfl, fun hb => by simp at hb; try omega, hbw⟩
      · have h2' : ¬ (i : Int) < 600 := by omega
        have h4' : ¬ (ops.length : Int) ≤ 250 := by omega
        go_wp2_with (fail)
        go_ret
        exact ⟨_, rfl, fun hb => by simp at hb; try omega, hbw⟩
    · have h1' : ¬ (i : Int) < (ops.length : Int) := by omega
      have HF : Hid (0 ≤ r → sumO ops ≤ 60000) := fun h0 => by
        have := hall.out h0
        rw [List.take_of_length_le (by omega)] at this
        omega
      by_cases h4 : ops.length ≤ 250
      · have h4' : (ops.length : Int) ≤ 250 := by omega
        have h2' : (i : Int) < 600 := by omega
        by_cases h3 : 0 ≤ r
        · go_wp2_with (fail)
          go_ret
          exact ⟨_, rfl, fun hb => ⟨h4, HF.out h3⟩, hbw⟩
        · go_wp2_with (fail)
          go_ret
          exact ⟨_, rfl, fun hb => by simp at hb; try omega, hbw⟩
      · have h4' : ¬ (ops.length : Int) ≤ 250 := by omega
        by_cases h2 : i < 600
        · have h2' : (i : Int) < 600 := by omega
          go_wp2_with (fail)
          go_ret
          exact ⟨_, rfl, fun hb => by simp at hb; try omega, hbw⟩
        · have h2' : ¬ (i : Int) < 600 := by omega
          go_wp2_with (fail)
          go_ret
          exact ⟨_, rfl, fun hb => by simp at hb; try omega, hbw⟩
end Go.Ev

namespace Go.Proofs
open Go.Shelf
def Tryz.keysA_ren : Go.Shelf.Ren := ⟨fun | 7 => 39 | 10 => 91 | n => n, fun | 23 => 84 | 26 => 3 | 3 => 86 | 28 => 82 | 0 => 0 | 27 => 81 | 33 => 127 | 4 => 4 | n => n, fun | n => n⟩
theorem Tryz.keysA : Go.Proofs.SlLaysZI.n7 Tryz.prog Tryz.keysA_ren := {
  mixed := by kernel_rfl
  f7 := ⟨Tryz.f39.name, by decide, Tryz.func39.trans (congrArg some (by kernel_rfl))⟩
  f10 := ⟨Tryz.f91.name, by decide, Tryz.func91.trans (congrArg some (by kernel_rfl))⟩
  t0 := Tryz.underlying0
  a0 := Tryz.isAgg0
  z0 := Tryz.sizeOf0
  v0 := Tryz.zeroValue0
  t4 := Tryz.underlying4
  a4 := Tryz.isAgg4
  z4 := Tryz.sizeOf4
  v4 := Tryz.zeroValue4
  t23 := Tryz.underlying84
  a23 := Tryz.isAgg84
  z23 := Tryz.sizeOf84
  v23 := Tryz.zeroValue84
  t26 := Tryz.underlying3
  a26 := Tryz.isAgg3
  z26 := Tryz.sizeOf3
  v26 := Tryz.zeroValue3
  t27 := Tryz.underlying81
  a27 := Tryz.isAgg81
  z27 := Tryz.sizeOf81
  v27 := Tryz.zeroValue81
  t28 := Tryz.underlying82
  a28 := Tryz.isAgg82
  z28 := Tryz.sizeOf82
  v28 := Tryz.zeroValue82
  t33 := Tryz.underlying127
  a33 := Tryz.isAgg127
  z33 := Tryz.sizeOf127
  v33 := Tryz.zeroValue127 }
def Tryz.sortedZ_ren : Go.Shelf.Ren := ⟨fun | 6 => 38 | 8 => 75 | 9 => 90 | 11 => 132 | 13 => 145 | 12 => 144 | 23 => 192 | 24 => 193 | 14 => 183 | 15 => 184 | 16 => 185 | 17 => 186 | 18 => 187 | 19 => 188 | 20 => 189 | 21 => 190 | 22 => 191 | 25 => 219 | 26 => 220 | 27 => 221 | 28 => 222 | 29 => 223 | 30 => 224 | 31 => 243 | n => n, fun | 26 => 3 | 28 => 82 | 24 => 36 | 0 => 0 | 3 => 3 | 37 => 237 | 48 => 261 | 50 => 269 | 4 => 4 | 40 => 278 | 39 => 277 | 45 => 109 | 5 => 5 | 9 => 9 | 51 => 307 | 55 => 311 | 57 => 325 | 58 => 326 | 33 => 127 | n => n, fun | n => n⟩
theorem Tryz.sortedZ : Go.Proofs.SlLaysZI.n6 Tryz.prog Tryz.sortedZ_ren := {
  mixed := by kernel_rfl
  f6 := ⟨Tryz.f38.name, by decide, Tryz.func38.trans (congrArg some (by kernel_rfl))⟩
  f8 := ⟨Tryz.f75.name, by decide, Tryz.func75.trans (congrArg some (by kernel_rfl))⟩
  f11 := ⟨Tryz.f132.name, by decide, Tryz.func132.trans (congrArg some (by kernel_rfl))⟩
  t0 := Tryz.underlying0
  a0 := Tryz.isAgg0
  z0 := Tryz.sizeOf0
  v0 := Tryz.zeroValue0
  t24 := Tryz.underlying36
  a24 := Tryz.isAgg36
  z24 := Tryz.sizeOf36
  v24 := Tryz.zeroValue36
  t26 := Tryz.underlying3
  a26 := Tryz.isAgg3
  z26 := Tryz.sizeOf3
  v26 := Tryz.zeroValue3
  t28 := Tryz.underlying82
  a28 := Tryz.isAgg82
  z28 := Tryz.sizeOf82
  v28 := Tryz.zeroValue82
  i26 := by kernel_rfl }
end Go.Proofs

set_option linter.unusedVariables false
set_option linter.unusedSimpArgs false
namespace Go.Ev
open Go.Proofs Go.RowKit Go.Maps Go.Sort Go.Shelf

theorem sortsK (m : Nat) : AnyZI.SortsIn Tryz.prog Tryz.sortedZ_ren Fence.wide m :=
  ⟨fun blk off cap ss W hH hblk hsz => callsIn_wide.2 (AnyM.slices_Sort_int Tryz.sortZ blk off cap ss W hH hblk hsz),
   fun p cap W => callsIn_wide.2 (AnyM.slices_Sort_int_none Tryz.sortZ p cap W)⟩

def anyRK : Value → Option (DataW Unit × List MemPlace) := fun _ => some (.lit (.bool true), [])
end Go.Ev
