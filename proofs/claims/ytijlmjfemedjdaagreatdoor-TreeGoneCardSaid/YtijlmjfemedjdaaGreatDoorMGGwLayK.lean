/-
  A region in the order of its text, within a round. A range over a function whose rounds come in a known order, and of which one may leave by a return: the law, directed by the list of what comes. A row of one's own within its room: an append that stays, cells beyond its end, what is cleared there. DERIVED: THE SHELF's CONTRACTS AT THIS DUMP, IN PLAIN WORDS (tools/lay-plain.mjs out of 'YtijlmjfemedjdaaGreatDoorSortLay.lean', which tools/lay-shelf.mjs wrote): THE SAME DECLARATIONS UNDER THE SAME NAMES: 'import', 'namespace', 'open', 'def', 'theorem' AND NOTHING ELSE: no command of the shelf's: FOR A HAND-IN. Each laying: the table of numbers ('.._ren') and one theorem, a field a fact of the dump's own or the kernel's comparison; each contract: ONE APPLICATION. Steps of law 11 in a row: a kind, a key, a value each; what an argument's reading says of them. Are steps few and short enough? Are steps few and short enough? How long they are together. DERIVED: THE SHELF's CONTRACTS AT THIS DUMP, IN PLAIN WORDS (tools/lay-plain.mjs out of 'YtijlmjfemedjdaaGreatDoorKeysLay.lean', which tools/lay-shelf.mjs wrote): THE SAME DECLARATIONS UNDER THE SAME NAMES: 'import', 'namespace', 'open', 'def', 'theorem' AND NOTHING ELSE: no command of the shelf's: FOR A HAND-IN. Each laying: the table of numbers ('.._ren') and one theorem, a field a fact of the dump's own or the kernel's comparison; each contract: ONE APPLICATION.
-/
import Derived.Test.YtijlmjfemedjdaaGreatDoorMGGvGetC
import Derived.Tactics
import Derived.Test.YtijlmjfemedjdaaGreatDoorMGGvBranch
import Derived.OwnWalkIn
import Derived.RangeFuncNested
import Derived.RangeFuncBound
import Derived.RangeFuncLeaves
import Derived.Lib.SliceRun
import Derived.Laws.IdiomCopy
import Derived.Shelf.SlGeneric
import Derived.Shelf.SortM.Plain
import Derived.Shelf.SortM.SortNone
import Derived.Ground.SlgmProg
import Derived.Test.YtijlmjfemedjdaaGreatDoorProg
import Derived.Test.YtijlmjfemedjdaaGreatDoorMGGwReader
import Derived.Lib.SmallJoins
import Derived.Deep.Slices
import Derived.Test.YtijlmjfemedjdaaGreatDoorMGGvAny2
import Derived.Deep.LoopGhost
import Derived.Deep.DeepMust
import Derived.Test.YtijlmjfemedjdaaGreatDoorMGEvInsert
import Derived.Shelf.SlIterI.Nil
import Derived.Ground.GgzProg
set_option linter.unusedVariables false
set_option linter.unusedSimpArgs false
namespace Go.Ev
open Go.RowKit

variable {P : Program} {l n : Nat}

theorem list_round {ops : Array Oper} {Q : Exit → Act → World → Prop} (hQ : ¬ LetsOut Q) : ∀ (L : List Oper) (_ : ∀ o ∈ L, ∀ c, o.op ≠ .defer c) (a : Act) (w : World), wpList P ops Q L a w → wpListIn (wideR l) n P ops Q L a w
 | [], _, _, _, h => h
 | o :: L, hd, a, w, h => by
  unfold wpList at h
  unfold wpListIn
  split
  ·rename_i hw
   rw [if_pos hw] at h
   rcases h with h | h
   ·exact Oper.wpIn_mono (fun a w hh => list_round hQ L (fun o ho => hd o (List.mem_cons_of_mem _ ho)) a w hh) (oper_round (hd o (List.mem_cons_self ..)) h)
   ·exact absurd h.2 hQ
  ·rename_i hw
   rw [if_neg hw] at h
   exact ⟨fun _ _ => trivial, list_round hQ L (fun o ho => hd o (List.mem_cons_of_mem _ ho)) _ _ h⟩

def noDeferL (L : List Oper) : Bool := L.all fun o => match o.op with | .defer _ => false | _ => true
theorem noDeferL_spec {L : List Oper} (h : noDeferL L = true) : ∀ o ∈ L, ∀ c, o.op ≠ .defer c := by
 intro o ho c e
 unfold noDeferL at h
 rw [List.all_eq_true] at h
 have := h o ho
 rw [e] at this
 cases this

/-- A region in the order of its text, within a round. -/
theorem region_round0 {id : Nat} {L : List Oper} {Q : Exit → Act → World → Prop} {a : Act} {w : World} (hd : noDeferL L = true) (hQ : ¬ LetsOut Q) (h : wpList P L.toArray Q L a w) : (Code.region id L.toArray false).wpIn (wideR l) n P Q a w :=
 wpIn_region_lit (list_round hQ L (noDeferL_spec hd) _ _ h)

theorem wpListIn_append_at {w : World} {ops : Array Oper} {rest : List Oper} {o : Oper} {a : Act} {Q : Exit → Act → World → Prop} (hgd : o.guard = none) (s x : Operand) (t : TypeId)
  (ho : o.op = .call { callee := .builtin .append, args := #[s, x], argTypes := #[t, t] })
  (base : Nat) (e : TypeId) (i : TypeInfo) (z : Value) (size bytes : Nat) (ht : P.underlying t = some (.slice e)) (hi : P.info? e = some i) (hz : i.zero = some z)
  (hsize : i.size = size) (hby : i.bytes = bytes) (hzs : z.cells.size = size) (hsz : 0 < size)
  (v : Value) (k : Nat) (xs : List Value) (hs : a.eval s = v) (hown : w.ownsRow base e size v k xs)
  (ad : Addr) (m c : Nat) (news : List Value) (hx : a.eval x = .slice (some ad) m c) (hl : news.length = m * size) (hnews : ∀ j u, news[j]? = some u → w.cell? (ad.add j) = some u) (h1 : ∀ u ∈ news, u.oneCell' = true)
  (h63 : k + m ≤ maxLen) (hbytes : (k + m) * bytes ≤ 140737488355328) (hbase : base ≤ w.heap.size)
  (h : ∀ v' w', w'.ownsRow base e size v' (k + m) (xs ++ news) → w.grownBy w' v.ownBlock → (∀ j, v'.ownBlock = some j → v.ownBlock = some j ∨ w.heap.size ≤ j) → wpListIn (wideR l) n P ops Q rest (a.put o.dst v') w') : wpListIn (wideR l) n P ops Q (o :: rest) a w :=
 wpListIn_plain hgd fun _ hK => oper_round (fun c => by rw [ho]; intro e; cases e) (wp_append_at s x t ho base e i z size bytes ht hi hz hsize hby hzs hsz v k xs hs hown ad m c news hx hl hnews h1 h63 hbytes hbase fun v' w' h2 h3 h4 => hK _ _ (h v' w' h2 h3 h4))
end Go.Ev

namespace Go.Ev
open Go.RowKit

variable {F : Fence} {n : Nat} {P : Program}

/-- The iterator hands over just these, one by one, till a round says no. -/
def EachS {α : Type} (F : Fence) (n : Nat) (P : Program) (g : Nat) (lb : Array Value) (encs : α → Array Value) (Kp : World → World → Prop) (xs : List α) (w : World) : Prop :=
 ∀ (l : Nat) (J Jx : Nat → World → Prop) (W : World), Below w.heap.size w W →
  (∀ (k : Nat) (x : α) (W1 : World), xs[k]? = some x → J k W1 → YieldAt F (n - 1) P l (encs x) W1 fun e W' => (e = .returned (.bool true) ∧ J (k + 1) W' ∧ Kp W1 W') ∨ (e = .returned (.bool false) ∧ Jx (k + 1) W')) →
  J 0 W → CallsIn F n P g (#[.func (.yield l) #[] #[]] ++ lb) W fun e W' => (∃ v, e = .returned v) ∧ (J xs.length W' ∨ ∃ k, k ≤ xs.length ∧ Jx k W')

/-- A round goes on, or leaves by a return: what the results' slots held ahead of the loop they hold again. -/
def goesOnS (B : Nat) (Kp : World → World → Prop) (I Ix : World → Prop) (W : World) : Exit → Act → World → Prop
 | .normal, _, W' => KeepsFrom B W W' ∧ Kp W W' ∧ I W'
 | .ret, _, W' => KeepsFrom B W W' ∧ Ix W'
 | _, _, _ => False

theorem rangeFunc_eachS {α : Type} {g : Operand} {ps : Array Tmp} {assign body : Code} {Q : Exit → Act → World → Prop} {a : Act} {w : World} {gf : Nat} {lb : Array Value} {encs : α → Array Value} {Kp : World → World → Prop} {xs : List α}
  (hro : F.round = none) (h1 : 1 ≤ n) (hg : a.eval g = .func (.func gf) #[] lb) (hF : F.fn gf) (eg : ∀ args w, (callFunc gf args).run P w = .ok (.enter gf args) w) (hseq : EachS F (n - 1) P gf lb encs Kp xs w)
  (hKt : ∀ {A B C : World}, Kp A B → Kp B C → Kp A C) (hKb : ∀ (W : World) (l : Nat) (o o' : Obj), w.heap.size ≤ l → W.heap[l]? = some o → o.isCells = false → o.isWalk = false → Kp W (W.putObj l o')) (hps : ∀ x, (encs x).size = ps.size)
  (I Ix : Nat → World → Prop) (hI : OwnFrom w.heap.size I) (hIx : OwnFrom w.heap.size Ix) (h0 : I 0 w) (Ax : α → Act → World → Prop) (hAx : ∀ x a', OwnFrom w.heap.size (fun (_ : Unit) W => Ax x a' W))
  (hassign : ∀ (l k : Nat) (x : α) (W : World) (K : Act → World → Prop), xs[k]? = some x → I k W → (∀ a' W', KeepsFrom w.heap.size W W' → Kp W W' → I k W' → Ax x a' W' → K a' W') →
   assign.wpIn (F.inRound l) (n - 1 - 1) P (Exit.then K (fun _ _ _ => False)) { tmps := (ps.zip (encs x)).foldl (fun t (p, v) => t.setIfInBounds p v) a.tmps, defers := [] } W)
  (hbody : ∀ (l k : Nat) (x : α) (a' : Act) (W : World), xs[k]? = some x → I k W → Ax x a' W → body.wpIn (F.inRound l) (n - 1 - 1) P (goesOnS w.heap.size Kp (I (k + 1)) (Ix (k + 1)) W) a' W)
  (hdone : ∀ (D : Nat) (W : World), w.heap.size ≤ D → I xs.length W → W.heap[D]? = some (.deferred (some [])) → Q .normal { a with defers := { target := .collected D, args := #[] } :: a.defers } W)
  (hstop : ∀ (D k : Nat) (W : World), w.heap.size ≤ D → k ≤ xs.length → Ix k W → W.heap[D]? = some (.deferred (some [])) → Code.ret.wpIn F n P Q { a with defers := { target := .collected D, args := #[] } :: a.defers } W) :
  (Code.rangeFunc g ps assign body).wpIn F n P Q a w := by
 refine wpIn_rangeFunc fun fn hfn => ?_
 rw [hro]
 -- the loop's record in its states; the block of the deferred calls is D, the record's is D + 1
 obtain ⟨D, hD⟩ : ∃ D, D = w.heap.size := ⟨_, rfl⟩
 obtain ⟨R0, hR0⟩ : ∃ R0 : LoopState → Option Code → Loop, R0 = fun st pe => { state := st, pending := pe, fn, tmps := a.tmps, params := ps, assign, body, defers := D } := ⟨_, rfl⟩
 obtain ⟨R, hR⟩ : ∃ R : LoopState → Loop, R = fun st => R0 st none := ⟨_, rfl⟩
 rw [hR0] at hR
 obtain ⟨W1, hW1⟩ : ∃ W1, (w.alloc (.deferred (some []))).alloc (.loop (R .ready)) = W1 := ⟨_, rfl⟩
 have hl1 : W1.heap[D + 1]? = some (.loop (R .ready)) := by
  have := World.alloc_heap_new (w.alloc (.deferred (some []))) (.loop (R .ready))
  rw [World.size_alloc, hW1] at this
  rw [hD]; exact this
 have hd1 : W1.heap[D]? = some (.deferred (some [])) := by
  rw [← hW1, hD]; exact (Below.heap_alloc _ _ _ (by simp)).trans (World.alloc_heap_new w _)
 have hi1 : I 0 W1 := by rw [← hW1]; exact hI.alloc _ (hI.alloc _ h0)
 have hb1 : Below w.heap.size w W1 := by rw [← hW1]; exact ((Below.refl _ w).alloc (Nat.le_refl _) _).alloc (by simp) _
 refine ⟨D + 1, [{ target := .collected D, args := #[] }], W1, { target := .fn (.func gf) lb, args := #[.func (.yield (D + 1)) #[] #[]] }, W1, gf, #[.func (.yield (D + 1)) #[] #[]] ++ lb, W1, ?_, ?_, ?_, ?_, fun _ => h1, ?_⟩
 ·rw [← hW1, hR, hD]; exact run_enterLoop_outer _ _ _ _ _
 ·simp only [resolve, hg]
  simp [go_sem]
 ·intro f' hf'; simp [Target.leads] at hf'; subst hf'; exact hF
 ·simp [invoke, go_sem, eg]
 refine (hseq (D + 1) (fun k W => I k W ∧ W.heap[D + 1]? = some (.loop (R .ready)) ∧ W.heap[D]? = some (.deferred (some []))) (fun k W => Ix k W ∧ W.heap[D + 1]? = some (.loop (R0 .done (some .ret))) ∧ W.heap[D]? = some (.deferred (some []))) W1 hb1 ?_ ⟨hi1, hl1, hd1⟩).mono ?_
 ·-- a round
  rintro k x W hx ⟨hi, hl, hd⟩
  have hy := run_yield (P := P) (args := encs x) hl (by rw [hR]; exact hps x)
  rw [hR] at hy
  refine ⟨fn, _, assign, body, hy, roundIn_of_wpIn hfn (hassign _ k x W _ hx hi ?_)⟩
  intro a' Wa hka hpa hia hax
  have hla := hka.same _ _ (by omega) hl rfl
  have hda := hka.same _ _ (by omega) hd rfl
  have hlta : D + 1 < Wa.heap.size := (Array.getElem?_eq_some_iff.1 hla).1
  refine ⟨_, run_beginRound hla (by rw [hR]), ?_⟩
  have hlb : (Wa.putObj (D + 1) (.loop { R .ready with state := .busy })).heap[D + 1]? = some (.loop { R .ready with state := .busy }) := World.putObj_heap_same hlta
  have hdb : (Wa.putObj (D + 1) (.loop { R .ready with state := .busy })).heap[D]? = some (.deferred (some [])) := (World.putObj_heap_other (by omega)).trans hda
  have hpb : Kp Wa (Wa.putObj (D + 1) (.loop { R .ready with state := .busy })) := hKb _ _ _ _ (by omega) hla rfl rfl
  refine wpIn_mono (hbody _ k x a' _ hx (hI.putObj _ hia (by omega) hla rfl) ((hAx x a').putObj (s := ()) _ hax (by omega) hla rfl)) ?_
  rintro e a3 W3 hp
  cases e with
  | normal =>
   obtain ⟨hk3, hp3, hi3⟩ := hp
   have hl3 := hk3.same _ _ (by omega) hlb rfl
   have hd3 := hk3.same _ _ (by omega) hdb rfl
   have hr := run_endRound (P := P) none hl3
   rw [hR] at hr hl3
   refine ⟨_, _, hr, .inl ⟨rfl, ⟨hI.putObj _ hi3 (by omega) hl3 rfl, ?_, (World.putObj_heap_other (by omega)).trans hd3⟩, hKt hpa (hKt (hKt hpb hp3) (hKb _ _ _ _ (by omega) hl3 rfl rfl))⟩⟩
   rw [World.putObj_heap_same (Array.getElem?_eq_some_iff.1 hl3).1, hR]
   rfl
  | ret =>
   obtain ⟨hk3, hi3⟩ := hp
   have hl3 := hk3.same _ _ (by omega) hlb rfl
   have hd3 := hk3.same _ _ (by omega) hdb rfl
   have hr := run_endRound (P := P) (some .ret) hl3
   rw [hR] at hr hl3
   refine ⟨_, _, hr, .inr ⟨rfl, hIx.putObj _ hi3 (by omega) hl3 rfl, ?_, (World.putObj_heap_other (by omega)).trans hd3⟩⟩
   rw [World.putObj_heap_same (Array.getElem?_eq_some_iff.1 hl3).1, hR0]
   rfl
  | exit id => exact hp.elim
  | goto t => exact hp.elim
  | panic ch => exact hp.elim
  | outgrown => exact hp.elim
 ·-- behind the iterator
  rintro e W2 ⟨⟨v, rfl⟩, (⟨hi, hl, hd⟩ | ⟨k, hk, hi, hl, hd⟩)⟩
  ·have hr := run_endLoop (P := P) hl (by rw [hR]; simp)
   rw [hR] at hr
   exact ⟨none, _, hr, hdone D _ (by omega) (hI.putObj _ hi (by omega) hl rfl) ((World.putObj_heap_other (by omega)).trans hd)⟩
  ·have hr := run_endLoop (P := P) hl (by rw [hR0]; simp)
   rw [hR0] at hr
   exact ⟨some .ret, _, hr, hstop D k _ (by omega) hk (hIx.putObj _ hi (by omega) hl rfl) ((World.putObj_heap_other (by omega)).trans hd)⟩
end Go.Ev

namespace Go.Ev
open Go.RowKit

/-- An append within the room stays where it was. -/
theorem run_append_stays {P : Program} (w : World) {base : Nat} {t ty e : TypeId} {i : TypeInfo} {z : Value} {size bytes : Nat} (ht : P.underlying t = some (.slice e)) (hi : P.info? e = some i) (hz : i.zero = some z)
  (hsize : i.size = size) (hby : i.bytes = bytes) (hzs : z.cells.size = size) (hsz : 0 < size) {g n cap : Nat} {xs : List Value} (hown : w.ownsRow base e size (.slice (some ⟨g, 0, none⟩) n cap) n xs)
  {a : Addr} {m c : Nat} {news : List Value} (hl : news.length = m * size) (hnews : ∀ j u, news[j]? = some u → w.cell? (a.add j) = some u) (h1 : ∀ u ∈ news, u.oneCell' = true) (hroom : n + m ≤ cap)
  (h63 : n + m ≤ maxLen) (hbytes : (n + m) * bytes ≤ 140737488355328) (hbase : base ≤ w.heap.size) :
  ∃ w', (Builtin.append_ #[t, t] ty #[.slice (some ⟨g, 0, none⟩) n cap, .slice (some a) m c]).run P w = .ok (.slice (some ⟨g, 0, none⟩) (n + m) cap) w' ∧ w'.ownsRow base e size (.slice (some ⟨g, 0, none⟩) (n + m) cap) (n + m) (xs ++ news) ∧ w.grownBy w' (some g) := by
 obtain ⟨v', w', hr, h2, h3, _⟩ := run_append_own (P := P) w base t ty e i z size bytes ht hi hz hsize hby hzs hsz _ n xs hown a m c news hl hnews h1 h63 hbytes hbase
 rcases hown.2 with ⟨e0, _⟩ | ⟨g', cap', cur, e0, hbg, hg, hnc, hcm, hcs, htake⟩
 ·cases e0
 ·simp only [Value.slice.injEq, Option.some.injEq, Addr.mk.injEq, and_true, true_and] at e0
  obtain ⟨rfl, rfl⟩ := e0
  subst hsize
  have hr2 := run_append_room (P := P) w t ty e i ht hi g n cap cur hg a m c news hl hnews h1 hroom (by rw [hl, hcs, ← Nat.add_mul]; exact Nat.mul_le_mul_right _ hroom)
  rw [hr] at hr2
  simp only [Result.ok.injEq] at hr2
  obtain ⟨rfl, _⟩ := hr2
  exact ⟨w', hr, h2, h3⟩

theorem setCells_size {g : Nat} : ∀ (vs : List Value) (o : Nat) (w : World), (w.setCells g o vs).heap.size = w.heap.size
 | [], _, _ => rfl
 | v :: vs, o, w => by
  show ((w.setCell ⟨g, o, none⟩ v).setCells g (o + 1) vs).heap.size = _
  rw [setCells_size vs]
  simp [World.setCell]

theorem setCells_shape {g : Nat} {e : TypeId} : ∀ (vs : List Value) (o : Nat) (w : World) (cur : Array Value), w.heap[g]? = some (.cells cur e (0, 0)) → ∃ cur', (w.setCells g o vs).heap[g]? = some (.cells cur' e (0, 0)) ∧ cur'.size = cur.size
 | [], _, _, cur, h => ⟨cur, h, rfl⟩
 | v :: vs, o, w, cur, h => by
  have h1 : Blk w g e cur := h
  obtain ⟨cur', h2, h3⟩ := setCells_shape vs (o + 1) (w.setCell ⟨g, o, none⟩ v) _ (h1.set o v)
  exact ⟨cur', h2, by rw [h3]; simp⟩

theorem setCells_frm {g : Nat} : ∀ (vs : List Value) (o : Nat) (w : World), Keeps (fun k => k = g) w (w.setCells g o vs)
 | [], _, w => Keeps.refl _ w
 | v :: vs, o, w => ((Keeps.refl (fun k => k = g) w).setCell (p := ⟨g, o, none⟩) (fun _ => rfl) v).trans (setCells_frm vs (o + 1) _) fun _ _ e => e

/-- Cells beyond the end of a row of one's own are written. -/
theorem own_beyond {w : World} {base size g n cap o : Nat} {e : TypeId} {xs vs : List Value} (h : w.ownsRow base e size (.slice (some ⟨g, 0, none⟩) n cap) n xs) (ho : n * size ≤ o) : (w.setCells g o vs).ownsRow base e size (.slice (some ⟨g, 0, none⟩) n cap) n xs := by
 have hcells := h.cells (g := g) rfl
 refine ⟨h.1, ?_⟩
 rcases h.2 with ⟨e0, _⟩ | ⟨g', cap', cur, e0, hbg, hg, hnc, hcm, hcs, htake⟩
 ·cases e0
 ·simp only [Value.slice.injEq, Option.some.injEq, Addr.mk.injEq, and_true, true_and] at e0
  obtain ⟨rfl, rfl⟩ := e0
  obtain ⟨cur', h2, h3⟩ := setCells_shape vs o w cur hg
  refine .inr ⟨g, cap, cur', rfl, hbg, h2, hnc, hcm, by rw [h3, hcs], ?_⟩
  refine List.ext_getElem? fun j => ?_
  rw [List.getElem?_take]
  by_cases hj : j < n * size
  ·rw [if_pos hj, Array.getElem?_toList, ← cell_of_row _ g j cur' e (0, 0) h2, World.cell?_setCells_out g vs o w ⟨g, j, none⟩ (fun _ _ => .inl (by show j < o; omega))]
   have hx : j < xs.length := by rw [h.1]; exact hj
   have := hcells j xs[j] (List.getElem?_eq_getElem hx)
   rw [addr_add, Nat.zero_add] at this
   rw [this, List.getElem?_eq_getElem hx]
  ·rw [if_neg hj, List.getElem?_eq_none (by rw [h.1]; omega)]

/-- The front of a row of one's own. -/
theorem own_front {w : World} {base size g n cap i : Nat} {e : TypeId} {xs : List Value} (h : w.ownsRow base e size (.slice (some ⟨g, 0, none⟩) n cap) n xs) (hi : i ≤ n) : w.ownsRow base e size (.slice (some ⟨g, 0, none⟩) i cap) i (xs.take (i * size)) := by
 have hm : i * size ≤ n * size := Nat.mul_le_mul_right _ hi
 refine ⟨by rw [List.length_take, h.1]; omega, ?_⟩
 rcases h.2 with ⟨e0, _⟩ | ⟨g', cap', cur, e0, hbg, hg, hnc, hcm, hcs, htake⟩
 ·cases e0
 ·simp only [Value.slice.injEq, Option.some.injEq, Addr.mk.injEq, and_true, true_and] at e0
  obtain ⟨rfl, rfl⟩ := e0
  refine .inr ⟨g, cap, cur, rfl, hbg, hg, by omega, hcm, hcs, ?_⟩
  rw [← htake, List.take_take, Nat.min_eq_left hm]

/-- 'clear(s)' at one element: its cells are the zero value's. -/
theorem run_clear_one {P : Program} (w : World) (t e ty : TypeId) (z : Value) (ht : P.underlying t = some (.slice e)) (hv : ∀ w, (zeroValue e).run P w = .ok z w) (h1 : ∀ v ∈ z.cells.toList, v.oneCell' = true) (b o c : Nat)
  (hc : ∀ j, j < z.cells.size → (w.cell? ⟨b, o + j, none⟩).isSome = true) (hf : ∀ j, j < z.cells.size → w.frozen? ⟨b, o + j, none⟩ = false) :
  (Builtin.clear_ #[t] ty #[.slice (some ⟨b, o, none⟩) 1 c]).run P w = .ok (.tuple #[]) (w.setCells b o z.cells.toList) := by
 have hzc : (Builtin.zeroCells z.cells 1).toList = z.cells.toList := by
  apply List.ext_getElem
  ·simp [Builtin.zeroCells]
  ·intro i h1 h2
   have hlt : i < z.cells.size := by simpa using h2
   have e1 : (Builtin.zeroCells z.cells 1)[i]'(by simpa using h1) = z.cells[i % z.cells.size]! := by simp [Builtin.zeroCells]
   rw [Array.getElem_toList, Array.getElem_toList, e1, Nat.mod_eq_of_lt hlt]
   exact getElem!_pos z.cells i hlt
 have hst := run_storeCells_cells (P := P) b o z.cells.toList 0 w (by simpa using hc) (by simpa using hf) h1
 simp only [Nat.add_zero] at hst
 simp [Builtin.clear_, run_underlying ht, hv, hzc, hst]

/-- An append whose outcome is known. -/
theorem wp_append_eq {P : Program} {w w' : World} {o : Oper} {a : Act} {K : Act → World → Prop} {Q : Exit → Act → World → Prop} (s x : Operand) (t : TypeId) {v y v' : Value}
  (ho : o.op = .call { callee := .builtin .append, args := #[s, x], argTypes := #[t, t] }) (hs : a.eval s = v) (hx : a.eval x = y) (hr : (Builtin.append_ #[t, t] o.type #[v, y]).run P w = .ok v' w') (h : K (a.put o.dst v') w') : o.wp P a w K Q := by
 unfold Oper.wp execOp
 simp only [ho, resolve, invoke, builtin, Sem.run_bind, Sem.run_pure, Result.andThen_ok, List.map_toArray, List.map_cons, List.map_nil, hs, hx]
 rw [hr]
 exact h
end Go.Ev

namespace Go.Proofs
open Go.Shelf
def Tryz.sortZ_ren : Go.Shelf.Ren := ⟨fun | 5 => 90 | 8 => 145 | 7 => 144 | 19 => 192 | 20 => 193 | 10 => 183 | 11 => 184 | 12 => 185 | 13 => 186 | 14 => 187 | 15 => 188 | 16 => 189 | 17 => 190 | 18 => 191 | 30 => 219 | 31 => 220 | 32 => 221 | 33 => 222 | 34 => 223 | 35 => 224 | 40 => 243 | n => n, fun | 23 => 36 | 25 => 3 | 3 => 3 | 32 => 237 | 22 => 36 | 0 => 0 | 44 => 261 | 46 => 269 | 4 => 4 | 36 => 278 | 35 => 277 | 41 => 109 | 5 => 5 | 9 => 9 | 53 => 307 | 57 => 311 | 63 => 325 | 64 => 326 | n => n, fun | n => n⟩
theorem Tryz.sortZ : Go.Proofs.SlLaysM.n5 Tryz.prog Tryz.sortZ_ren := {
 mixed := by kernel_rfl
 f5 := ⟨Tryz.f90.name, by decide, Tryz.func90.trans (congrArg some (by kernel_rfl))⟩
 f7 := ⟨Tryz.f144.name, by decide, Tryz.func144.trans (congrArg some (by kernel_rfl))⟩
 f8 := Tryz.func145.trans (congrArg some (by kernel_rfl))
 f10 := ⟨Tryz.f183.name, by decide, Tryz.func183.trans (congrArg some (by kernel_rfl))⟩
 f11 := ⟨Tryz.f184.name, by decide, Tryz.func184.trans (congrArg some (by kernel_rfl))⟩
 f12 := ⟨Tryz.f185.name, by decide, Tryz.func185.trans (congrArg some (by kernel_rfl))⟩
 f13 := ⟨Tryz.f186.name, by decide, Tryz.func186.trans (congrArg some (by kernel_rfl))⟩
 f14 := ⟨Tryz.f187.name, by decide, Tryz.func187.trans (congrArg some (by kernel_rfl))⟩
 f15 := ⟨Tryz.f188.name, by decide, Tryz.func188.trans (congrArg some (by kernel_rfl))⟩
 f16 := ⟨Tryz.f189.name, by decide, Tryz.func189.trans (congrArg some (by kernel_rfl))⟩
 f17 := ⟨Tryz.f190.name, by decide, Tryz.func190.trans (congrArg some (by kernel_rfl))⟩
 f18 := ⟨Tryz.f191.name, by decide, Tryz.func191.trans (congrArg some (by kernel_rfl))⟩
 f19 := Tryz.func192.trans (congrArg some (by kernel_rfl))
 f20 := Tryz.func193.trans (congrArg some (by kernel_rfl))
 f30 := ⟨Tryz.f219.name, by decide, Tryz.func219.trans (congrArg some (by kernel_rfl))⟩
 f31 := Tryz.func220.trans (congrArg some (by kernel_rfl))
 f32 := Tryz.func221.trans (congrArg some (by kernel_rfl))
 f33 := ⟨Tryz.f222.name, by decide, Tryz.func222.trans (congrArg some (by kernel_rfl))⟩
 f34 := ⟨Tryz.f223.name, by decide, Tryz.func223.trans (congrArg some (by kernel_rfl))⟩
 f35 := ⟨Tryz.f224.name, by decide, Tryz.func224.trans (congrArg some (by kernel_rfl))⟩
 f40 := ⟨Tryz.f243.name, by decide, Tryz.func243.trans (congrArg some (by kernel_rfl))⟩
 t0 := Tryz.underlying0
 a0 := Tryz.isAgg0
 z0 := Tryz.sizeOf0
 v0 := Tryz.zeroValue0
 t3 := Tryz.underlying3
 a3 := Tryz.isAgg3
 z3 := Tryz.sizeOf3
 v3 := Tryz.zeroValue3
 t4 := Tryz.underlying4
 a4 := Tryz.isAgg4
 z4 := Tryz.sizeOf4
 v4 := Tryz.zeroValue4
 t5 := Tryz.underlying5
 a5 := Tryz.isAgg5
 z5 := Tryz.sizeOf5
 v5 := Tryz.zeroValue5
 t9 := Tryz.underlying9
 a9 := Tryz.isAgg9
 z9 := Tryz.sizeOf9
 v9 := Tryz.zeroValue9
 t22 := Tryz.underlying36
 a22 := Tryz.isAgg36
 z22 := Tryz.sizeOf36
 v22 := Tryz.zeroValue36
 t23 := Tryz.underlying36
 a23 := Tryz.isAgg36
 z23 := Tryz.sizeOf36
 v23 := Tryz.zeroValue36
 t25 := Tryz.underlying3
 a25 := Tryz.isAgg3
 z25 := Tryz.sizeOf3
 v25 := Tryz.zeroValue3
 t32 := Tryz.underlying237
 a32 := Tryz.isAgg237
 z32 := Tryz.sizeOf237
 v32 := Tryz.zeroValue237
 t35 := Tryz.underlying277
 a35 := Tryz.isAgg277
 z35 := Tryz.sizeOf277
 v35 := Tryz.zeroValue277
 t36 := Tryz.underlying278
 a36 := Tryz.isAgg278
 z36 := Tryz.sizeOf278
 v36 := Tryz.zeroValue278
 t41 := Tryz.underlying109
 a41 := Tryz.isAgg109
 z41 := Tryz.sizeOf109
 v41 := Tryz.zeroValue109
 t44 := Tryz.underlying261
 a44 := Tryz.isAgg261
 z44 := Tryz.sizeOf261
 v44 := Tryz.zeroValue261
 t46 := Tryz.underlying269
 a46 := Tryz.isAgg269
 z46 := Tryz.sizeOf269
 v46 := Tryz.zeroValue269
 t53 := Tryz.underlying307
 a53 := Tryz.isAgg307
 z53 := Tryz.sizeOf307
 v53 := Tryz.zeroValue307
 t57 := Tryz.underlying311
 a57 := Tryz.isAgg311
 z57 := Tryz.sizeOf311
 v57 := Tryz.zeroValue311
 t63 := Tryz.underlying325
 a63 := Tryz.isAgg325
 z63 := Tryz.sizeOf325
 v63 := Tryz.zeroValue325
 t64 := Tryz.underlying326
 a64 := Tryz.isAgg326
 z64 := Tryz.sizeOf326
 v64 := Tryz.zeroValue326 }
end Go.Proofs

set_option linter.unusedVariables false
set_option linter.unusedSimpArgs false
namespace Go.Ev
open Go.Joins Go.ChangeShapes Go.WideShapes Go.RowKit Go.Deep

structure OpL where
 kind : Int
 key : Bytes
 val : Bytes

def opCs (o : OpL) : List Value := [.int .i64 o.kind, strV o.key, strV o.val]
def opsCs : List OpL → List Value
 | [] => []
 | o :: l => opCs o ++ opsCs l
theorem opsCs_len : ∀ l : List OpL, (opsCs l).length = l.length * 3
 | [] => rfl
 | o :: l => by simp [opsCs, opCs, opsCs_len l]; omega
theorem opsCs_at : ∀ (l : List OpL) (k : Nat) (hk : k < l.length), (opsCs l)[k * 3]? = some (.int .i64 l[k].kind) ∧ (opsCs l)[k * 3 + 1]? = some (strV l[k].key) ∧ (opsCs l)[k * 3 + 2]? = some (strV l[k].val)
 | o :: l, 0, _ => ⟨rfl, rfl, rfl⟩
 | o :: l, k + 1, h => by
  have ih := opsCs_at l k (by simpa using h)
  rw [show (k + 1) * 3 = k * 3 + 3 by omega]
  simpa [opsCs, opCs] using ih

/-- A row that reads as these steps. -/
def OpsAt (w : World) (v : Value) (l : List OpL) : Prop := Sl w 3 v l.length (opsCs l) ∧ l.length ≤ maxLen ∧ ∀ o ∈ l, o.key.length ≤ maxLen ∧ o.val.length ≤ maxLen

theorem OpsAt.below {w w' : World} {v : Value} {l : List OpL} (h : OpsAt w v l) (hb : Below w.heap.size w w') : OpsAt w' v l := ⟨h.1.below hb, h.2⟩

theorem list_of {α : Type} {n : Nat} {Q : Nat → α → Prop} (h : ∀ j, j < n → ∃ a, Q j a) : ∃ l : List α, l.length = n ∧ ∀ j (hj : j < l.length), Q j l[j] := by
 refine ⟨List.ofFn fun j : Fin n => (h j.1 j.2).choose, by simp, fun j hj => ?_⟩
 have hj' : j < n := by simpa using hj
 have := (h j hj').choose_spec
 simpa using this

section
variable {H : Type} {enc : TypeId × Value → H} {P : Program} {w : World} {base : Nat} {spare : Nat → Bool} {held : Bool}

theorem slice_ops {t e : TypeId} {gs : Array Field} {fuel : Nat} {v : Value} {y : DataW H × List MemPlace} (ht : P.underlying t = some (.slice e)) (he : P.underlying e = some (.struct gs)) (hone : oneCellFields P gs = true) (hC : P.cellsOf e = 3)
  {g0 g1 g2 : Field} (h0 : gs[0]? = some g0) (h1 : gs[1]? = some g1) (h2 : gs[2]? = some g2) (t0 : P.underlying g0.type = some (.int .i64)) (t1 : P.underlying g1.type = some .string) (t2 : P.underlying g2.type = some .string)
  (h : DataW.trod enc P w base spare held fuel t [v] = some y) : ∃ l, OpsAt w v l := by
 rcases open_slice ht h with ⟨e0, _⟩ | ⟨a, len, cap, m, n, D, Pl, e0, hb, hl, hm, hmm, hx, hi⟩
 ·simp only [List.cons.injEq, and_true] at e0
  subst e0
  exact ⟨[], Sl.nil .., Nat.zero_le _, fun o ho => by cases ho⟩
 ·simp only [List.cons.injEq, and_true] at e0
  subst e0
  have hlm : len ≤ m := by rw [hmm]; split <;> omega
  rcases Nat.eq_zero_or_pos len with hz0 | hz0
  ·subst hz0
   exact ⟨[], Sl.nil .., Nat.zero_le _, fun o ho => by cases ho⟩
  rw [hC] at hi
  have hsp : a.spot = none ∧ a.block < w.heap.size := by
   obtain ⟨cs', q1, q2⟩ := hi 0 (by omega)
   obtain ⟨_, hlen, hat⟩ := World.cells?_some q1
   have q3 := hat 0 (by omega)
   rw [List.getElem?_eq_getElem (by omega)] at q3
   simp [Addr.add] at q3
   unfold World.cell? at q3
   split at q3
   ·rename_i c e' fz hq
    split at q3
    ·cases q3
    ·rename_i hs'
     exact ⟨by simpa using hs', (Array.getElem?_eq_some_iff.1 hq).1⟩
   ·cases q3
  obtain ⟨bl, of, sp⟩ := a
  obtain ⟨hsp, hbl⟩ := hsp
  simp only at hsp
  subst hsp
  have hop : ∀ j, j < len → ∃ o : OpL, (o.key.length ≤ maxLen ∧ o.val.length ≤ maxLen) ∧ ∀ r u, (opCs o)[r]? = some u → w.cell? ⟨bl, of + (j * 3 + r), none⟩ = some u := by
   intro j hj
   obtain ⟨cs', q1, q2⟩ := hi j (by omega)
   obtain ⟨_, hlen, hat⟩ := World.cells?_some q1
   obtain ⟨xs, n', _, _, _, hxl, hf⟩ := DataW.trod_struct he q2
   have field : ∀ off g, gs[off]? = some g → off < 3 → ∃ y u, cs'[off]? = some u ∧ DataW.trod enc P w base spare held n' g.type [u] = some y ∧ w.cell? ⟨bl, of + (j * 3 + off), none⟩ = some u := by
    intro off g hg hoff
    obtain ⟨ho, hk⟩ := hone_of hone off g hg
    have q3 := hf off g hg
    have hgs : off < gs.size := (Array.getElem?_eq_some_iff.1 hg).1
    rw [ho, hk, List.getElem?_eq_getElem (by omega)] at q3
    have q4 : (cs'.drop off).take 1 = [cs'[off]'(by omega)] := by rw [List.drop_eq_getElem_cons (by omega)]; rfl
    rw [q4] at q3
    refine ⟨_, cs'[off]'(by omega), List.getElem?_eq_getElem (by omega), q3, ?_⟩
    have q7 := hat off hoff
    rw [List.getElem?_eq_getElem (by omega), addr_add, addr_add, Nat.add_assoc] at q7
    exact q7
   obtain ⟨_, u0, _, f0, c0⟩ := field 0 g0 h0 (by omega)
   obtain ⟨_, u1, _, f1, c1⟩ := field 1 g1 h1 (by omega)
   obtain ⟨_, u2, _, f2, c2⟩ := field 2 g2 h2 (by omega)
   obtain ⟨k, e0, _, _⟩ := DataW.trod_int t0 f0
   obtain ⟨s1, e1, _, b1⟩ := DataW.trod_string t1 f1
   obtain ⟨s2, e2, _, b2⟩ := DataW.trod_string t2 f2
   simp only [List.cons.injEq, and_true] at e0 e1 e2
   subst e0 e1 e2
   refine ⟨⟨k, s1.data.toList, s2.data.toList⟩, ⟨b1, b2⟩, fun r u hu => ?_⟩
   match r with
   | 0 => cases hu; exact c0
   | 1 => cases hu; exact c1
   | 2 => cases hu; exact c2
   | r + 3 => simp [opCs] at hu
  obtain ⟨l, hlen, hl'⟩ := list_of hop
  subst hlen
  refine ⟨l, ⟨_, _, rfl, hl, opsCs_len l, fun _ => ⟨bl, of, rfl, hbl, fun j u hu => ?_⟩⟩, Nat.le_trans hl hm, fun o ho => ?_⟩
  ·have hj : j < l.length * 3 := by rw [← opsCs_len]; exact (List.getElem?_eq_some_iff.1 hu).1
   have hd : j / 3 < l.length := by omega
   obtain ⟨a0, a1, a2⟩ := opsCs_at l (j / 3) hd
   have := (hl' (j / 3) hd).2
   have hjj : j = j / 3 * 3 + j % 3 := by omega
   have hr : j % 3 = 0 ∨ j % 3 = 1 ∨ j % 3 = 2 := by omega
   rw [hjj]
   rcases hr with hr | hr | hr <;> rw [hr] at hjj ⊢ <;> rw [hjj] at hu
   ·refine this 0 u ?_; rw [Nat.add_zero, a0] at hu; exact hu
   ·refine this 1 u ?_; rw [a1] at hu; exact hu
   ·refine this 2 u ?_; rw [a2] at hu; exact hu
  ·obtain ⟨j, hj, rfl⟩ := List.getElem_of_mem ho
   exact (hl' j hj).1
end
end Go.Ev

set_option linter.unusedVariables false
set_option linter.unusedSimpArgs false
namespace Go.Ev
open Go.Proofs Go.RowKit

def RoomP (x0 x1 left : Int) (w : World) (e : Ending) (w' : World) : Prop := ∃ r : Int, e = .returned (.int .i64 r) ∧ (-1 ≤ r ∧ r ≤ 60000 ∧ (0 ≤ r → r + x0 + x1 = left)) ∧ w = w'

set_option maxHeartbeats 1000000 in
theorem room_two (g : Nat) (T : TypeId) (x0 x1 left : Int) (w : World) (h : Blk w g T #[.int .i64 x0, .int .i64 x1]) (h0 : 0 ≤ x0) (h1 : 0 ≤ x1) (hl : -1 ≤ left ∧ left ≤ 60000) :
  Calls Tryz.prog 33 #[.int .i64 left, .slice (some ⟨g, 0, none⟩) 2 2] w (RoomP x0 x1 left w) := by
 have c0 : w.cell? ⟨g, 0, none⟩ = some (.int .i64 x0) := h.cell 0
 have c1 : w.cell? ⟨g, 1, none⟩ = some (.int .i64 x1) := h.cell 1
 clear h
 go_enter Tryz.func33, Tryz.ntmps33
 go_wp2_with (fail)
 go_loopg [0, 5] 2 (fun gk s0 s5 wr => ∃ (r : Int) (i : Nat) (x : Int), s0 = .int .i64 r ∧ s5 = .int .i64 (i : Int) ∧ i + gk = 2 ∧ -1 ≤ r ∧ r ≤ 60000 ∧ Hid ((i = 0 ∧ r = left ∧ x = x0) ∨ (i = 1 ∧ 0 ≤ r ∧ r + x0 = left ∧ x = x1) ∨ (i = 2 ∧ 0 ≤ r ∧ r + x0 + x1 = left)) ∧ Hid (i < 2 → w.cell? ⟨g, i, none⟩ = some (.int .i64 x)) ∧ wr = w)
 case atStart => exact ⟨left, 0, x0, rfl, rfl, rfl, hl.1, hl.2, .inl ⟨rfl, rfl, rfl⟩, fun _ => c0, rfl⟩
 case round =>
  obtain ⟨r, i, x, rfl, rfl, hi, hr1, hr2, hd, hx, rfl⟩ := hrel
  have C0 := Lib.hid c0
  have C1 := Lib.hid c1
  clear c0 c1
  by_cases h2 : i < 2
  ·have hx' := hx.out h2
   have h2' : (i : Int) < 2 := by omega
   have hi0 : (0 : Int) ≤ (i : Int) := by omega
   have hw1 : IntKind.i64.wrap ((i : Int) + 1) = (i : Int) + 1 := IntWalk.i64_in _ (by omega)
   have hxp : 0 ≤ x ∧ (0 ≤ r → x ≤ r ∨ r < x) := ⟨by rcases hd.out with h | h | h <;> omega, fun _ => by omega⟩
   clear hx
   by_cases hn : r < 0
   ·go_wp2_with (fail)
    go_ret
    exact ⟨-1, rfl, ⟨by omega, by omega, fun h => by omega⟩, rfl⟩
   ·by_cases hg : r < x
    ·go_wp2_with (fail)
     go_ret
     exact ⟨-1, rfl, ⟨by omega, by omega, fun h => by omega⟩, rfl⟩
    ·have hw2 : IntKind.i64.wrap (r - x) = r - x := IntWalk.i64_in _ (by omega)
     go_wp2_with (fail)
     go_roundg (gk - 1)
     case measure => omega
     case rel =>
      refine ⟨r - x, i + 1, x1, rfl, by simp, by omega, by omega, by omega, ?_, fun h => ?_, rfl⟩
      ·show _ ∨ _
       rcases hd.out with h | h | h
       ·exact .inr (.inl ⟨by omega, by omega, by omega, rfl⟩)
       ·exact .inr (.inr ⟨by omega, by omega, by omega⟩)
       ·omega
      ·have : i = 0 := by omega
       subst this
       exact C1.out
  ·have h2' : ¬ (i : Int) < 2 := by omega
   clear hx
   go_wp2_with (fail)
   go_ret
   refine ⟨r, rfl, ⟨by omega, by omega, fun _ => ?_⟩, rfl⟩
   rcases hd.out with h | h | h <;> omega

def LightP (ops : List OpL) (w : World) (e : Ending) (w' : World) : Prop :=
 ∃ b : Bool, e = .returned (.bool b) ∧ (b = true → ops.length ≤ 250 ∧ ∀ o ∈ ops, o.key.length + o.val.length ≤ 60000) ∧ Below w.heap.size w w'

set_option maxHeartbeats 2000000 in
set_option maxRecDepth 100000 in
theorem light_any (A : Option Addr) (n c : Nat) (ops : List OpL) (w : World) (h : OpsAt w (.slice A n c) ops) :
  Calls Tryz.prog 8 #[.slice A n c] w (LightP ops w) := by
 obtain ⟨hv, hml, hlen⟩ := h
 have hn : n = ops.length := by obtain ⟨_, _, e, _⟩ := hv; cases e; rfl
 subst hn
 unfold maxLen at hml
 have HLen := Lib.hid hlen
 clear hlen
 go_enter Tryz.func8, Tryz.ntmps8
 go_wp2_with (fail)
 go_loopg [3, 4] ops.length (fun gk s3 s4 wr => ∃ (r : Int) (i : Nat), s3 = .int .i64 r ∧ s4 = .int .i64 (i : Int) ∧ i + gk = ops.length ∧ -1 ≤ r ∧ r ≤ 60000 ∧ i ≤ 600 ∧ Hid (0 ≤ r → ∀ j (hj : j < ops.length), j < i → ops[j].key.length + ops[j].val.length ≤ 60000) ∧ Below w.heap.size w wr)
 case atStart => exact ⟨60000, 0, rfl, rfl, by omega, by omega, by omega, by omega, (fun _ j _ h => absurd h (Nat.not_lt_zero _)), Below.refl _ _⟩
 case round =>
  obtain ⟨r, i, rfl, rfl, hi, hr1, hr2, hi6, hall, hbw⟩ := hrel
  by_cases h1 : i < ops.length
  ·have h1' : (i : Int) < (ops.length : Int) := by omega
   by_cases h2 : i < 600
   ·have h2' : (i : Int) < 600 := by omega
    by_cases h3 : 0 ≤ r
    ·have hi0 : (0 : Int) ≤ (i : Int) := by omega
     have hw1 : IntKind.i64.wrap ((i : Int) + 1) = (i : Int) + 1 := IntWalk.i64_in _ (by omega)
     obtain ⟨A', c', e0, _, _, hcl⟩ := hv.below hbw
     cases e0
     obtain ⟨blk, off, rfl, hbl, hcell⟩ := hcl (by omega)
     obtain ⟨_, p1, p2⟩ := opsCs_at ops i h1
     have x1 : wr.cell? ⟨blk, off + i * 3 + 1, none⟩ = _ := hcell _ _ p1
     have x2 : wr.cell? ⟨blk, off + i * 3 + 2, none⟩ = _ := hcell _ _ p2
     obtain ⟨m1, m2⟩ := HLen.out _ (List.getElem_mem h1)
     unfold maxLen at m1 m2
     have hR : ∀ W g T, Blk W g T #[.int .i64 (ops[i].key.length : Int), .int .i64 (ops[i].val.length : Int)] → Calls Tryz.prog 33 #[.int .i64 r, .slice (some ⟨g, 0, none⟩) 2 2] W (RoomP ops[i].key.length ops[i].val.length r W) :=
      fun W g T hb => room_two g T _ _ r W hb (by omega) (by omega) ⟨hr1, hr2⟩
     have HR := Lib.hid hR
     have HX := Lib.hid hcell
     clear hR hcell hcl p1 p2 hv
     generalize hk0 : ops[i].key = key at *
     generalize hv0 : ops[i].val = val at *
     have HK := Lib.hid (And.intro hk0 hv0)
     clear hk0 hv0
     go_wp2_with (fail)
     refine wp_region_any (by kernel_rfl) ?_
     change wpAny _ _ _ _ _ _ _ (World.drew _)
     try simp only [Act.put, lT, l0, lS]
     refine tA 0 ?_; try simp only [Act.put, lT, l0, lS]
     refine tA 1 ?_; try simp only [Act.put, lT, l0, lS]
     refine tA 2 ?_; try simp only [Act.put, lT, l0, lS]
     refine tA 3 ?_; try simp only [Act.put, lT, l0, lS]
     refine tA 4 ?_; try simp only [Act.put, lT, l0, lS]
     refine tA 7 ?_; try simp only [Act.put, lT, l0, lS]
     refine tA 8 ?_; try simp only [Act.put, lT, l0, lS]
     refine tA 9 ?_; try simp only [Act.put, lT, l0, lS]
     refine tA 10 ?_; try simp only [Act.put, lT, l0, lS]
     try simp only [Act.put, lT, l0, lS]
     refine rA 5 (v := ?_) (hy := ?hy) ?_; case hy => (intro w hE; have q0 := hE.cell x1; go_simp; try with_reducible rfl)
     try simp only [Act.put, lT, l0, lS]
     try simp only [Act.put, lT, l0, lS]
     refine rA 11 (v := ?_) (hy := ?hy) ?_; case hy => (intro w hE; have q0 := hE.cell x2; go_simp; try with_reducible rfl)
     try simp only [Act.put, lT, l0, lS]
     try simp only [Act.put, lT, l0, lS]
     refine tA 6 ?_; try simp only [Act.put, lT, l0, lS]
     refine tA 12 ?_; try simp only [Act.put, lT, l0, lS]
     refine rd 13 (by kernel_rfl) rfl (fun K hK => ?_); go_simp; refine hK _ _ ?_; clear hK K
     refine rd 14 (by kernel_rfl) rfl (fun K hK => ?_); go_simp
     (go_must (refine (HR.out _ _ _ (Blk.new _ _ _).drew).mono ?_); rintro e w1 ⟨r', rfl, ⟨q1, q2, q3⟩, rfl⟩)
     go_simp
     refine hK _ _ ?_
     clear hK K
     refine rd 15 (by kernel_rfl) rfl (fun K hK => ?_); go_simp; refine hK _ _ ?_; clear hK K
     refine wpAny_done (by kernel_rfl) ?_ _
     go_wp2_with (fail)
     go_roundg (gk - 1)
     case measure => omega
     case rel =>
      refine ⟨r', i + 1, rfl, by simp, by omega, q1, q2, by omega, fun h0 j hj hji => ?_, (hbw.alloc hbw.size _).drew⟩
      by_cases hje : j = i
      ·subst hje
       rw [HK.out.1, HK.out.2]
       have := q3 h0
       omega
      ·exact hall.out h3 j hj (by omega)
    ·have h3' : ¬ (0 : Int) ≤ r := h3
     by_cases h4 : ops.length ≤ 250
     ·have h4' : (ops.length : Int) ≤ 250 := by omega
      go_wp2_with (fail)
      go_ret
      exact ⟨_, rfl, fun hb => by simp at hb; try omega, hbw⟩
     ·have h4' : ¬ (ops.length : Int) ≤ 250 := by omega
      go_wp2_with (fail)
      go_ret
      exact ⟨_, rfl, fun hb => by simp at hb; try omega, hbw⟩
   ·have h2' : ¬ (i : Int) < 600 := by omega
    have h4' : ¬ (ops.length : Int) ≤ 250 := by omega
    go_wp2_with (fail)
    go_ret
    exact ⟨_, rfl, fun hb => by simp at hb; try omega, hbw⟩
  ·have h1' : ¬ (i : Int) < (ops.length : Int) := by omega
   have HF : Hid (0 ≤ r → ∀ o ∈ ops, o.key.length + o.val.length ≤ 60000) := fun h0 o ho => by
    obtain ⟨j, hj, rfl⟩ := List.getElem_of_mem ho
    exact hall.out h0 j hj (by omega)
   by_cases h4 : ops.length ≤ 250
   ·have h4' : (ops.length : Int) ≤ 250 := by omega
    have h2' : (i : Int) < 600 := by omega
    by_cases h3 : 0 ≤ r
    ·go_wp2_with (fail)
     go_ret
     exact ⟨_, rfl, fun hb => ⟨h4, HF.out h3⟩, hbw⟩
    ·go_wp2_with (fail)
     go_ret
     exact ⟨_, rfl, fun hb => by simp at hb; try omega, hbw⟩
   ·have h4' : ¬ (ops.length : Int) ≤ 250 := by omega
    by_cases h2 : i < 600
    ·have h2' : (i : Int) < 600 := by omega
     go_wp2_with (fail)
     go_ret
     exact ⟨_, rfl, fun hb => by simp at hb; try omega, hbw⟩
    ·have h2' : ¬ (i : Int) < 600 := by omega
     go_wp2_with (fail)
     go_ret
     exact ⟨_, rfl, fun hb => by simp at hb; try omega, hbw⟩
end Go.Ev

set_option linter.unusedVariables false
set_option linter.unusedSimpArgs false
namespace Go.Ev
open Go.Proofs Go.RowKit

/-- How long keys and values are together. -/
def sumO : List OpL → Nat
 | [] => 0
 | o :: l => o.key.length + o.val.length + sumO l
theorem sumO_app : ∀ a b : List OpL, sumO (a ++ b) = sumO a + sumO b
 | [], b => by simp [sumO]
 | o :: a, b => by simp only [List.cons_append, sumO, sumO_app a b]; omega
theorem sumO_take {l : List OpL} {i : Nat} (h : i < l.length) : sumO (l.take (i + 1)) = sumO (l.take i) + (l[i].key.length + l[i].val.length) := by
 rw [(List.take_append_getElem h).symm, sumO_app]
 rfl
theorem sumO_take_le (l : List OpL) (i : Nat) : sumO (l.take i) ≤ sumO l := by
 have : sumO l = sumO (l.take i ++ l.drop i) := by rw [List.take_append_drop]
 rw [this, sumO_app]
 omega

def LightS (ops : List OpL) (w : World) (e : Ending) (w' : World) : Prop :=
 ∃ b : Bool, e = .returned (.bool b) ∧ (b = true → ops.length ≤ 250 ∧ sumO ops ≤ 60000) ∧ Below w.heap.size w w'

set_option maxHeartbeats 2000000 in
set_option maxRecDepth 100000 in
theorem light_sum (A : Option Addr) (n c : Nat) (ops : List OpL) (w : World) (h : OpsAt w (.slice A n c) ops) :
  Calls Tryz.prog 8 #[.slice A n c] w (LightS ops w) := by
 obtain ⟨hv, hml, hlen⟩ := h
 have hn : n = ops.length := by obtain ⟨_, _, e, _⟩ := hv; cases e; rfl
 subst hn
 unfold maxLen at hml
 have HLen := Lib.hid hlen
 clear hlen
 go_enter Tryz.func8, Tryz.ntmps8
 go_wp2_with (fail)
 go_loopg [3, 4] ops.length (fun gk s3 s4 wr => ∃ (r : Int) (i : Nat), s3 = .int .i64 r ∧ s4 = .int .i64 (i : Int) ∧ i + gk = ops.length ∧ -1 ≤ r ∧ r ≤ 60000 ∧ i ≤ 600 ∧ Hid (0 ≤ r → (sumO (ops.take i) : Int) + r = 60000) ∧ Below w.heap.size w wr)
 case atStart => exact ⟨60000, 0, rfl, rfl, by omega, by omega, by omega, by omega, (fun _ => by simp [sumO]), Below.refl _ _⟩
 case round =>
  obtain ⟨r, i, rfl, rfl, hi, hr1, hr2, hi6, hall, hbw⟩ := hrel
  by_cases h1 : i < ops.length
  ·have h1' : (i : Int) < (ops.length : Int) := by omega
   by_cases h2 : i < 600
   ·have h2' : (i : Int) < 600 := by omega
    by_cases h3 : 0 ≤ r
    ·have hi0 : (0 : Int) ≤ (i : Int) := by omega
     have hw1 : IntKind.i64.wrap ((i : Int) + 1) = (i : Int) + 1 := IntWalk.i64_in _ (by omega)
     obtain ⟨A', c', e0, _, _, hcl⟩ := hv.below hbw
     cases e0
     obtain ⟨blk, off, rfl, hbl, hcell⟩ := hcl (by omega)
     obtain ⟨_, p1, p2⟩ := opsCs_at ops i h1
     have x1 : wr.cell? ⟨blk, off + i * 3 + 1, none⟩ = _ := hcell _ _ p1
     have x2 : wr.cell? ⟨blk, off + i * 3 + 2, none⟩ = _ := hcell _ _ p2
     obtain ⟨m1, m2⟩ := HLen.out _ (List.getElem_mem h1)
     unfold maxLen at m1 m2
     have hR : ∀ W g T, Blk W g T #[.int .i64 (ops[i].key.length : Int), .int .i64 (ops[i].val.length : Int)] → Calls Tryz.prog 33 #[.int .i64 r, .slice (some ⟨g, 0, none⟩) 2 2] W (RoomP ops[i].key.length ops[i].val.length r W) :=
      fun W g T hb => room_two g T _ _ r W hb (by omega) (by omega) ⟨hr1, hr2⟩
     have HR := Lib.hid hR
     have HX := Lib.hid hcell
     clear hR hcell hcl p1 p2 hv
     generalize hk0 : ops[i].key = key at *
     generalize hv0 : ops[i].val = val at *
     have HK := Lib.hid (And.intro hk0 hv0)
     clear hk0 hv0
     go_wp2_with (fail)
     refine wp_region_any (by kernel_rfl) ?_
     change wpAny _ _ _ _ _ _ _ (World.drew _)
     try simp only [Act.put, lT, l0, lS]
     refine tA 0 ?_; try simp only [Act.put, lT, l0, lS]
     refine tA 1 ?_; try simp only [Act.put, lT, l0, lS]
     refine tA 2 ?_; try simp only [Act.put, lT, l0, lS]
     refine tA 3 ?_; try simp only [Act.put, lT, l0, lS]
     refine tA 4 ?_; try simp only [Act.put, lT, l0, lS]
     refine tA 7 ?_; try simp only [Act.put, lT, l0, lS]
     refine tA 8 ?_; try simp only [Act.put, lT, l0, lS]
     refine tA 9 ?_; try simp only [Act.put, lT, l0, lS]
     refine tA 10 ?_; try simp only [Act.put, lT, l0, lS]
     try simp only [Act.put, lT, l0, lS]
     refine rA 5 (v := ?_) (hy := ?hy) ?_; case hy => (intro w hE; have q0 := hE.cell x1; go_simp; try with_reducible rfl)
     try simp only [Act.put, lT, l0, lS]
     try simp only [Act.put, lT, l0, lS]
     refine rA 11 (v := ?_) (hy := ?hy) ?_; case hy => (intro w hE; have q0 := hE.cell x2; go_simp; try with_reducible rfl)
     try simp only [Act.put, lT, l0, lS]
     try simp only [Act.put, lT, l0, lS]
     refine tA 6 ?_; try simp only [Act.put, lT, l0, lS]
     refine tA 12 ?_; try simp only [Act.put, lT, l0, lS]
     refine rd 13 (by kernel_rfl) rfl (fun K hK => ?_); go_simp; refine hK _ _ ?_; clear hK K
     refine rd 14 (by kernel_rfl) rfl (fun K hK => ?_); go_simp
     (go_must (refine (HR.out _ _ _ (Blk.new _ _ _).drew).mono ?_); rintro e w1 ⟨r', rfl, ⟨q1, q2, q3⟩, rfl⟩)
     go_simp
     refine hK _ _ ?_
     clear hK K
     refine rd 15 (by kernel_rfl) rfl (fun K hK => ?_); go_simp; refine hK _ _ ?_; clear hK K
     refine wpAny_done (by kernel_rfl) ?_ _
     go_wp2_with (fail)
     go_roundg (gk - 1)
     case measure => omega
     case rel =>
      refine ⟨r', i + 1, rfl, by simp, by omega, q1, q2, by omega, fun h0 => ?_, (hbw.alloc hbw.size _).drew⟩
      have := q3 h0
      have := hall.out h3
      rw [sumO_take h1, HK.out.1, HK.out.2]
      omega
    ·have h3' : ¬ (0 : Int) ≤ r := h3
     by_cases h4 : ops.length ≤ 250
     ·have h4' : (ops.length : Int) ≤ 250 := by omega
      go_wp2_with (fail)
      go_ret
      exact ⟨_, rfl, fun hb => by simp at hb; try omega, hbw⟩
     ·have h4' : ¬ (ops.length : Int) ≤ 250 := by omega
      go_wp2_with (fail)
      go_ret
      exact ⟨_, rfl, fun hb => by simp at hb; try omega, hbw⟩
   ·have h2' : ¬ (i : Int) < 600 := by omega
    have h4' : ¬ (ops.length : Int) ≤ 250 := by omega
    go_wp2_with (fail)
    go_ret
    exact ⟨_, rfl, fun hb => by simp at hb; try omega, hbw⟩
  ·have h1' : ¬ (i : Int) < (ops.length : Int) := by omega
   have HF : Hid (0 ≤ r → sumO ops ≤ 60000) := fun h0 => by
    have := hall.out h0
    rw [List.take_of_length_le (by omega)] at this
    omega
   by_cases h4 : ops.length ≤ 250
   ·have h4' : (ops.length : Int) ≤ 250 := by omega
    have h2' : (i : Int) < 600 := by omega
    by_cases h3 : 0 ≤ r
    ·go_wp2_with (fail)
     go_ret
     exact ⟨_, rfl, fun hb => ⟨h4, HF.out h3⟩, hbw⟩
    ·go_wp2_with (fail)
     go_ret
     exact ⟨_, rfl, fun hb => by simp at hb; try omega, hbw⟩
   ·have h4' : ¬ (ops.length : Int) ≤ 250 := by omega
    by_cases h2 : i < 600
    ·have h2' : (i : Int) < 600 := by omega
     go_wp2_with (fail)
     go_ret
     exact ⟨_, rfl, fun hb => by simp at hb; try omega, hbw⟩
    ·have h2' : ¬ (i : Int) < 600 := by omega
     go_wp2_with (fail)
     go_ret
     exact ⟨_, rfl, fun hb => by simp at hb; try omega, hbw⟩
end Go.Ev

namespace Go.Proofs
open Go.Shelf
def Tryz.keysA_ren : Go.Shelf.Ren := ⟨fun | 7 => 39 | 10 => 91 | n => n, fun | 23 => 84 | 26 => 3 | 3 => 86 | 28 => 82 | 0 => 0 | 27 => 81 | 33 => 127 | 4 => 4 | n => n, fun | n => n⟩
theorem Tryz.keysA : Go.Proofs.SlLaysZI.n7 Tryz.prog Tryz.keysA_ren := {
 mixed := by kernel_rfl
 f7 := ⟨Tryz.f39.name, by decide, Tryz.func39.trans (congrArg some (by kernel_rfl))⟩
 f10 := ⟨Tryz.f91.name, by decide, Tryz.func91.trans (congrArg some (by kernel_rfl))⟩
 t0 := Tryz.underlying0
 a0 := Tryz.isAgg0
 z0 := Tryz.sizeOf0
 v0 := Tryz.zeroValue0
 t4 := Tryz.underlying4
 a4 := Tryz.isAgg4
 z4 := Tryz.sizeOf4
 v4 := Tryz.zeroValue4
 t23 := Tryz.underlying84
 a23 := Tryz.isAgg84
 z23 := Tryz.sizeOf84
 v23 := Tryz.zeroValue84
 t26 := Tryz.underlying3
 a26 := Tryz.isAgg3
 z26 := Tryz.sizeOf3
 v26 := Tryz.zeroValue3
 t27 := Tryz.underlying81
 a27 := Tryz.isAgg81
 z27 := Tryz.sizeOf81
 v27 := Tryz.zeroValue81
 t28 := Tryz.underlying82
 a28 := Tryz.isAgg82
 z28 := Tryz.sizeOf82
 v28 := Tryz.zeroValue82
 t33 := Tryz.underlying127
 a33 := Tryz.isAgg127
 z33 := Tryz.sizeOf127
 v33 := Tryz.zeroValue127 }
def Tryz.sortedZ_ren : Go.Shelf.Ren := ⟨fun | 6 => 38 | 8 => 75 | 9 => 90 | 11 => 132 | 13 => 145 | 12 => 144 | 23 => 192 | 24 => 193 | 14 => 183 | 15 => 184 | 16 => 185 | 17 => 186 | 18 => 187 | 19 => 188 | 20 => 189 | 21 => 190 | 22 => 191 | 25 => 219 | 26 => 220 | 27 => 221 | 28 => 222 | 29 => 223 | 30 => 224 | 31 => 243 | n => n, fun | 26 => 3 | 28 => 82 | 24 => 36 | 0 => 0 | 3 => 3 | 37 => 237 | 48 => 261 | 50 => 269 | 4 => 4 | 40 => 278 | 39 => 277 | 45 => 109 | 5 => 5 | 9 => 9 | 51 => 307 | 55 => 311 | 57 => 325 | 58 => 326 | 33 => 127 | n => n, fun | n => n⟩
theorem Tryz.sortedZ : Go.Proofs.SlLaysZI.n6 Tryz.prog Tryz.sortedZ_ren := {
 mixed := by kernel_rfl
 f6 := ⟨Tryz.f38.name, by decide, Tryz.func38.trans (congrArg some (by kernel_rfl))⟩
 f8 := ⟨Tryz.f75.name, by decide, Tryz.func75.trans (congrArg some (by kernel_rfl))⟩
 f11 := ⟨Tryz.f132.name, by decide, Tryz.func132.trans (congrArg some (by kernel_rfl))⟩
 t0 := Tryz.underlying0
 a0 := Tryz.isAgg0
 z0 := Tryz.sizeOf0
 v0 := Tryz.zeroValue0
 t24 := Tryz.underlying36
 a24 := Tryz.isAgg36
 z24 := Tryz.sizeOf36
 v24 := Tryz.zeroValue36
 t26 := Tryz.underlying3
 a26 := Tryz.isAgg3
 z26 := Tryz.sizeOf3
 v26 := Tryz.zeroValue3
 t28 := Tryz.underlying82
 a28 := Tryz.isAgg82
 z28 := Tryz.sizeOf82
 v28 := Tryz.zeroValue82
 i26 := by kernel_rfl }
end Go.Proofs
