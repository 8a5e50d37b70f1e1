/-
  A map with numbers as keys, as a row of entries: looked up, put into, deleted from. What a pager of a first transaction knows: its pages and its spare numbers. A region that draws its order, within a round: what is shown without a fence holds there, too. A range over a function whose rounds come in a known order and never leave: the law, directed by the list of what comes. What is read from a branch's bytes, whatever they are, is short. A region in the order of its text, within a round. DERIVED: THE SHELF's CONTRACTS AT THIS DUMP, IN PLAIN WORDS (tools/lay-plain.mjs out of 'YtgfmhppkmogdhaaGreatDoorKeysLay.lean', which tools/lay-shelf.mjs wrote): THE SAME DECLARATIONS UNDER THE SAME NAMES: 'import', 'namespace', 'open', 'def', 'theorem' AND NOTHING ELSE: no command of the shelf's: FOR A HAND-IN. Each laying: the table of numbers ('.._ren') and one theorem, a field a fact of the dump's own or the kernel's comparison; each contract: ONE APPLICATION. DERIVED: THE SHELF's CONTRACTS AT THIS DUMP, IN PLAIN WORDS (tools/lay-plain.mjs out of 'YtgfmhppkmogdhaaGreatDoorSortLay.lean', which tools/lay-shelf.mjs wrote): THE SAME DECLARATIONS UNDER THE SAME NAMES: 'import', 'namespace', 'open', 'def', 'theorem' AND NOTHING ELSE: no command of the shelf's: FOR A HAND-IN. Each laying: the table of numbers ('.._ren') and one theorem, a field a fact of the dump's own or the kernel's comparison; each contract: ONE APPLICATION. A row of one's own within its room: an append that stays, cells beyond its end, what is cleared there. Steps of law 11 in a row: a kind, a key, a value each; what an argument's reading says of them. Are steps few and short enough? A struct of two ints and a string, by value: what its reading says, and that it reads so in every world.
-/
import Derived.Test.YtgfmhppkmogdhaaGreatDoorMBEvLayB
import Derived.MapKept
import Derived.Test.YtgfmhppkmogdhaaGreatDoorMBGvRise
import Derived.RangeFuncNested
import Derived.RangeFuncCalls
import Derived.OrdersIn
import Derived.TacticsIn
import Derived.RangeFuncBound
import Derived.RangeFuncLeaves
import Derived.Test.YtgfmhppkmogdhaaGreatDoorMBGvGet
import Derived.Test.YtgfmhppkmogdhaaGreatDoorMBGvBranch
import Derived.Tactics
import Derived.OwnWalkIn
import Derived.Shelf.SlGeneric
import Derived.Shelf.SlIterI.Nil
import Derived.Shelf.SortM.Plain
import Derived.Shelf.SortM.SortNone
import Derived.Ground.GgzProg
import Derived.Ground.SlgmProg
import Derived.Test.YtgfmhppkmogdhaaGreatDoorProg
import Derived.Lib.SliceRun
import Derived.Laws.IdiomCopy
import Derived.Test.YtgfmhppkmogdhaaGreatDoorMBGwReader
import Derived.Lib.SmallJoins
import Derived.Deep.Slices
import Derived.Test.YtgfmhppkmogdhaaGreatDoorMBGvAny2
import Derived.Deep.LoopGhost
import Derived.Deep.DeepMust
import Derived.Test.YtgfmhppkmogdhaaGreatDoorMBEvInsert
set_option linter.unusedVariables false
set_option linter.unusedSimpArgs false
namespace Go.Ev
open Go.RowKit Go.ChangeMaps

/-- An entry: key, value, stamp. -/
abbrev Ent := Int × Value × Nat
def entA (e : Ent) : MapEntry := ⟨.int .i64 e.1, e.2.1, e.2.2⟩

def getE : List Ent → Int → Option Value
  | [], _ => none
  | e :: l, k => if e.1 = k then some e.2.1 else getE l k
def putE : List Ent → Int → Value → Nat → List Ent
  | [], k, v, c => [(k, v, c)]
  | e :: l, k, v, c => if e.1 = k then (k, v, e.2.2) :: l else e :: putE l k v c
def delE : List Ent → Int → List Ent
  | [], _ => []
  | e :: l, k => if e.1 = k then l else e :: delE l k
def posE : List Ent → Int → Nat
  | [], _ => 0
  | e :: l, k => if e.1 = k then 0 else posE l k + 1

/-- The clock behind a store. -/
def clockE (l : List Ent) (k : Int) (c : Nat) : Nat := if (getE l k).isSome then c else c + 1

theorem getE_none {l : List Ent} {k : Int} : getE l k = none ↔ ∀ e ∈ l, e.1 ≠ k := by
  induction l with
  | nil => simp [getE]
  | cons e l ih =>
    simp only [getE]
    split
    · rename_i h; simp [h]
    · rename_i h; rw [ih]; simp [h]

theorem findNow_E : ∀ (l : List Ent) (k : Int) (i : Nat), Instr.findNow (.int .i64) (.int .i64 k) (l.map entA) i = some ((getE l k).map fun v => (i + posE l k, v))
  | [], _, _ => rfl
  | e :: l, k, i => by
    simp only [List.map_cons, Instr.findNow, entA, Instr.sameNow, if_true, getE, posE]
    by_cases h : e.1 = k
    · simp [h]
    · have h2 : (k == e.1) = false := by simpa using fun e' => h e'.symm
      rw [h2, if_neg h, if_neg h, findNow_E l k (i + 1)]
      congr 1
      cases getE l k <;> simp <;> omega

theorem posE_at : ∀ {l : List Ent} {k : Int} {v : Value}, getE l k = some v → ∃ e, l[posE l k]? = some e ∧ e.1 = k ∧ e.2.1 = v
  | e :: l, k, v, h => by
    simp only [getE] at h
    simp only [posE]
    split at h
    · rename_i he; cases h; rw [if_pos he]; exact ⟨e, rfl, he, rfl⟩
    · rename_i he; rw [if_neg he]; exact posE_at (l := l) h

theorem putE_new : ∀ {l : List Ent} {k : Int} {v : Value} {c : Nat}, getE l k = none → putE l k v c = l ++ [(k, v, c)]
  | [], _, _, _, _ => rfl
  | e :: l, k, v, c, h => by
    simp only [getE] at h
    split at h
    · cases h
    · rename_i he; simp only [putE]; rw [if_neg he, putE_new h]; rfl
theorem putE_old : ∀ {l : List Ent} {k : Int} {v v0 : Value} {c : Nat} {e : Ent}, getE l k = some v0 → l[posE l k]? = some e → putE l k v c = l.set (posE l k) (k, v, e.2.2)
  | e :: l, k, v, v0, c, e', h, hp => by
    simp only [getE] at h
    simp only [putE, posE] at hp ⊢
    split at h
    · rename_i he; rw [if_pos he] at hp ⊢; rw [if_pos he]; cases hp; rfl
    · rename_i he; rw [if_neg he] at hp ⊢; rw [if_neg he]; rw [List.set_cons_succ, putE_old h (by simpa using hp)]
theorem delE_old : ∀ {l : List Ent} {k : Int} {v0 : Value}, getE l k = some v0 → delE l k = l.eraseIdx (posE l k)
  | e :: l, k, v0, h => by
    simp only [getE] at h
    simp only [delE, posE]
    split at h
    · rename_i he; rw [if_pos he, if_pos he]; rfl
    · rename_i he; rw [if_neg he, if_neg he, List.eraseIdx_cons_succ, delE_old h]
theorem delE_new : ∀ {l : List Ent} {k : Int}, getE l k = none → delE l k = l
  | [], _, _ => rfl
  | e :: l, k, h => by
    simp only [getE] at h
    split at h
    · cases h
    · rename_i he; simp only [delE]; rw [if_neg he, delE_new h]

theorem erase_map {α β : Type} (f : α → β) : ∀ (l : List α) (k : Nat), (l.map f).eraseIdx k = (l.eraseIdx k).map f
  | [], _ => by simp
  | _ :: _, 0 => by simp
  | a :: l, k + 1 => by simp [erase_map f l k]

/-- A map's block. -/
def MapI (w : World) (b : Nat) (l : List Ent) (c : Nat) : Prop := w.heap[b]? = some (.map (l.map entA).toArray c)

section
variable {P : Program} {w : World} {b c : Nat} {l : List Ent} {t kt et : TypeId}

theorem MapI.lt (h : MapI w b l c) : b < w.heap.size := (Array.getElem?_eq_some_iff.1 h).1
theorem MapI.keeps {S : Nat → Prop} {w' : World} (h : MapI w b l c) (hk : Keeps S w w') (hb : ¬ S b) : MapI w' b l c := (hk.block b h.lt hb).trans h
theorem MapI.ne {g : Nat} {T : TypeId} {cs : Array Value} (h : MapI w b l c) (hg : Blk w g T cs) : b ≠ g := by
  rintro rfl
  unfold MapI at h
  unfold Blk at hg
  rw [h] at hg
  cases hg
theorem MapI.ne_own {base n z : Nat} {e : TypeId} {v : Value} {xs : List Value} (h : MapI w b l c) (ho : w.ownsRow base e z v n xs) : ∀ k, v.ownBlock = some k → k ≠ b := by
  rintro k hk rfl
  rcases ho.2 with ⟨rfl, _⟩ | ⟨g, cap, cur, rfl, _, hg, _⟩
  · cases hk
  · simp only [Value.ownBlock, Option.some.injEq] at hk
    subst hk
    unfold MapI at h
    rw [hg] at h
    cases h

theorem run_get (h : MapI w b l c) : (getObj b).run P w = .ok (.map (l.map entA).toArray c) w := by
  unfold MapI at h
  simp [getObj, Sem.run, h]

theorem run_key (hk : P.underlying kt = some (.int .i64)) (em : Bool) (k : Int) (W : World) : (Instr.checkKey em 10000 kt (.int .i64 k)).run P W = .ok () W := by
  rw [Instr.checkKey]
  simp only [Sem.run_bind, run_underlying hk, Result.andThen_ok]
  rfl

theorem run_find (hk : P.underlying kt = some (.int .i64)) (k : Int) (W : World) : (Instr.findKey kt (.int .i64 k) (l.map entA)).run P W = .ok ((getE l k).map fun v => (posE l k, v)) W := by
  simp [Instr.findKey, run_underlying hk, findNow_E]

theorem run_lookup_I (h : MapI w b l c) (ht : P.underlying t = some (.map kt et)) (hk : P.underlying kt = some (.int .i64)) {z : Value} (hz : ∀ W, (zeroValue et).run P W = .ok z W) (k : Int) :
    (Instr.lookup t (.map (some b)) (.int .i64 k) true).run P w = .ok (.tuple #[(getE l k).getD z, .bool (getE l k).isSome]) w := by
  have hf := run_find (l := l) hk k w
  generalize getE l k = q at *
  cases q with
  | none =>
    simp only [Option.map_none] at hf
    simp [Instr.lookup, run_underlying ht, run_get h, run_key hk, hf, hz]
  | some v =>
    simp only [Option.map_some] at hf
    simp [Instr.lookup, run_underlying ht, run_get h, run_key hk, hf]

/-- The map's block anew. -/
def turn (w : World) (b : Nat) (l : List Ent) (c : Nat) : World := { w with heap := w.heap.setIfInBounds b (.map (l.map entA).toArray c) }

theorem turn_size (l' : List Ent) (c' : Nat) : (turn w b l' c').heap.size = w.heap.size := by simp [turn]
theorem MapI.turned (h : MapI w b l c) (l' : List Ent) (c' : Nat) : MapI (turn w b l' c') b l' c' := by
  have := h.lt
  unfold MapI turn
  simp [this]
theorem turn_keeps {S : Nat → Prop} {w0 : World} (hk : Keeps S w0 w) (hb : b < w0.heap.size → S b) (l' : List Ent) (c' : Nat) : Keeps S w0 (turn w b l' c') := by
  refine ⟨hk.os, hk.tape, hk.output, by rw [turn_size]; exact hk.size, fun i hi hn => ?_⟩
  rw [← hk.block i hi hn]
  exact Array.getElem?_setIfInBounds_ne (fun e => by subst e; exact hn (hb hi))
theorem MapI.cell_turn (h : MapI w b l c) (l' : List Ent) (c' : Nat) (a : Addr) : (turn w b l' c').cell? a = w.cell? a := by
  by_cases e : a.block = b
  · have h1 := h.turned l' c'
    unfold MapI at h h1
    simp only [World.cell?, e, h, h1]
  · exact World.cell?_of_block (Array.getElem?_setIfInBounds_ne (fun e' => e e'.symm))
theorem MapI.frozen_turn (h : MapI w b l c) (l' : List Ent) (c' : Nat) (a : Addr) : (turn w b l' c').frozen? a = w.frozen? a := by
  by_cases e : a.block = b
  · have h1 := h.turned l' c'
    unfold MapI at h h1
    simp only [World.frozen?, e, h, h1]
  · exact World.frozen?_of_block (Array.getElem?_setIfInBounds_ne (fun e' => e e'.symm))

theorem run_set (h : MapI w b l c) (l' : List Ent) (c' : Nat) : (setObj b (.map (l'.map entA).toArray c')).run P w = .ok () (turn w b l' c') := by
  unfold MapI at h
  simp [setObj, Sem.run, h, turn]

theorem run_update_I (h : MapI w b l c) (ht : P.underlying t = some (.map kt et)) (hk : P.underlying kt = some (.int .i64)) (k : Int) (v : Value) :
    (Instr.mapUpdate t (.map (some b)) (.int .i64 k) v).run P w = .ok () (turn w b (putE l k v c) (clockE l k c)) := by
  have hf := run_find (l := l) hk k w
  have hs := run_set (P := P) h (putE l k v c) (clockE l k c)
  cases hq : getE l k with
  | none =>
    rw [hq] at hf
    simp only [Option.map_none] at hf
    have e : ((l.map entA).toArray.push ⟨.int .i64 k, v, c⟩) = ((putE l k v c).map entA).toArray := by rw [putE_new hq]; simp [entA]
    have ec : clockE l k c = c + 1 := by simp [clockE, hq]
    rw [ec] at hs ⊢
    simp only [Instr.mapUpdate, Sem.run_bind, run_underlying ht, Result.andThen_ok, run_get h, run_key hk, List.toList_toArray, hf, e, hs]
  | some v0 =>
    rw [hq] at hf
    simp only [Option.map_some] at hf
    obtain ⟨e0, he0, hk0, _⟩ := posE_at hq
    have hold : (l.map entA).toArray[posE l k]? = some (entA e0) := by simp [he0]
    have hbits : Instr.sameBits 10000 (entA e0).key (.int .i64 k) = true := by simp [Instr.sameBits, entA, hk0]
    have e : ((l.map entA).toArray.modify (posE l k) fun x => { x with key := .int .i64 k, val := v }) = ((putE l k v c).map entA).toArray := by
      rw [putE_old hq he0]
      apply Array.toList_inj.1
      rw [Array.toList_modify]
      apply List.ext_getElem?
      intro i
      simp only [List.getElem?_modify, List.getElem?_map, List.getElem?_set, List.toList_toArray]
      by_cases hi : posE l k = i
      · subst hi
        obtain ⟨hlt, hge⟩ := List.getElem?_eq_some_iff.1 he0
        simp [hlt, entA, hge]
      · simp [hi]
    have ec : clockE l k c = c := by simp [clockE, hq]
    rw [ec] at hs ⊢
    simp only [Instr.mapUpdate, Sem.run_bind, run_underlying ht, Result.andThen_ok, run_get h, run_key hk, List.toList_toArray, hf, hold, Option.map_some, Option.getD_some, Instr.keyThatStays, hbits, if_true, Sem.run_pure, e, hs]

theorem run_delete_I (h : MapI w b l c) (ht : P.underlying t = some (.map kt et)) (hk : P.underlying kt = some (.int .i64)) (ty : TypeId) (k : Int) :
    (Builtin.delete_ #[t, kt] ty #[.map (some b), .int .i64 k]).run P w = .ok (.tuple #[]) (turn w b (delE l k) c) := by
  have hf := run_find (l := l) hk k w
  have hs := run_set (P := P) h (delE l k) c
  cases hq : getE l k with
  | none =>
    rw [hq] at hf
    simp only [Option.map_none] at hf
    rw [delE_new hq] at hs ⊢
    simp [Builtin.delete_, run_underlying ht, run_get h, run_key hk, hf, hs]
  | some v0 =>
    rw [hq] at hf
    simp only [Option.map_some] at hf
    have e : (l.map entA).eraseIdx (posE l k) = (delE l k).map entA := by rw [delE_old hq, erase_map]
    simp [Builtin.delete_, run_underlying ht, run_get h, run_key hk, hf, e, hs]
end

/-- Each key once. -/
def keysE (l : List Ent) : List Int := l.map (·.1)

theorem getE_put : ∀ (l : List Ent) (k : Int) (v : Value) (c : Nat) (j : Int), getE (putE l k v c) j = if j = k then some v else getE l j
  | [], k, v, c, j => by
    simp only [putE, getE]
    by_cases h : k = j
    · rw [if_pos h, if_pos h.symm]
    · rw [if_neg h, if_neg (fun e => h e.symm)]
  | e :: l, k, v, c, j => by
    simp only [putE]
    split
    · rename_i h
      simp only [getE]
      by_cases h2 : k = j
      · rw [if_pos h2, if_pos h2.symm]
      · rw [if_neg h2, if_neg (fun e => h2 e.symm), if_neg (fun e' => h2 (h.symm.trans e'))]
    · rename_i h
      simp only [getE, getE_put l k v c j]
      by_cases h2 : e.1 = j
      · rw [if_pos h2, if_pos h2, if_neg (fun e' => h (h2.trans e'))]
      · rw [if_neg h2, if_neg h2]

theorem keys_put_mem {l : List Ent} {k : Int} {v : Value} {c : Nat} {j : Int} : j ∈ keysE (putE l k v c) ↔ j = k ∨ j ∈ keysE l := by
  induction l with
  | nil => simp [putE, keysE]
  | cons e l ih =>
    simp only [putE]
    split
    · rename_i h
      subst h
      simp [keysE]
    · simp only [keysE, List.map_cons, List.mem_cons] at ih ⊢
      rw [ih]
      constructor
      · rintro (h | h | h)
        · exact .inr (.inl h)
        · exact .inl h
        · exact .inr (.inr h)
      · rintro (h | h | h)
        · exact .inr (.inl h)
        · exact .inl h
        · exact .inr (.inr h)

theorem nodup_put {l : List Ent} {k : Int} {v : Value} {c : Nat} (h : (keysE l).Nodup) : (keysE (putE l k v c)).Nodup := by
  induction l with
  | nil => simp [putE, keysE]
  | cons e l ih =>
    have h' := List.nodup_cons.1 (show (e.1 :: keysE l).Nodup from h)
    simp only [putE]
    split
    · rename_i he
      show (k :: keysE l).Nodup
      rw [← he]
      exact h
    · rename_i he
      show (e.1 :: keysE (putE l k v c)).Nodup
      refine List.nodup_cons.2 ⟨fun hm => ?_, ih h'.2⟩
      rcases keys_put_mem.1 hm with h2 | h2
      · exact he h2
      · exact h'.1 h2

theorem getE_mem {l : List Ent} {k : Int} : (getE l k).isSome = true ↔ k ∈ keysE l := by
  induction l with
  | nil => simp [getE, keysE]
  | cons e l ih =>
    simp only [getE, keysE, List.map_cons, List.mem_cons] at ih ⊢
    split
    · rename_i h; simp [h]
    · rename_i h
      rw [ih]
      constructor
      · exact .inr
      · rintro (h2 | h2)
        · exact absurd h2.symm h
        · exact h2

theorem getE_del {l : List Ent} (hn : (keysE l).Nodup) (k j : Int) : getE (delE l k) j = if j = k then none else getE l j := by
  induction l with
  | nil => simp [delE, getE]
  | cons e l ih =>
    have h' := List.nodup_cons.1 (show (e.1 :: keysE l).Nodup from hn)
    simp only [delE]
    split
    · rename_i he
      by_cases hj : j = k
      · rw [if_pos hj, hj]
        cases hq : getE l k with
        | none => rfl
        | some v => exact absurd (getE_mem.1 (by rw [hq]; rfl)) (he ▸ h'.1)
      · simp only [getE]
        rw [if_neg hj, if_neg (fun e' => hj (e'.symm.trans he))]
    · rename_i he
      simp only [getE]
      rw [ih h'.2]
      by_cases h2 : e.1 = j
      · rw [if_pos h2, if_pos h2, if_neg (fun e' => he (h2.trans e'))]
      · rw [if_neg h2, if_neg h2]

theorem keys_del_mem {l : List Ent} (hn : (keysE l).Nodup) {k j : Int} : j ∈ keysE (delE l k) ↔ j ≠ k ∧ j ∈ keysE l := by
  rw [← getE_mem, ← getE_mem, getE_del hn]
  by_cases h : j = k <;> simp [h]

theorem nodup_del {l : List Ent} {k : Int} (h : (keysE l).Nodup) : (keysE (delE l k)).Nodup := by
  induction l with
  | nil => simp [delE, keysE]
  | cons e l ih =>
    have h' := List.nodup_cons.1 (show (e.1 :: keysE l).Nodup from h)
    simp only [delE]
    split
    · exact h'.2
    · show (e.1 :: keysE (delE l k)).Nodup
      exact List.nodup_cons.2 ⟨fun hm => h'.1 ((keys_del_mem h'.2).1 hm).2, ih h'.2⟩

theorem len_put {l : List Ent} {k : Int} {v : Value} {c : Nat} (h : getE l k = none) : (putE l k v c).length = l.length + 1 := by rw [putE_new h]; simp
theorem len_del {l : List Ent} {k : Int} {v : Value} (h : getE l k = some v) : (delE l k).length + 1 = l.length := by
  induction l with
  | nil => cases h
  | cons e l ih =>
    simp only [getE] at h
    simp only [delE]
    split
    · simp
    · rename_i he
      rw [if_neg he] at h
      simp [ih h]
end Go.Ev

namespace Go.Ev

def strB (s : Bytes) : Value := .string ⟨s.toArray⟩
def pgV (x : Pg) : Value := .agg #[.int .i64 x.kind, .int .i64 x.next, strB x.body]

theorem pgV_inj {x y : Pg} (h : pgV x = pgV y) : x = y := by
  obtain ⟨a, b, c⟩ := x
  obtain ⟨a', b', c'⟩ := y
  simp only [pgV, strB, Value.agg.injEq, Array.mk.injEq, List.cons.injEq, Value.int.injEq, true_and, Value.string.injEq, ByteArray.mk.injEq, and_true] at h
  obtain ⟨rfl, rfl, h⟩ := h
  simp only [Pg.mk.injEq, true_and]
  simpa using h

structure PgInv (n : Nat) (made was : List Ent) (spare : List Int) : Prop where
  nodM : (keysE made).Nodup
  nodW : (keysE was).Nodup
  nodS : spare.Nodup
  wasS : ∀ k, k ∈ keysE was ↔ k ∈ spare
  cover : ∀ k, (2 ≤ k ∧ k < (n : Int)) ↔ (k ∈ keysE made ∨ k ∈ spare)
  disj : ∀ k, k ∈ keysE made → k ∉ spare
  pages : ∀ k v, getE made k = some v → ∃ x, v = pgV x
  two : 2 ≤ n
  wasV : ∀ k v, getE was k = some v → v = .agg #[]

/-- The pages, by their numbers. -/
def Pages (made : List Ent) (M : Store) : Prop := ∀ k, getE made k = (M k).map pgV

def updS (M : Store) (k : Int) (x : Option Pg) : Store := fun i => if i = k then x else M i

section
variable {n : Nat} {made was : List Ent} {spare : List Int} {M : Store}

theorem PgInv.of (h : PgInv n made was spare) : ∃ M, Pages made M := by
  refine ⟨fun k => if hk : (getE made k).isSome then some (h.pages k _ (Option.get_mem hk)).choose else none, fun k => ?_⟩
  dsimp only
  split
  · rename_i hk
    have := (h.pages k _ (Option.get_mem hk)).choose_spec
    rw [Option.map_some, ← this]
    exact (Option.some_get hk).symm
  · rename_i hk
    simpa using hk

theorem Pages.key (h : Pages made M) (k : Int) : k ∈ keysE made ↔ (M k).isSome = true := by
  rw [← getE_mem, h k]
  simp

theorem range_len : ∀ (m : Nat) (l : List Int) (a : Int), l.Nodup → (∀ k, (a ≤ k ∧ k < a + m) ↔ k ∈ l) → l.length = m
  | 0, l, a, _, h => by
    cases l with
    | nil => rfl
    | cons x l => have := (h x).2 (List.mem_cons_self ..); omega
  | m + 1, l, a, hn, h => by
    have ha : a ∈ l := (h a).1 (by omega)
    have hp := List.perm_cons_erase ha
    have hn2 : (l.erase a).Nodup := hn.erase a
    have := range_len m (l.erase a) (a + 1) hn2 fun k => by
      rw [hn.mem_erase_iff]
      constructor
      · intro hk
        exact ⟨by omega, (h k).1 (by omega)⟩
      · rintro ⟨h1, h2⟩
        have := (h k).2 h2
        omega
    rw [hp.length_eq, List.length_cons, this]

theorem keysE_len (l : List Ent) : (keysE l).length = l.length := by simp [keysE]

theorem PgInv.count (h : PgInv n made was spare) : made.length + spare.length + 2 = n := by
  have hn : (keysE made ++ spare).Nodup := List.nodup_append.2 ⟨h.nodM, h.nodS, fun a ha b hb e => h.disj a ha (e ▸ hb)⟩
  have := range_len (n - 2) (keysE made ++ spare) 2 hn fun k => by
    rw [List.mem_append, ← h.cover]
    have := h.two
    constructor <;> intro hk <;> omega
  rw [List.length_append, keysE_len] at this
  have := h.two
  omega

/-- A page is made with a spare number. -/
theorem PgInv.make_spare {x : Int} {spare' : List Int} (h : PgInv n made was (x :: spare)) (hp : spare'.Perm spare) (v : Pg) (c : Nat) : PgInv n (putE made x (pgV v) c) (delE was x) spare' ∧ getE made x = none := by
  have hx : x ∉ keysE made := fun hm => h.disj x hm (List.mem_cons_self ..)
  have hn := List.nodup_cons.1 h.nodS
  have hg : getE made x = none := by
    cases hq : getE made x with
    | none => rfl
    | some v => exact absurd (getE_mem.1 (by rw [hq]; rfl)) hx
  refine ⟨⟨nodup_put h.nodM, nodup_del h.nodW, hp.nodup_iff.2 hn.2, fun k => ?_, fun k => ?_, fun k hk => ?_, fun k u hu => ?_, h.two, fun k v hv => ?_⟩, hg⟩
  · rw [keys_del_mem h.nodW, h.wasS, hp.mem_iff, List.mem_cons]
    constructor
    · rintro ⟨h1, h2 | h2⟩
      · exact absurd h2 h1
      · exact h2
    · intro h2
      exact ⟨fun e => hn.1 (e ▸ h2), .inr h2⟩
  · rw [h.cover, keys_put_mem, hp.mem_iff, List.mem_cons]
    constructor
    · rintro (h1 | h1 | h1)
      · exact .inl (.inr h1)
      · exact .inl (.inl h1)
      · exact .inr h1
    · rintro ((h1 | h1) | h1)
      · exact .inr (.inl h1)
      · exact .inl h1
      · exact .inr (.inr h1)
  · rw [hp.mem_iff]
    rcases keys_put_mem.1 hk with rfl | hk
    · exact hn.1
    · exact fun hs => h.disj k hk (List.mem_cons_of_mem _ hs)
  · rw [getE_put] at hu
    split at hu
    · cases hu; exact ⟨_, rfl⟩
    · exact h.pages k u hu
  · rw [getE_del h.nodW] at hv
    split at hv
    · cases hv
    · exact h.wasV k v hv

/-- .. with a new number. -/
theorem PgInv.make_new (h : PgInv n made was []) (v : Pg) (c : Nat) : PgInv (n + 1) (putE made n (pgV v) c) (delE was n) [] ∧ getE made n = none := by
  have hx : (n : Int) ∉ keysE made := fun hm => by
    have := (h.cover n).2 (.inl hm)
    omega
  have hg : getE made n = none := by
    cases hq : getE made n with
    | none => rfl
    | some v => exact absurd (getE_mem.1 (by rw [hq]; rfl)) hx
  have hw : delE was n = was := delE_new (by
    cases hq : getE was n with
    | none => rfl
    | some v => have := (h.wasS n).1 (getE_mem.1 (by rw [hq]; rfl)); cases this)
  rw [hw]
  refine ⟨⟨nodup_put h.nodM, h.nodW, List.nodup_nil, h.wasS, fun k => ?_, fun k _ => by simp, fun k u hu => ?_, by have := h.two; omega, h.wasV⟩, hg⟩
  · rw [keys_put_mem]
    have := h.cover k
    have h2 := h.two
    simp only [List.not_mem_nil, or_false] at this ⊢
    constructor
    · intro hk
      by_cases e : k = n
      · exact .inl e
      · exact .inr (this.1 (by omega))
    · rintro (rfl | hk)
      · omega
      · have := this.2 hk; omega
  · rw [getE_put] at hu
    split at hu
    · cases hu; exact ⟨_, rfl⟩
    · exact h.pages k u hu

/-- A page is dropped. -/
theorem PgInv.drop {x : Int} {spare' : List Int} {v : Value} (h : PgInv n made was spare) (hx : getE made x = some v) (hp : spare'.Perm (x :: spare)) (c : Nat) : PgInv n (delE made x) (putE was x (.agg #[]) c) spare' := by
  have hk : x ∈ keysE made := getE_mem.1 (by rw [hx]; rfl)
  have hs := h.disj x hk
  refine ⟨nodup_del h.nodM, nodup_put h.nodW, hp.nodup_iff.2 (List.nodup_cons.2 ⟨hs, h.nodS⟩), fun k => ?_, fun k => ?_, fun k hm => ?_, fun k u hu => ?_, h.two, fun k v hv => ?_⟩
  · rw [keys_put_mem, hp.mem_iff, List.mem_cons, h.wasS]
  · rw [h.cover, keys_del_mem h.nodM, hp.mem_iff, List.mem_cons]
    constructor
    · rintro (h1 | h1)
      · by_cases e : k = x
        · exact .inr (.inl e)
        · exact .inl ⟨e, h1⟩
      · exact .inr (.inr h1)
    · rintro (⟨_, h1⟩ | h1 | h1)
      · exact .inl h1
      · exact .inl (h1 ▸ hk)
      · exact .inr h1
  · rw [hp.mem_iff, List.mem_cons]
    have := (keys_del_mem h.nodM).1 hm
    rintro (h1 | h1)
    · exact this.1 h1
    · exact h.disj k this.2 h1
  · rw [getE_del h.nodM] at hu
    split at hu
    · cases hu
    · exact h.pages k u hu
  · rw [getE_put] at hv
    split at hv
    · cases hv; rfl
    · exact h.wasV k v hv

theorem Pages.put (h : Pages made M) (x : Int) (v : Pg) (c : Nat) : Pages (putE made x (pgV v) c) (updS M x (some v)) := fun k => by
  rw [getE_put, h k]
  unfold updS
  split <;> rfl
theorem Pages.del (h : Pages made M) (hn : (keysE made).Nodup) (x : Int) : Pages (delE made x) (updS M x none) := fun k => by
  rw [getE_del hn, h k]
  unfold updS
  split <;> rfl
end
end Go.Ev

namespace Go.Ev
open Go.RowKit

variable {P : Program} {l n : Nat}

abbrev wideR (l : Nat) : Fence := Fence.wide.inRound l

theorem calls_round {f : FuncId} {args : Array Value} {w : World} {R : Ending → World → Prop} (h : Calls P f args w R) : CallsIn (wideR l) n P f args w R := CallsIn.inRound l (callsIn_wide.2 h)

theorem rows_round {row : String} {args : Array Value} {w : World} {R : Value → World → Prop} (h : Rows P row args w R) : RowsIn (wideR l) n P row args w R := fun c cs _ =>
  let ⟨v, w', r, s⟩ := h c cs
  ⟨v, w', r, stepsIn_wide.2 s⟩

theorem oper_round {o : Oper} {a : Act} {w : World} {K : Act → World → Prop} {Q : Exit → Act → World → Prop} (hd : ∀ c, o.op ≠ .defer c) (h : o.wp P a w K Q) : o.wpIn (wideR l) n P a w K Q := by
  refine ⟨fun _ _ => trivial, ?_⟩
  rw [Oper.semAt_eq _ _ _ hd]
  unfold Oper.wp at h
  generalize (execOp a.eval o).run P w = r at *
  cases r with
  | ok x w' =>
    cases x <;> simp only [Oper.upon, Oper.uponIn] at h ⊢
    case value v => exact h
    case skip => exact h
    case defer d => exact h
    case enter f args => exact ⟨(fun e => (by cases e)), calls_round h⟩
    case row row args => exact ⟨(fun e => (by cases e)), rows_round h⟩
  | halt x w' => cases x <;> simp only [Oper.upon, Oper.uponIn] at h ⊢; exact h

theorem op_round {ops : Array Oper} {Q : Exit → Act → World → Prop} {i : Nat} {K K' : Act → World → Prop} {a : Act} {w : World} (hd : ∀ (i : Nat) (o : Oper) c, ops[i]? = some o → o.op ≠ .defer c) (hQ : ¬ LetsOut Q) (hK : ∀ a w, K a w → K' a w) (h : wpOp P ops Q i K a w) : wpOpIn (wideR l) n P ops Q i K' a w := by
  unfold wpOp at h
  unfold wpOpIn
  split
  · rename_i ho
    simp only [ho] at h
    exact hK _ _ h
  · rename_i o ho
    simp only [ho] at h
    split
    · rename_i hw
      simp only [hw, if_true] at h
      rcases h with h | h
      · exact Oper.wpIn_mono hK (oper_round (fun c => hd i o c ho) h)
      · exact absurd h.2 hQ
    · rename_i hw
      simp only [hw] at h
      exact ⟨fun _ _ => trivial, hK _ _ h⟩

theorem any_round {ops : Array Oper} {Q : Exit → Act → World → Prop} {md : Region.Mode} (hd : ∀ (i : Nat) (o : Oper) c, ops[i]? = some o → o.op ≠ .defer c) (hQ : ¬ LetsOut Q) : ∀ (fuel : Nat) (listed : Array Bool) (a : Act) (w : World), wpAny P md ops Q fuel listed a w → wpAnyIn (wideR l) n P md ops Q fuel listed a w
  | 0, _, _, _, h => h
  | fuel + 1, listed, a, w, h => ⟨h.1, fun i hi => op_round hd hQ (fun a w => any_round hd hQ fuel _ a w) (h.2 i hi)⟩

/-- No operation defers. -/
def noDefer (ops : Array Oper) : Bool := ops.all fun o => match o.op with | .defer _ => false | _ => true
theorem noDefer_spec {ops : Array Oper} (h : noDefer ops = true) : ∀ (i : Nat) (o : Oper) c, ops[i]? = some o → o.op ≠ .defer c := by
  intro i o c ho e
  unfold noDefer at h
  rw [Array.all_eq_true'] at h
  have := h o (Array.mem_of_getElem? ho)
  rw [e] at this
  cases this

theorem region_round {id : Nat} {ops : Array Oper} {Q : Exit → Act → World → Prop} {a : Act} {w : World} (hm : P.follows .mixedOrders = true) (hd : noDefer ops = true) (hQ : ¬ LetsOut Q)
    (h : wpAny P .any ops Q ops.size (Array.replicate ops.size false) a w.drew) : (Code.region id ops true).wpIn (wideR l) n P Q a w :=
  wpIn_region_any hm (any_round (noDefer_spec hd) hQ _ _ _ _ h)
end Go.Ev

namespace Go.Ev
open Go.RowKit

variable {F : Fence} {n : Nat} {P : Program}

/-- The iterator hands over just these, one by one, where every round goes on. -/
def Each {α : Type} (F : Fence) (n : Nat) (P : Program) (g : Nat) (lb : Array Value) (encs : α → Array Value) (Kp : World → World → Prop) (xs : List α) (w : World) : Prop :=
  ∀ (l : Nat) (J : Nat → World → Prop) (W : World), Below w.heap.size w W →
    (∀ (k : Nat) (x : α) (W1 : World), xs[k]? = some x → J k W1 → YieldAt F (n - 1) P l (encs x) W1 fun e W' => e = .returned (.bool true) ∧ J (k + 1) W' ∧ Kp W1 W') →
    J 0 W → CallsIn F n P g (#[.func (.yield l) #[] #[]] ++ lb) W fun e W' => (∃ v, e = .returned v) ∧ J xs.length W'

/-- A round goes on. -/
def goesOn (B : Nat) (Kp : World → World → Prop) (I : World → Prop) (W : World) : Exit → Act → World → Prop
  | .normal, _, W' => KeepsFrom B W W' ∧ Kp W W' ∧ I W'
  | _, _, _ => False

theorem rangeFunc_each {α : Type} {g : Operand} {ps : Array Tmp} {assign body : Code} {Q : Exit → Act → World → Prop} {a : Act} {w : World} {gf : Nat} {lb : Array Value} {encs : α → Array Value} {Kp : World → World → Prop} {xs : List α}
    (hro : F.round = none) (h1 : 1 ≤ n) (hg : a.eval g = .func (.func gf) #[] lb) (hF : F.fn gf) (eg : ∀ args w, (callFunc gf args).run P w = .ok (.enter gf args) w) (hseq : Each F (n - 1) P gf lb encs Kp xs w)
    (hKt : ∀ {A B C : World}, Kp A B → Kp B C → Kp A C) (hKb : ∀ (W : World) (l : Nat) (o o' : Obj), w.heap.size ≤ l → W.heap[l]? = some o → o.isCells = false → o.isWalk = false → Kp W (W.putObj l o')) (hps : ∀ x, (encs x).size = ps.size)
    (I : Nat → World → Prop) (hI : OwnFrom w.heap.size I) (h0 : I 0 w) (Ax : α → Act → World → Prop) (hAx : ∀ x a', OwnFrom w.heap.size (fun (_ : Unit) W => Ax x a' W))
    (hassign : ∀ (l k : Nat) (x : α) (W : World) (K : Act → World → Prop), xs[k]? = some x → I k W → (∀ a' W', KeepsFrom w.heap.size W W' → Kp W W' → I k W' → Ax x a' W' → K a' W') →
      assign.wpIn (F.inRound l) (n - 1 - 1) P (Exit.then K (fun _ _ _ => False)) { tmps := (ps.zip (encs x)).foldl (fun t (p, v) => t.setIfInBounds p v) a.tmps, defers := [] } W)
    (hbody : ∀ (l k : Nat) (x : α) (a' : Act) (W : World), xs[k]? = some x → I k W → Ax x a' W → body.wpIn (F.inRound l) (n - 1 - 1) P (goesOn w.heap.size Kp (I (k + 1)) W) a' W)
    (hdone : ∀ (D : Nat) (W : World), w.heap.size ≤ D → I xs.length W → W.heap[D]? = some (.deferred (some [])) → Q .normal { a with defers := { target := .collected D, args := #[] } :: a.defers } W) :
    (Code.rangeFunc g ps assign body).wpIn F n P Q a w := by
  refine wpIn_rangeFunc fun fn hfn => ?_
  rw [hro]
  -- the loop's record in its states; the block of the deferred calls is D, the record's is D + 1
  obtain ⟨D, hD⟩ : ∃ D, D = w.heap.size := ⟨_, rfl⟩
  obtain ⟨R, hR⟩ : ∃ R : LoopState → Loop, R = fun st => { state := st, pending := none, fn, tmps := a.tmps, params := ps, assign, body, defers := D } := ⟨_, rfl⟩
  obtain ⟨W1, hW1⟩ : ∃ W1, (w.alloc (.deferred (some []))).alloc (.loop (R .ready)) = W1 := ⟨_, rfl⟩
  have hl1 : W1.heap[D + 1]? = some (.loop (R .ready)) := by
    have := World.alloc_heap_new (w.alloc (.deferred (some []))) (.loop (R .ready))
    rw [World.size_alloc, hW1] at this
    rw [hD]; exact this
  have hd1 : W1.heap[D]? = some (.deferred (some [])) := by
    rw [← hW1, hD]; exact (Below.heap_alloc _ _ _ (by simp)).trans (World.alloc_heap_new w _)
  have hi1 : I 0 W1 := by rw [← hW1]; exact hI.alloc _ (hI.alloc _ h0)
  have hb1 : Below w.heap.size w W1 := by rw [← hW1]; exact ((Below.refl _ w).alloc (Nat.le_refl _) _).alloc (by simp) _
  refine ⟨D + 1, [{ target := .collected D, args := #[] }], W1, { target := .fn (.func gf) lb, args := #[.func (.yield (D + 1)) #[] #[]] }, W1, gf, #[.func (.yield (D + 1)) #[] #[]] ++ lb, W1, ?_, ?_, ?_, ?_, fun _ => h1, ?_⟩
  · rw [← hW1, hR, hD]; exact run_enterLoop_outer _ _ _ _ _
  · simp only [resolve, hg]
    simp [go_sem]
  · intro f' hf'; simp [Target.leads] at hf'; subst hf'; exact hF
  · simp [invoke, go_sem, eg]
  refine (hseq (D + 1) (fun k W => I k W ∧ W.heap[D + 1]? = some (.loop (R .ready)) ∧ W.heap[D]? = some (.deferred (some []))) W1 hb1 ?_ ⟨hi1, hl1, hd1⟩).mono ?_
  · -- a round
    rintro k x W hx ⟨hi, hl, hd⟩
    have hy := run_yield (P := P) (args := encs x) hl (by rw [hR]; exact hps x)
    rw [hR] at hy
    refine ⟨fn, _, assign, body, hy, roundIn_of_wpIn hfn (hassign _ k x W _ hx hi ?_)⟩
    intro a' Wa hka hpa hia hax
    have hla := hka.same _ _ (by omega) hl rfl
    have hda := hka.same _ _ (by omega) hd rfl
    have hlta : D + 1 < Wa.heap.size := (Array.getElem?_eq_some_iff.1 hla).1
    refine ⟨_, run_beginRound hla (by rw [hR]), ?_⟩
    have hlb : (Wa.putObj (D + 1) (.loop { R .ready with state := .busy })).heap[D + 1]? = some (.loop { R .ready with state := .busy }) := World.putObj_heap_same hlta
    have hdb : (Wa.putObj (D + 1) (.loop { R .ready with state := .busy })).heap[D]? = some (.deferred (some [])) := (World.putObj_heap_other (by omega)).trans hda
    have hpb : Kp Wa (Wa.putObj (D + 1) (.loop { R .ready with state := .busy })) := hKb _ _ _ _ (by omega) hla rfl rfl
    refine wpIn_mono (hbody _ k x a' _ hx (hI.putObj _ hia (by omega) hla rfl) ((hAx x a').putObj (s := ()) _ hax (by omega) hla rfl)) ?_
    rintro e a3 W3 hp
    cases e with
    | normal =>
      obtain ⟨hk3, hp3, hi3⟩ := hp
      have hl3 := hk3.same _ _ (by omega) hlb rfl
      have hd3 := hk3.same _ _ (by omega) hdb rfl
      have hr := run_endRound (P := P) none hl3
      rw [hR] at hr hl3
      refine ⟨_, _, hr, rfl, ⟨hI.putObj _ hi3 (by omega) hl3 rfl, ?_, (World.putObj_heap_other (by omega)).trans hd3⟩, hKt hpa (hKt (hKt hpb hp3) (hKb _ _ _ _ (by omega) hl3 rfl rfl))⟩
      rw [World.putObj_heap_same (Array.getElem?_eq_some_iff.1 hl3).1, hR]
      rfl
    | ret => exact hp.elim
    | exit id => exact hp.elim
    | goto t => exact hp.elim
    | panic ch => exact hp.elim
    | outgrown => exact hp.elim
  · -- behind the iterator
    rintro e W2 ⟨⟨v, rfl⟩, hi, hl, hd⟩
    have hr := run_endLoop (P := P) hl (by rw [hR]; simp)
    rw [hR] at hr
    exact ⟨none, _, hr, hdone D _ (by omega) (hI.putObj _ hi (by omega) hl rfl) ((World.putObj_heap_other (by omega)).trans hd)⟩
end Go.Ev

namespace Go.Ev
open Go.Lib

def Child.short (x : Child) : Prop := x.key.length ≤ 40 ∧ I64 x.page

theorem Rd.child_ok (r : Rd) : r.child.1.short := ⟨r.text_len (m := 40), Rd.var_i64 _⟩

theorem Child.lay_short {x : Child} (h : x.short) : x.lay.length ≤ 60 := by
  obtain ⟨h1, h2⟩ := h
  have k1 := (varB_len (x.key.length : Int) ⟨by omega, by omega⟩).2
  have k3 := (varB_len x.page h2).2
  unfold Child.lay textB
  simp only [List.length_append]
  omega

theorem layC_short : ∀ {l : List Child}, (∀ x ∈ l, x.short) → (layC l).length ≤ 60 * l.length
  | [], _ => by simp [layC]
  | x :: l, h => by
    have h1 := Child.lay_short (h x (List.mem_cons_self ..))
    have h2 := layC_short fun y hy => h y (List.mem_cons_of_mem _ hy)
    simp only [layC, List.length_append, List.length_cons]
    omega

theorem Rd.child_le (r : Rd) : r.child.2.b.length ≤ r.b.length := by
  unfold Rd.child
  have h1 := r.text_le 40
  have h2 := (r.text 40).2.var_le
  dsimp only
  omega

/-- One step of the reading. -/
theorem Rd.children_step {r : Rd} (h : r.e = 0 ∧ r.b ≠ []) : r.children = (r.child.1 :: r.child.2.children.1, r.child.2.children.2) := by
  rw [Rd.children, dif_pos h]
  by_cases h2 : r.child.2.e = 0
  · rw [dif_pos h2]
  · rw [dif_neg h2]
    have : r.child.2.children = ([], r.child.2) := by
      rw [Rd.children, dif_neg (fun hc => h2 hc.1)]
    rw [this]
theorem Rd.children_end {r : Rd} (h : ¬ (r.e = 0 ∧ r.b ≠ [])) : r.children = ([], r) := by rw [Rd.children, dif_neg h]

theorem rightC_cons {c : Child} {L : List Child} : rightC (c :: L) = true ↔ c.fit = true ∧ c.key = [] ∧ riseC [] L = true := by
  simp only [rightC, Bool.and_eq_true, List.isEmpty_iff, and_assoc]
  constructor
  · rintro ⟨h1, h2, h3⟩; rw [h2] at h3; exact ⟨h1, h2, h3⟩
  · rintro ⟨h1, h2, h3⟩; rw [h2]; exact ⟨h1, rfl, h3⟩

theorem below_right {k : Bytes} {l : List Child} (h : rightC l = true) : below k l = findC k l + 1 := by
  cases l with
  | nil => cases h
  | cons c L =>
    obtain ⟨_, h2, _⟩ := rightC_cons.1 h
    simp only [below, findC, List.tail_cons, h2, lessB_nil]
    simp

theorem below_ge' {k : Bytes} {l : List Child} {i : Nat} {x : Child} (hr : rightC l = true) (h : below k l ≤ i) (hx : l[i]? = some x) : lessB k x.key = true := by
  have hb := below_right (k := k) hr
  cases l with
  | nil => cases hr
  | cons c L =>
    obtain ⟨_, h2, h3⟩ := rightC_cons.1 hr
    cases i with
    | zero => omega
    | succ i => exact below_ge h3 (by unfold findC at hb; simp only [List.tail_cons] at hb; omega) hx
end Go.Ev

namespace Go.Ev
open Go.RowKit

variable {P : Program} {l n : Nat}

theorem list_round {ops : Array Oper} {Q : Exit → Act → World → Prop} (hQ : ¬ LetsOut Q) : ∀ (L : List Oper) (_ : ∀ o ∈ L, ∀ c, o.op ≠ .defer c) (a : Act) (w : World), wpList P ops Q L a w → wpListIn (wideR l) n P ops Q L a w
  | [], _, _, _, h => h
  | o :: L, hd, a, w, h => by
    unfold wpList at h
    unfold wpListIn
    split
    · rename_i hw
      rw [if_pos hw] at h
      rcases h with h | h
      · exact Oper.wpIn_mono (fun a w hh => list_round hQ L (fun o ho => hd o (List.mem_cons_of_mem _ ho)) a w hh) (oper_round (hd o (List.mem_cons_self ..)) h)
      · exact absurd h.2 hQ
    · rename_i hw
      rw [if_neg hw] at h
      exact ⟨fun _ _ => trivial, list_round hQ L (fun o ho => hd o (List.mem_cons_of_mem _ ho)) _ _ h⟩

def noDeferL (L : List Oper) : Bool := L.all fun o => match o.op with | .defer _ => false | _ => true
theorem noDeferL_spec {L : List Oper} (h : noDeferL L = true) : ∀ o ∈ L, ∀ c, o.op ≠ .defer c := by
  intro o ho c e
  unfold noDeferL at h
  rw [List.all_eq_true] at h
  have := h o ho
  rw [e] at this
  cases this

/-- A region in the order of its text, within a round. -/
theorem region_round0 {id : Nat} {L : List Oper} {Q : Exit → Act → World → Prop} {a : Act} {w : World} (hd : noDeferL L = true) (hQ : ¬ LetsOut Q) (h : wpList P L.toArray Q L a w) : (Code.region id L.toArray false).wpIn (wideR l) n P Q a w :=
  wpIn_region_lit (list_round hQ L (noDeferL_spec hd) _ _ h)

theorem wpListIn_append_at {w : World} {ops : Array Oper} {rest : List Oper} {o : Oper} {a : Act} {Q : Exit → Act → World → Prop} (hgd : o.guard = none) (s x : Operand) (t : TypeId)
    (ho : o.op = .call { callee := .builtin .append, args := #[s, x], argTypes := #[t, t] })
    (base : Nat) (e : TypeId) (i : TypeInfo) (z : Value) (size bytes : Nat) (ht : P.underlying t = some (.slice e)) (hi : P.info? e = some i) (hz : i.zero = some z)
    (hsize : i.size = size) (hby : i.bytes = bytes) (hzs : z.cells.size = size) (hsz : 0 < size)
    (v : Value) (k : Nat) (xs : List Value) (hs : a.eval s = v) (hown : w.ownsRow base e size v k xs)
    (ad : Addr) (m c : Nat) (news : List Value) (hx : a.eval x = .slice (some ad) m c) (hl : news.length = m * size) (hnews : ∀ j u, news[j]? = some u → w.cell? (ad.add j) = some u) (h1 : ∀ u ∈ news, u.oneCell' = true)
    (h63 : k + m ≤ maxLen) (hbytes : (k + m) * bytes ≤ 140737488355328) (hbase : base ≤ w.heap.size)
    (h : ∀ v' w', w'.ownsRow base e size v' (k + m) (xs ++ news) → w.grownBy w' v.ownBlock → (∀ j, v'.ownBlock = some j → v.ownBlock = some j ∨ w.heap.size ≤ j) → wpListIn (wideR l) n P ops Q rest (a.put o.dst v') w') : wpListIn (wideR l) n P ops Q (o :: rest) a w :=
  wpListIn_plain hgd fun _ hK => oper_round (fun c => by rw [ho]; intro e; cases e) (wp_append_at s x t ho base e i z size bytes ht hi hz hsize hby hzs hsz v k xs hs hown ad m c news hx hl hnews h1 h63 hbytes hbase fun v' w' h2 h3 h4 => hK _ _ (h v' w' h2 h3 h4))
end Go.Ev

namespace Go.Proofs
open Go.Shelf
def Tryz.keysA_ren : Go.Shelf.Ren := ⟨fun | 7 => 125 | 10 => 190 | n => n, fun | 23 => 166 | 26 => 3 | 3 => 81 | 28 => 174 | 0 => 0 | 27 => 173 | 33 => 102 | 4 => 4 | n => n, fun | n => n⟩
theorem Tryz.keysA : Go.Proofs.SlLaysZI.n7 Tryz.prog Tryz.keysA_ren := {
  mixed := by kernel_rfl
  f7 := ⟨Tryz.f125.name, by decide, Tryz.func125.trans (congrArg some (by kernel_rfl))⟩
  f10 := ⟨Tryz.f190.name, by decide, Tryz.func190.trans (congrArg some (by kernel_rfl))⟩
  t0 := Tryz.underlying0
  a0 := Tryz.isAgg0
  z0 := Tryz.sizeOf0
  v0 := Tryz.zeroValue0
  t4 := Tryz.underlying4
  a4 := Tryz.isAgg4
  z4 := Tryz.sizeOf4
  v4 := Tryz.zeroValue4
  t23 := Tryz.underlying166
  a23 := Tryz.isAgg166
  z23 := Tryz.sizeOf166
  v23 := Tryz.zeroValue166
  t26 := Tryz.underlying3
  a26 := Tryz.isAgg3
  z26 := Tryz.sizeOf3
  v26 := Tryz.zeroValue3
  t27 := Tryz.underlying173
  a27 := Tryz.isAgg173
  z27 := Tryz.sizeOf173
  v27 := Tryz.zeroValue173
  t28 := Tryz.underlying174
  a28 := Tryz.isAgg174
  z28 := Tryz.sizeOf174
  v28 := Tryz.zeroValue174
  t33 := Tryz.underlying102
  a33 := Tryz.isAgg102
  z33 := Tryz.sizeOf102
  v33 := Tryz.zeroValue102 }
def Tryz.sortedZ_ren : Go.Shelf.Ren := ⟨fun | 6 => 124 | 8 => 189 | 9 => 168 | 11 => 230 | 13 => 218 | 12 => 217 | 23 => 262 | 24 => 263 | 14 => 253 | 15 => 254 | 16 => 255 | 17 => 256 | 18 => 257 | 19 => 258 | 20 => 259 | 21 => 260 | 22 => 261 | 25 => 291 | 26 => 292 | 27 => 293 | 28 => 294 | 29 => 295 | 30 => 296 | 31 => 306 | n => n, fun | 26 => 3 | 28 => 174 | 24 => 89 | 0 => 0 | 3 => 3 | 37 => 299 | 48 => 331 | 50 => 366 | 4 => 4 | 40 => 358 | 39 => 357 | 45 => 41 | 5 => 5 | 9 => 9 | 51 => 390 | 55 => 394 | 57 => 405 | 58 => 406 | 33 => 102 | n => n, fun | n => n⟩
theorem Tryz.sortedZ : Go.Proofs.SlLaysZI.n6 Tryz.prog Tryz.sortedZ_ren := {
  mixed := by kernel_rfl
  f6 := ⟨Tryz.f124.name, by decide, Tryz.func124.trans (congrArg some (by kernel_rfl))⟩
  f8 := ⟨Tryz.f189.name, by decide, Tryz.func189.trans (congrArg some (by kernel_rfl))⟩
  f11 := ⟨Tryz.f230.name, by decide, Tryz.func230.trans (congrArg some (by kernel_rfl))⟩
  t0 := Tryz.underlying0
  a0 := Tryz.isAgg0
  z0 := Tryz.sizeOf0
  v0 := Tryz.zeroValue0
  t24 := Tryz.underlying89
  a24 := Tryz.isAgg89
  z24 := Tryz.sizeOf89
  v24 := Tryz.zeroValue89
  t26 := Tryz.underlying3
  a26 := Tryz.isAgg3
  z26 := Tryz.sizeOf3
  v26 := Tryz.zeroValue3
  t28 := Tryz.underlying174
  a28 := Tryz.isAgg174
  z28 := Tryz.sizeOf174
  v28 := Tryz.zeroValue174
  i26 := by kernel_rfl }
end Go.Proofs

namespace Go.Proofs
open Go.Shelf
def Tryz.sortZ_ren : Go.Shelf.Ren := ⟨fun | 5 => 168 | 8 => 218 | 7 => 217 | 19 => 262 | 20 => 263 | 10 => 253 | 11 => 254 | 12 => 255 | 13 => 256 | 14 => 257 | 15 => 258 | 16 => 259 | 17 => 260 | 18 => 261 | 30 => 291 | 31 => 292 | 32 => 293 | 33 => 294 | 34 => 295 | 35 => 296 | 40 => 306 | n => n, fun | 23 => 89 | 25 => 3 | 3 => 3 | 32 => 299 | 22 => 89 | 0 => 0 | 44 => 331 | 46 => 366 | 4 => 4 | 36 => 358 | 35 => 357 | 41 => 41 | 5 => 5 | 9 => 9 | 53 => 390 | 57 => 394 | 63 => 405 | 64 => 406 | n => n, fun | n => n⟩
theorem Tryz.sortZ : Go.Proofs.SlLaysM.n5 Tryz.prog Tryz.sortZ_ren := {
  mixed := by kernel_rfl
  f5 := ⟨Tryz.f168.name, by decide, Tryz.func168.trans (congrArg some (by kernel_rfl))⟩
  f7 := ⟨Tryz.f217.name, by decide, Tryz.func217.trans (congrArg some (by kernel_rfl))⟩
  f8 := Tryz.func218.trans (congrArg some (by kernel_rfl))
  f10 := ⟨Tryz.f253.name, by decide, Tryz.func253.trans (congrArg some (by kernel_rfl))⟩
  f11 := ⟨Tryz.f254.name, by decide, Tryz.func254.trans (congrArg some (by kernel_rfl))⟩
  f12 := ⟨Tryz.f255.name, by decide, Tryz.func255.trans (congrArg some (by kernel_rfl))⟩
  f13 := ⟨Tryz.f256.name, by decide, Tryz.func256.trans (congrArg some (by kernel_rfl))⟩
  f14 := ⟨Tryz.f257.name, by decide, Tryz.func257.trans (congrArg some (by kernel_rfl))⟩
  f15 := ⟨Tryz.f258.name, by decide, Tryz.func258.trans (congrArg some (by kernel_rfl))⟩
  f16 := ⟨Tryz.f259.name, by decide, Tryz.func259.trans (congrArg some (by kernel_rfl))⟩
  f17 := ⟨Tryz.f260.name, by decide, Tryz.func260.trans (congrArg some (by kernel_rfl))⟩
  f18 := ⟨Tryz.f261.name, by decide, Tryz.func261.trans (congrArg some (by kernel_rfl))⟩
  f19 := Tryz.func262.trans (congrArg some (by kernel_rfl))
  f20 := Tryz.func263.trans (congrArg some (by kernel_rfl))
  f30 := ⟨Tryz.f291.name, by decide, Tryz.func291.trans (congrArg some (by kernel_rfl))⟩
  f31 := Tryz.func292.trans (congrArg some (by kernel_rfl))
  f32 := Tryz.func293.trans (congrArg some (by kernel_rfl))
  f33 := ⟨Tryz.f294.name, by decide, Tryz.func294.trans (congrArg some (by kernel_rfl))⟩
  f34 := ⟨Tryz.f295.name, by decide, Tryz.func295.trans (congrArg some (by kernel_rfl))⟩
  f35 := ⟨Tryz.f296.name, by decide, Tryz.func296.trans (congrArg some (by kernel_rfl))⟩
  f40 := ⟨Tryz.f306.name, by decide, Tryz.func306.trans (congrArg some (by kernel_rfl))⟩
  t0 := Tryz.underlying0
  a0 := Tryz.isAgg0
  z0 := Tryz.sizeOf0
  v0 := Tryz.zeroValue0
  t3 := Tryz.underlying3
  a3 := Tryz.isAgg3
  z3 := Tryz.sizeOf3
  v3 := Tryz.zeroValue3
  t4 := Tryz.underlying4
  a4 := Tryz.isAgg4
  z4 := Tryz.sizeOf4
  v4 := Tryz.zeroValue4
  t5 := Tryz.underlying5
  a5 := Tryz.isAgg5
  z5 := Tryz.sizeOf5
  v5 := Tryz.zeroValue5
  t9 := Tryz.underlying9
  a9 := Tryz.isAgg9
  z9 := Tryz.sizeOf9
  v9 := Tryz.zeroValue9
  t22 := Tryz.underlying89
  a22 := Tryz.isAgg89
  z22 := Tryz.sizeOf89
  v22 := Tryz.zeroValue89
  t23 := Tryz.underlying89
  a23 := Tryz.isAgg89
  z23 := Tryz.sizeOf89
  v23 := Tryz.zeroValue89
  t25 := Tryz.underlying3
  a25 := Tryz.isAgg3
  z25 := Tryz.sizeOf3
  v25 := Tryz.zeroValue3
  t32 := Tryz.underlying299
  a32 := Tryz.isAgg299
  z32 := Tryz.sizeOf299
  v32 := Tryz.zeroValue299
  t35 := Tryz.underlying357
  a35 := Tryz.isAgg357
  z35 := Tryz.sizeOf357
  v35 := Tryz.zeroValue357
  t36 := Tryz.underlying358
  a36 := Tryz.isAgg358
  z36 := Tryz.sizeOf358
  v36 := Tryz.zeroValue358
  t41 := Tryz.underlying41
  a41 := Tryz.isAgg41
  z41 := Tryz.sizeOf41
  v41 := Tryz.zeroValue41
  t44 := Tryz.underlying331
  a44 := Tryz.isAgg331
  z44 := Tryz.sizeOf331
  v44 := Tryz.zeroValue331
  t46 := Tryz.underlying366
  a46 := Tryz.isAgg366
  z46 := Tryz.sizeOf366
  v46 := Tryz.zeroValue366
  t53 := Tryz.underlying390
  a53 := Tryz.isAgg390
  z53 := Tryz.sizeOf390
  v53 := Tryz.zeroValue390
  t57 := Tryz.underlying394
  a57 := Tryz.isAgg394
  z57 := Tryz.sizeOf394
  v57 := Tryz.zeroValue394
  t63 := Tryz.underlying405
  a63 := Tryz.isAgg405
  z63 := Tryz.sizeOf405
  v63 := Tryz.zeroValue405
  t64 := Tryz.underlying406
  a64 := Tryz.isAgg406
  z64 := Tryz.sizeOf406
  v64 := Tryz.zeroValue406 }
end Go.Proofs

namespace Go.Ev
open Go.RowKit

/-- An append within the room stays where it was. -/
theorem run_append_stays {P : Program} (w : World) {base : Nat} {t ty e : TypeId} {i : TypeInfo} {z : Value} {size bytes : Nat} (ht : P.underlying t = some (.slice e)) (hi : P.info? e = some i) (hz : i.zero = some z)
    (hsize : i.size = size) (hby : i.bytes = bytes) (hzs : z.cells.size = size) (hsz : 0 < size) {g n cap : Nat} {xs : List Value} (hown : w.ownsRow base e size (.slice (some ⟨g, 0, none⟩) n cap) n xs)
    {a : Addr} {m c : Nat} {news : List Value} (hl : news.length = m * size) (hnews : ∀ j u, news[j]? = some u → w.cell? (a.add j) = some u) (h1 : ∀ u ∈ news, u.oneCell' = true) (hroom : n + m ≤ cap)
    (h63 : n + m ≤ maxLen) (hbytes : (n + m) * bytes ≤ 140737488355328) (hbase : base ≤ w.heap.size) :
    ∃ w', (Builtin.append_ #[t, t] ty #[.slice (some ⟨g, 0, none⟩) n cap, .slice (some a) m c]).run P w = .ok (.slice (some ⟨g, 0, none⟩) (n + m) cap) w' ∧ w'.ownsRow base e size (.slice (some ⟨g, 0, none⟩) (n + m) cap) (n + m) (xs ++ news) ∧ w.grownBy w' (some g) := by
  obtain ⟨v', w', hr, h2, h3, _⟩ := run_append_own (P := P) w base t ty e i z size bytes ht hi hz hsize hby hzs hsz _ n xs hown a m c news hl hnews h1 h63 hbytes hbase
  rcases hown.2 with ⟨e0, _⟩ | ⟨g', cap', cur, e0, hbg, hg, hnc, hcm, hcs, htake⟩
  · cases e0
  · simp only [Value.slice.injEq, Option.some.injEq, Addr.mk.injEq, and_true, true_and] at e0
    obtain ⟨rfl, rfl⟩ := e0
    subst hsize
    have hr2 := run_append_room (P := P) w t ty e i ht hi g n cap cur hg a m c news hl hnews h1 hroom (by rw [hl, hcs, ← Nat.add_mul]; exact Nat.mul_le_mul_right _ hroom)
    rw [hr] at hr2
    simp only [Result.ok.injEq] at hr2
    obtain ⟨rfl, _⟩ := hr2
    exact ⟨w', hr, h2, h3⟩

theorem setCells_size {g : Nat} : ∀ (vs : List Value) (o : Nat) (w : World), (w.setCells g o vs).heap.size = w.heap.size
  | [], _, _ => rfl
  | v :: vs, o, w => by
    show ((w.setCell ⟨g, o, none⟩ v).setCells g (o + 1) vs).heap.size = _
    rw [setCells_size vs]
    simp [World.setCell]

theorem setCells_shape {g : Nat} {e : TypeId} : ∀ (vs : List Value) (o : Nat) (w : World) (cur : Array Value), w.heap[g]? = some (.cells cur e (0, 0)) → ∃ cur', (w.setCells g o vs).heap[g]? = some (.cells cur' e (0, 0)) ∧ cur'.size = cur.size
  | [], _, _, cur, h => ⟨cur, h, rfl⟩
  | v :: vs, o, w, cur, h => by
    have h1 : Blk w g e cur := h
    obtain ⟨cur', h2, h3⟩ := setCells_shape vs (o + 1) (w.setCell ⟨g, o, none⟩ v) _ (h1.set o v)
    exact ⟨cur', h2, by rw [h3]; simp⟩

theorem setCells_frm {g : Nat} : ∀ (vs : List Value) (o : Nat) (w : World), Keeps (fun k => k = g) w (w.setCells g o vs)
  | [], _, w => Keeps.refl _ w
  | v :: vs, o, w => ((Keeps.refl (fun k => k = g) w).setCell (p := ⟨g, o, none⟩) (fun _ => rfl) v).trans (setCells_frm vs (o + 1) _) fun _ _ e => e

/-- Cells beyond the end of a row of one's own are written. -/
theorem own_beyond {w : World} {base size g n cap o : Nat} {e : TypeId} {xs vs : List Value} (h : w.ownsRow base e size (.slice (some ⟨g, 0, none⟩) n cap) n xs) (ho : n * size ≤ o) : (w.setCells g o vs).ownsRow base e size (.slice (some ⟨g, 0, none⟩) n cap) n xs := by
  have hcells := h.cells (g := g) rfl
  refine ⟨h.1, ?_⟩
  rcases h.2 with ⟨e0, _⟩ | ⟨g', cap', cur, e0, hbg, hg, hnc, hcm, hcs, htake⟩
  · cases e0
  · simp only [Value.slice.injEq, Option.some.injEq, Addr.mk.injEq, and_true, true_and] at e0
    obtain ⟨rfl, rfl⟩ := e0
    obtain ⟨cur', h2, h3⟩ := setCells_shape vs o w cur hg
    refine .inr ⟨g, cap, cur', rfl, hbg, h2, hnc, hcm, by rw [h3, hcs], ?_⟩
    refine List.ext_getElem? fun j => ?_
    rw [List.getElem?_take]
    by_cases hj : j < n * size
    · rw [if_pos hj, Array.getElem?_toList, ← cell_of_row _ g j cur' e (0, 0) h2, World.cell?_setCells_out g vs o w ⟨g, j, none⟩ (fun _ _ => .inl (by show j < o; omega))]
      have hx : j < xs.length := by rw [h.1]; exact hj
      have := hcells j xs[j] (List.getElem?_eq_getElem hx)
      rw [addr_add, Nat.zero_add] at this
      rw [this, List.getElem?_eq_getElem hx]
    · rw [if_neg hj, List.getElem?_eq_none (by rw [h.1]; omega)]

/-- The front of a row of one's own. -/
theorem own_front {w : World} {base size g n cap i : Nat} {e : TypeId} {xs : List Value} (h : w.ownsRow base e size (.slice (some ⟨g, 0, none⟩) n cap) n xs) (hi : i ≤ n) : w.ownsRow base e size (.slice (some ⟨g, 0, none⟩) i cap) i (xs.take (i * size)) := by
  have hm : i * size ≤ n * size := Nat.mul_le_mul_right _ hi
  refine ⟨by rw [List.length_take, h.1]; omega, ?_⟩
  rcases h.2 with ⟨e0, _⟩ | ⟨g', cap', cur, e0, hbg, hg, hnc, hcm, hcs, htake⟩
  · cases e0
  · simp only [Value.slice.injEq, Option.some.injEq, Addr.mk.injEq, and_true, true_and] at e0
    obtain ⟨rfl, rfl⟩ := e0
    refine .inr ⟨g, cap, cur, rfl, hbg, hg, by omega, hcm, hcs, ?_⟩
    rw [← htake, List.take_take, Nat.min_eq_left hm]

/-- 'clear(s)' at one element: its cells are the zero value's. -/
theorem run_clear_one {P : Program} (w : World) (t e ty : TypeId) (z : Value) (ht : P.underlying t = some (.slice e)) (hv : ∀ w, (zeroValue e).run P w = .ok z w) (h1 : ∀ v ∈ z.cells.toList, v.oneCell' = true) (b o c : Nat)
    (hc : ∀ j, j < z.cells.size → (w.cell? ⟨b, o + j, none⟩).isSome = true) (hf : ∀ j, j < z.cells.size → w.frozen? ⟨b, o + j, none⟩ = false) :
    (Builtin.clear_ #[t] ty #[.slice (some ⟨b, o, none⟩) 1 c]).run P w = .ok (.tuple #[]) (w.setCells b o z.cells.toList) := by
  have hzc : (Builtin.zeroCells z.cells 1).toList = z.cells.toList := by
    apply List.ext_getElem
    · simp [Builtin.zeroCells]
    · intro i h1 h2
      have hlt : i < z.cells.size := by simpa using h2
      have e1 : (Builtin.zeroCells z.cells 1)[i]'(by simpa using h1) = z.cells[i % z.cells.size]! := by simp [Builtin.zeroCells]
      rw [Array.getElem_toList, Array.getElem_toList, e1, Nat.mod_eq_of_lt hlt]
      exact getElem!_pos z.cells i hlt
  have hst := run_storeCells_cells (P := P) b o z.cells.toList 0 w (by simpa using hc) (by simpa using hf) h1
  simp only [Nat.add_zero] at hst
  simp [Builtin.clear_, run_underlying ht, hv, hzc, hst]

/-- An append whose outcome is known. -/
theorem wp_append_eq {P : Program} {w w' : World} {o : Oper} {a : Act} {K : Act → World → Prop} {Q : Exit → Act → World → Prop} (s x : Operand) (t : TypeId) {v y v' : Value}
    (ho : o.op = .call { callee := .builtin .append, args := #[s, x], argTypes := #[t, t] }) (hs : a.eval s = v) (hx : a.eval x = y) (hr : (Builtin.append_ #[t, t] o.type #[v, y]).run P w = .ok v' w') (h : K (a.put o.dst v') w') : o.wp P a w K Q := by
  unfold Oper.wp execOp
  simp only [ho, resolve, invoke, builtin, Sem.run_bind, Sem.run_pure, Result.andThen_ok, List.map_toArray, List.map_cons, List.map_nil, hs, hx]
  rw [hr]
  exact h
end Go.Ev

set_option linter.unusedVariables false
set_option linter.unusedSimpArgs false
namespace Go.Ev
open Go.Joins Go.ChangeShapes Go.WideShapes Go.RowKit Go.Deep

structure OpL where
  kind : Int
  key : Bytes
  val : Bytes

def opCs (o : OpL) : List Value := [.int .i64 o.kind, strV o.key, strV o.val]
def opsCs : List OpL → List Value
  | [] => []
  | o :: l => opCs o ++ opsCs l
theorem opsCs_len : ∀ l : List OpL, (opsCs l).length = l.length * 3
  | [] => rfl
  | o :: l => by simp [opsCs, opCs, opsCs_len l]; omega
theorem opsCs_at : ∀ (l : List OpL) (k : Nat) (hk : k < l.length), (opsCs l)[k * 3]? = some (.int .i64 l[k].kind) ∧ (opsCs l)[k * 3 + 1]? = some (strV l[k].key) ∧ (opsCs l)[k * 3 + 2]? = some (strV l[k].val)
  | o :: l, 0, _ => ⟨rfl, rfl, rfl⟩
  | o :: l, k + 1, h => by
    have ih := opsCs_at l k (by simpa using h)
    rw [show (k + 1) * 3 = k * 3 + 3 by omega]
    simpa [opsCs, opCs] using ih

/-- A row that reads as these steps. -/
def OpsAt (w : World) (v : Value) (l : List OpL) : Prop := Sl w 3 v l.length (opsCs l) ∧ l.length ≤ maxLen ∧ ∀ o ∈ l, o.key.length ≤ maxLen ∧ o.val.length ≤ maxLen

theorem OpsAt.below {w w' : World} {v : Value} {l : List OpL} (h : OpsAt w v l) (hb : Below w.heap.size w w') : OpsAt w' v l := ⟨h.1.below hb, h.2⟩

theorem list_of {α : Type} {n : Nat} {Q : Nat → α → Prop} (h : ∀ j, j < n → ∃ a, Q j a) : ∃ l : List α, l.length = n ∧ ∀ j (hj : j < l.length), Q j l[j] := by
  refine ⟨List.ofFn fun j : Fin n => (h j.1 j.2).choose, by simp, fun j hj => ?_⟩
  have hj' : j < n := by simpa using hj
  have := (h j hj').choose_spec
  simpa using this

section
variable {H : Type} {enc : TypeId × Value → H} {P : Program} {w : World} {base : Nat} {spare : Nat → Bool} {held : Bool}

theorem slice_ops {t e : TypeId} {gs : Array Field} {fuel : Nat} {v : Value} {y : DataW H × List MemPlace} (ht : P.underlying t = some (.slice e)) (he : P.underlying e = some (.struct gs)) (hone : oneCellFields P gs = true) (hC : P.cellsOf e = 3)
    {g0 g1 g2 : Field} (h0 : gs[0]? = some g0) (h1 : gs[1]? = some g1) (h2 : gs[2]? = some g2) (t0 : P.underlying g0.type = some (.int .i64)) (t1 : P.underlying g1.type = some .string) (t2 : P.underlying g2.type = some .string)
    (h : DataW.trod enc P w base spare held fuel t [v] = some y) : ∃ l, OpsAt w v l := by
  rcases open_slice ht h with ⟨e0, _⟩ | ⟨a, len, cap, m, n, D, Pl, e0, hb, hl, hm, hmm, hx, hi⟩
  · simp only [List.cons.injEq, and_true] at e0
    subst e0
    exact ⟨[], Sl.nil .., Nat.zero_le _, fun o ho => by cases ho⟩
  · simp only [List.cons.injEq, and_true] at e0
    subst e0
    have hlm : len ≤ m := by rw [hmm]; split <;> omega
    rcases Nat.eq_zero_or_pos len with hz0 | hz0
    · subst hz0
      exact ⟨[], Sl.nil .., Nat.zero_le _, fun o ho => by cases ho⟩
    rw [hC] at hi
    have hsp : a.spot = none ∧ a.block < w.heap.size := by
      obtain ⟨cs', q1, q2⟩ := hi 0 (by omega)
      obtain ⟨_, hlen, hat⟩ := World.cells?_some q1
      have q3 := hat 0 (by omega)
      rw [List.getElem?_eq_getElem (by omega)] at q3
      simp [Addr.add] at q3
      unfold World.cell? at q3
      split at q3
      · rename_i c e' fz hq
        split at q3
        · cases q3
        · rename_i hs'
          exact ⟨by simpa using hs', (Array.getElem?_eq_some_iff.1 hq).1⟩
      · cases q3
    obtain ⟨bl, of, sp⟩ := a
    obtain ⟨hsp, hbl⟩ := hsp
    simp only at hsp
    subst hsp
    have hop : ∀ j, j < len → ∃ o : OpL, (o.key.length ≤ maxLen ∧ o.val.length ≤ maxLen) ∧ ∀ r u, (opCs o)[r]? = some u → w.cell? ⟨bl, of + (j * 3 + r), none⟩ = some u := by
      intro j hj
      obtain ⟨cs', q1, q2⟩ := hi j (by omega)
      obtain ⟨_, hlen, hat⟩ := World.cells?_some q1
      obtain ⟨xs, n', _, _, _, hxl, hf⟩ := DataW.trod_struct he q2
      have field : ∀ off g, gs[off]? = some g → off < 3 → ∃ y u, cs'[off]? = some u ∧ DataW.trod enc P w base spare held n' g.type [u] = some y ∧ w.cell? ⟨bl, of + (j * 3 + off), none⟩ = some u := by
        intro off g hg hoff
        obtain ⟨ho, hk⟩ := hone_of hone off g hg
        have q3 := hf off g hg
        have hgs : off < gs.size := (Array.getElem?_eq_some_iff.1 hg).1
        rw [ho, hk, List.getElem?_eq_getElem (by omega)] at q3
        have q4 : (cs'.drop off).take 1 = [cs'[off]'(by omega)] := by rw [List.drop_eq_getElem_cons (by omega)]; rfl
        rw [q4] at q3
        refine ⟨_, cs'[off]'(by omega), List.getElem?_eq_getElem (by omega), q3, ?_⟩
        have q7 := hat off hoff
        rw [List.getElem?_eq_getElem (by omega), addr_add, addr_add, Nat.add_assoc] at q7
        exact q7
      obtain ⟨_, u0, _, f0, c0⟩ := field 0 g0 h0 (by omega)
      obtain ⟨_, u1, _, f1, c1⟩ := field 1 g1 h1 (by omega)
      obtain ⟨_, u2, _, f2, c2⟩ := field 2 g2 h2 (by omega)
      obtain ⟨k, e0, _, _⟩ := DataW.trod_int t0 f0
      obtain ⟨s1, e1, _, b1⟩ := DataW.trod_string t1 f1
      obtain ⟨s2, e2, _, b2⟩ := DataW.trod_string t2 f2
      simp only [List.cons.injEq, and_true] at e0 e1 e2
      subst e0 e1 e2
      refine ⟨⟨k, s1.data.toList, s2.data.toList⟩, ⟨b1, b2⟩, fun r u hu => ?_⟩
      match r with
      | 0 => cases hu; exact c0
      | 1 => cases hu; exact c1
      | 2 => cases hu; exact c2
      | r + 3 => simp [opCs] at hu
    obtain ⟨l, hlen, hl'⟩ := list_of hop
    subst hlen
    refine ⟨l, ⟨_, _, rfl, hl, opsCs_len l, fun _ => ⟨bl, of, rfl, hbl, fun j u hu => ?_⟩⟩, Nat.le_trans hl hm, fun o ho => ?_⟩
    · have hj : j < l.length * 3 := by rw [← opsCs_len]; exact (List.getElem?_eq_some_iff.1 hu).1
      have hd : j / 3 < l.length := by omega
      obtain ⟨a0, a1, a2⟩ := opsCs_at l (j / 3) hd
      have := (hl' (j / 3) hd).2
      have hjj : j = j / 3 * 3 + j % 3 := by omega
      have hr : j % 3 = 0 ∨ j % 3 = 1 ∨ j % 3 = 2 := by omega
      rw [hjj]
      rcases hr with hr | hr | hr <;> rw [hr] at hjj ⊢ <;> rw [hjj] at hu
      · refine this 0 u ?_; rw [Nat.add_zero, a0] at hu; exact hu
      · refine this 1 u ?_; rw [a1] at hu; exact hu
      · refine this 2 u ?_; rw [a2] at hu; exact hu
    · obtain ⟨j, hj, rfl⟩ := List.getElem_of_mem ho
      exact (hl' j hj).1
end
end Go.Ev

set_option linter.unusedVariables false
set_option linter.unusedSimpArgs false
namespace Go.Ev
open Go.Proofs Go.RowKit

def RoomP (x0 x1 left : Int) (w : World) (e : Ending) (w' : World) : Prop := ∃ r : Int, e = .returned (.int .i64 r) ∧ (-1 ≤ r ∧ r ≤ 60000 ∧ (0 ≤ r → r + x0 + x1 = left)) ∧ w = w'

set_option maxHeartbeats 1000000 in
theorem room_two (g : Nat) (T : TypeId) (x0 x1 left : Int) (w : World) (h : Blk w g T #[.int .i64 x0, .int .i64 x1]) (h0 : 0 ≤ x0) (h1 : 0 ≤ x1) (hl : -1 ≤ left ∧ left ≤ 60000) :
    Calls Tryz.prog 37 #[.int .i64 left, .slice (some ⟨g, 0, none⟩) 2 2] w (RoomP x0 x1 left w) := by
  have c0 : w.cell? ⟨g, 0, none⟩ = some (.int .i64 x0) := h.cell 0
  have c1 : w.cell? ⟨g, 1, none⟩ = some (.int .i64 x1) := h.cell 1
  clear h
  go_enter Tryz.func37, Tryz.ntmps37
  go_wp2_with (fail)
  go_loopg [0, 5] 2 (fun gk s0 s5 wr => ∃ (r : Int) (i : Nat) (x : Int), s0 = .int .i64 r ∧ s5 = .int .i64 (i : Int) ∧ i + gk = 2 ∧ -1 ≤ r ∧ r ≤ 60000 ∧ Hid ((i = 0 ∧ r = left ∧ x = x0) ∨ (i = 1 ∧ 0 ≤ r ∧ r + x0 = left ∧ x = x1) ∨ (i = 2 ∧ 0 ≤ r ∧ r + x0 + x1 = left)) ∧ Hid (i < 2 → w.cell? ⟨g, i, none⟩ = some (.int .i64 x)) ∧ wr = w)
  case atStart => exact ⟨left, 0, x0, rfl, rfl, rfl, hl.1, hl.2, .inl ⟨rfl, rfl, rfl⟩, fun _ => c0, rfl⟩
  case round =>
    obtain ⟨r, i, x, rfl, rfl, hi, hr1, hr2, hd, hx, rfl⟩ := hrel
    have C0 := Lib.hid c0
    have C1 := Lib.hid c1
    clear c0 c1
    by_cases h2 : i < 2
    · have hx' := hx.out h2
      have h2' : (i : Int) < 2 := by omega
      have hi0 : (0 : Int) ≤ (i : Int) := by omega
      have hw1 : IntKind.i64.wrap ((i : Int) + 1) = (i : Int) + 1 := IntWalk.i64_in _ (by omega)
      have hxp : 0 ≤ x ∧ (0 ≤ r → x ≤ r ∨ r < x) := ⟨by rcases hd.out with h | h | h <;> omega, fun _ => by omega⟩
      clear hx
      by_cases hn : r < 0
      · go_wp2_with (fail)
        go_ret
        exact ⟨-1, rfl, ⟨by omega, by omega, fun h => by omega⟩, rfl⟩
      · by_cases hg : r < x
        · go_wp2_with (fail)
          go_ret
          exact ⟨-1, rfl, ⟨by omega, by omega, fun h => by omega⟩, rfl⟩
        · have hw2 : IntKind.i64.wrap (r - x) = r - x := IntWalk.i64_in _ (by omega)
          go_wp2_with (fail)
          go_roundg (gk - 1)
          case measure => omega
          case rel =>
            refine ⟨r - x, i + 1, x1, rfl, by simp, by omega, by omega, by omega, ?_, fun h => ?_, rfl⟩
            · show _ ∨ _
              rcases hd.out with h | h | h
              · exact .inr (.inl ⟨by omega, by omega, by omega, rfl⟩)
              · exact .inr (.inr ⟨by omega, by omega, by omega⟩)
              · omega
            · have : i = 0 := by omega
              subst this
              exact C1.out
    · have h2' : ¬ (i : Int) < 2 := by omega
      clear hx
      go_wp2_with (fail)
      go_ret
      refine ⟨r, rfl, ⟨by omega, by omega, fun _ => ?_⟩, rfl⟩
      rcases hd.out with h | h | h <;> omega

def LightP (ops : List OpL) (w : World) (e : Ending) (w' : World) : Prop :=
  ∃ b : Bool, e = .returned (.bool b) ∧ (b = true → ops.length ≤ 250 ∧ ∀ o ∈ ops, o.key.length + o.val.length ≤ 60000) ∧ Below w.heap.size w w'

set_option maxHeartbeats 2000000 in
set_option maxRecDepth 100000 in
theorem light_any (A : Option Addr) (n c : Nat) (ops : List OpL) (w : World) (h : OpsAt w (.slice A n c) ops) :
    Calls Tryz.prog 8 #[.slice A n c] w (LightP ops w) := by
  obtain ⟨hv, hml, hlen⟩ := h
  have hn : n = ops.length := by obtain ⟨_, _, e, _⟩ := hv; cases e; rfl
  subst hn
  unfold maxLen at hml
  have HLen := Lib.hid hlen
  clear hlen
  go_enter Tryz.func8, Tryz.ntmps8
  go_wp2_with (fail)
  go_loopg [3, 4] ops.length (fun gk s3 s4 wr => ∃ (r : Int) (i : Nat), s3 = .int .i64 r ∧ s4 = .int .i64 (i : Int) ∧ i + gk = ops.length ∧ -1 ≤ r ∧ r ≤ 60000 ∧ i ≤ 600 ∧ Hid (0 ≤ r → ∀ j (hj : j < ops.length), j < i → ops[j].key.length + ops[j].val.length ≤ 60000) ∧ Below w.heap.size w wr)
  case atStart => exact ⟨60000, 0, rfl, rfl, by omega, by omega, by omega, by omega, (fun _ j _ h => absurd h (Nat.not_lt_zero _)), Below.refl _ _⟩
  case round =>
    obtain ⟨r, i, rfl, rfl, hi, hr1, hr2, hi6, hall, hbw⟩ := hrel
    by_cases h1 : i < ops.length
    · have h1' : (i : Int) < (ops.length : Int) := by omega
      by_cases h2 : i < 600
      · have h2' : (i : Int) < 600 := by omega
        by_cases h3 : 0 ≤ r
        · have hi0 : (0 : Int) ≤ (i : Int) := by omega
          have hw1 : IntKind.i64.wrap ((i : Int) + 1) = (i : Int) + 1 := IntWalk.i64_in _ (by omega)
          obtain ⟨A', c', e0, _, _, hcl⟩ := hv.below hbw
          cases e0
          obtain ⟨blk, off, rfl, hbl, hcell⟩ := hcl (by omega)
          obtain ⟨_, p1, p2⟩ := opsCs_at ops i h1
          have x1 : wr.cell? ⟨blk, off + i * 3 + 1, none⟩ = _ := hcell _ _ p1
          have x2 : wr.cell? ⟨blk, off + i * 3 + 2, none⟩ = _ := hcell _ _ p2
          obtain ⟨m1, m2⟩ := HLen.out _ (List.getElem_mem h1)
          unfold maxLen at m1 m2
          have hR : ∀ W g T, Blk W g T #[.int .i64 (ops[i].key.length : Int), .int .i64 (ops[i].val.length : Int)] → Calls Tryz.prog 37 #[.int .i64 r, .slice (some ⟨g, 0, none⟩) 2 2] W (RoomP ops[i].key.length ops[i].val.length r W) :=
            fun W g T hb => room_two g T _ _ r W hb (by omega) (by omega) ⟨hr1, hr2⟩
          have HR := Lib.hid hR
          have HX := Lib.hid hcell
          clear hR hcell hcl p1 p2 hv
          generalize hk0 : ops[i].key = key at *
          generalize hv0 : ops[i].val = val at *
          have HK := Lib.hid (And.intro hk0 hv0)
          clear hk0 hv0
          go_wp2_with (fail)
          refine wp_region_any (by kernel_rfl) ?_
          change wpAny _ _ _ _ _ _ _ (World.drew _)
          try simp only [Act.put, lT, l0, lS]
          refine tA 0 ?_; try simp only [Act.put, lT, l0, lS]
          refine tA 1 ?_; try simp only [Act.put, lT, l0, lS]
          refine tA 2 ?_; try simp only [Act.put, lT, l0, lS]
          refine tA 3 ?_; try simp only [Act.put, lT, l0, lS]
          refine tA 4 ?_; try simp only [Act.put, lT, l0, lS]
          refine tA 7 ?_; try simp only [Act.put, lT, l0, lS]
          refine tA 8 ?_; try simp only [Act.put, lT, l0, lS]
          refine tA 9 ?_; try simp only [Act.put, lT, l0, lS]
          refine tA 10 ?_; try simp only [Act.put, lT, l0, lS]
          try simp only [Act.put, lT, l0, lS]
          refine rA 5 (v := ?_) (hy := ?hy) ?_; case hy => (intro w hE; have q0 := hE.cell x1; go_simp; try with_reducible rfl)
          try simp only [Act.put, lT, l0, lS]
          try simp only [Act.put, lT, l0, lS]
          refine rA 11 (v := ?_) (hy := ?hy) ?_; case hy => (intro w hE; have q0 := hE.cell x2; go_simp; try with_reducible rfl)
          try simp only [Act.put, lT, l0, lS]
          try simp only [Act.put, lT, l0, lS]
          refine tA 6 ?_; try simp only [Act.put, lT, l0, lS]
          refine tA 12 ?_; try simp only [Act.put, lT, l0, lS]
          refine rd 13 (by kernel_rfl) rfl (fun K hK => ?_); go_simp; refine hK _ _ ?_; clear hK K
          refine rd 14 (by kernel_rfl) rfl (fun K hK => ?_); go_simp
          (go_must (refine (HR.out _ _ _ (Blk.new _ _ _).drew).mono ?_); rintro e w1 ⟨r', rfl, ⟨q1, q2, q3⟩, rfl⟩)
          go_simp
          refine hK _ _ ?_
          clear hK K
          refine rd 15 (by kernel_rfl) rfl (fun K hK => ?_); go_simp; refine hK _ _ ?_; clear hK K
          refine wpAny_done (by kernel_rfl) ?_ _
          go_wp2_with (fail)
          go_roundg (gk - 1)
          case measure => omega
          case rel =>
            refine ⟨r', i + 1, rfl, by simp, by omega, q1, q2, by omega, fun h0 j hj hji => ?_, (hbw.alloc hbw.size _).drew⟩
            by_cases hje : j = i
            · subst hje
              rw [HK.out.1, HK.out.2]
              have := q3 h0
              omega
            · exact hall.out h3 j hj (by omega)
        · have h3' : ¬ (0 : Int) ≤ r := h3
          by_cases h4 : ops.length ≤ 250
          · have h4' : (ops.length : Int) ≤ 250 := by omega
            go_wp2_with (fail)
            go_ret
            exact ⟨_, rfl, fun hb => by simp at hb; try omega, hbw⟩
          · have h4' : ¬ (ops.length : Int) ≤ 250 := by omega
            go_wp2_with (fail)
            go_ret
            exact ⟨_, rfl, fun hb => by simp at hb; try omega, hbw⟩
      · have h2' : ¬ (i : Int) < 600 := by omega
        have h4' : ¬ (ops.length : Int) ≤ 250 := by omega
        go_wp2_with (fail)
        go_ret
        exact ⟨_, rfl, fun hb => by simp at hb; try omega, hbw⟩
    · have h1' : ¬ (i : Int) < (ops.length : Int) := by omega
      have HF : Hid (0 ≤ r → ∀ o ∈ ops, o.key.length + o.val.length ≤ 60000) := fun h0 o ho => by
        obtain ⟨j, hj, rfl⟩ := List.getElem_of_mem ho
        exact hall.out h0 j hj (by omega)
      by_cases h4 : ops.length ≤ 250
      · have h4' : (ops.length : Int) ≤ 250 := by omega
        have h2' : (i : Int) < 600 := by omega
        by_cases h3 : 0 ≤ r
        · go_wp2_with (fail)
          go_ret
          exact ⟨_, rfl, fun hb => ⟨h4, HF.out h3⟩, hbw⟩
        · go_wp2_with (fail)
          go_ret
          exact ⟨_, rfl, fun hb => by simp at hb; try omega, hbw⟩
      · have h4' : ¬ (ops.length : Int) ≤ 250 := by omega
        by_cases h2 : i < 600
        · have h2' : (i : Int) < 600 := by omega
          go_wp2_with (fail)
          go_ret
          exact ⟨_, rfl, fun hb => by simp at hb; try omega, hbw⟩
        · have h2' : ¬ (i : Int) < 600 := by omega
          go_wp2_with (fail)
          go_ret
          exact ⟨_, rfl, fun hb => by simp at hb; try omega, hbw⟩
end Go.Ev

set_option linter.unusedVariables false
set_option linter.unusedSimpArgs false
namespace Go.Ev
open Go.Joins Go.ChangeShapes Go.WideShapes Go.RowKit Go.Deep

def pgStr (P : Program) (f : Field) : Bool := match P.underlying f.type with | some .string => true | _ => false
def pgInt (P : Program) (f : Field) : Bool := match P.underlying f.type with | some (.int .i64) => true | _ => false
def pgB (P : Program) (t : TypeId) : Bool := P.cellsOf t == 3 && match P.underlying t with
  | some (.struct fs) => oneCellFields P fs && match fs.toList with
    | [f0, f1, f2] => pgInt P f0 && pgInt P f1 && pgStr P f2
    | _ => false
  | _ => false

theorem pgStr_of {P : Program} {f : Field} (h : pgStr P f = true) : P.underlying f.type = some .string := by
  unfold pgStr at h; split at h <;> simp_all
theorem pgInt_of {P : Program} {f : Field} (h : pgInt P f = true) : P.underlying f.type = some (.int .i64) := by
  unfold pgInt at h; split at h <;> simp_all

section
variable {H : Type} {enc : TypeId × Value → H} {P : Program} {w : World} {base : Nat} {spare : Nat → Bool} {held : Bool}

theorem pg_int {t : TypeId} (ht : P.underlying t = some (.int .i64)) {n : Int} (hn : (Lit.int .i64 n).wf = true) (m : Nat) : DataW.trod enc P w base spare held (m + 1) t [.int .i64 n] = some (.lit (.int .i64 n), []) := by simp [DataW.trod, ht, hn]
theorem pg_str {t : TypeId} (ht : P.underlying t = some .string) {s : ByteArray} (hs : s.size ≤ maxLen) (m : Nat) : DataW.trod enc P w base spare held (m + 1) t [.string s] = some (.lit (.string s.data.toList), []) := by simp [DataW.trod, ht, hs]

theorem open_page {r : Reach} {b0 : Nat} {t : TypeId} {v : Value} {d : DataW H} {p : List MemPlace} (hB : pgB P t = true) (hv : Value.okWide P w r b0 t v) (h : DataW.Trod enc P w base spare held t v d p) :
    ∃ (k s : Int) (a : ByteArray), v = .agg #[.int .i64 k, .int .i64 s, .string a] ∧ p = [] ∧ a.size ≤ maxLen ∧
      ∀ (w' : World) (base' : Nat) (spare' : Nat → Bool) (held' : Bool), DataW.Trod enc P w' base' spare' held' t v d [] := by
  unfold pgB at hB
  simp only [Bool.and_eq_true, beq_iff_eq] at hB
  obtain ⟨hC, hB⟩ := hB
  split at hB
  · rename_i fs hs
    simp only [Bool.and_eq_true] at hB
    obtain ⟨hone, hB⟩ := hB
    split at hB
    · rename_i f0 f1 f2 hf
      simp only [Bool.and_eq_true] at hB
      obtain ⟨⟨i0, i1⟩, s3⟩ := hB
      obtain ⟨l⟩ := fs
      simp at hf
      subst hf
      obtain ⟨cs, rfl, hsz⟩ := okWide_struct hs hv
      obtain ⟨cl⟩ := cs
      rw [hC] at hsz
      match cl, hsz with
      | [c0, c1, c2], _ =>
        obtain ⟨fuel, hf⟩ := h
        obtain ⟨xs, n, _, hx, _, hlen, hg⟩ := DataW.trod_struct hs hf
        obtain ⟨o0, k0⟩ := hone_of hone 0 f0 rfl
        obtain ⟨o1, k1⟩ := hone_of hone 1 f1 rfl
        obtain ⟨o2, k2⟩ := hone_of hone 2 f2 rfl
        match xs, hlen with
        | [y0, y1, y2], _ =>
          have g0 : DataW.trod enc P w base spare held n f0.type [c0] = some y0 := by simpa [Value.cells, o0, k0] using hg 0 f0 rfl
          have g1 : DataW.trod enc P w base spare held n f1.type [c1] = some y1 := by simpa [Value.cells, o1, k1] using hg 1 f1 rfl
          have g2 : DataW.trod enc P w base spare held n f2.type [c2] = some y2 := by simpa [Value.cells, o2, k2] using hg 2 f2 rfl
          obtain ⟨k, e0, rfl, w0⟩ := DataW.trod_int (pgInt_of i0) g0
          obtain ⟨s, e1, rfl, w1⟩ := DataW.trod_int (pgInt_of i1) g1
          obtain ⟨a, e2, rfl, w2⟩ := DataW.trod_string (pgStr_of s3) g2
          simp only [List.cons.injEq, and_true] at e0 e1 e2
          subst e0 e1 e2
          simp only [Prod.mk.injEq, List.map_cons, List.map_nil, List.flatMap_cons, List.flatMap_nil, List.append_nil] at hx
          obtain ⟨rfl, rfl⟩ := hx
          refine ⟨k, s, a, rfl, rfl, w2, fun w' base' spare' held' => ⟨2, ?_⟩⟩
          have := trod_struct_mk (enc := enc) (w := w') (base := base') (spare := spare') (held := held') (n := 1) (cs := [.int .i64 k, .int .i64 s, .string a])
            (xs := [(.lit (.int .i64 k), []), (.lit (.int .i64 s), []), (.lit (.string a.data.toList), [])]) hs (by simp [hC])
            (by simp [o0, o1, o2, k0, k1, k2, pg_int (pgInt_of i0) w0 0, pg_int (pgInt_of i1) w1 0, pg_str (pgStr_of s3) w2 0])
          simpa [Value.cells] using this
    · cases hB
  · cases hB
end
end Go.Ev
