/-
  Between the walk and the evaluator: a call that is evaluated from a state that stands for the world at hand; the state goes on to stand for the world when new blocks come.
-/
import Derived.Test.YtdopajkecfomdaaGreatDoorProg
import Derived.WalkKit
import Derived.Outline
import Derived.Lib.Hide
import Derived.Deep.RegionHeld3
import Derived.Test.YtdopajkecfomdaaGreatDoorEvPrimOk
namespace Go.Ev
open Go.Proofs Go.RowKit

def TrueB (w : World) (e : Ending) (w' : World) : Prop := e = .returned (.bool true) ∧ Below w.heap.size w w'
def Gives0 (v : Value) (w : World) (e : Ending) (w' : World) : Prop := e = .returned v ∧ Below w.heap.size w w'

theorem bel_then {w a c : World} (h : Below w.heap.size w a) (k : Below a.heap.size a c) : Below w.heap.size w c := h.trans (k.mono h.size)
theorem bel_alloc {w a : World} (h : Below w.heap.size w a) (o : Obj) : Below w.heap.size w (a.alloc o) := h.alloc h.size o

theorem bcell {W w1 : World} (hb : Below W.heap.size W w1) : (∀ b o, b < W.heap.size → w1.cell? ⟨b, o, none⟩ = W.cell? ⟨b, o, none⟩) ∧ (∀ b o, b < W.heap.size → w1.frozen? ⟨b, o, none⟩ = W.frozen? ⟨b, o, none⟩) :=
  ⟨fun b o h => hb.cell (p := ⟨b, o, none⟩) h, fun b o h => hb.frozen (p := ⟨b, o, none⟩) h⟩
theorem range_alloc (w : World) (cs : Array Value) (T : TypeId) : (w.alloc (.cells cs T)).rangeAt w.heap.size 0 cs.toList := by
  intro j v hj
  rw [World.cell?_alloc_at _ _ _ _ rfl, Nat.zero_add]
  simpa using hj
theorem range_below {W W' : World} {b : Nat} {cs : List Value} (h : W.rangeAt b 0 cs) (hb : Below W.heap.size W W') (hlt : b < W.heap.size) : W'.rangeAt b 0 cs :=
  fun j v hj => ((bcell hb).1 _ _ hlt).trans (h j v hj)
theorem range_past {W : World} {b : Nat} {cs : List Value} (h : W.rangeAt b 0 cs) (hlt : b < W.heap.size) (o : Obj) : (W.alloc o).rangeAt b 0 cs :=
  fun j v hj => (World.cell?_alloc_past _ _ _ hlt).trans (h j v hj)

/-- A row of that many cells. -/
def rowB0 (P : Program) (t : TypeId) (n : Nat) : Bool := (match P.underlying t with | some d => d.isRow | none => false) && ((P.info? t).map (·.size) == some n)
theorem load_at_row {P : Program} {w : World} {t : TypeId} {b : Nat} (vs : Array Value) (hB : rowB0 P t vs.size = true) (h : w.rangeAt b 0 vs.toList) : (Instr.loadAt t (.pointer (some ⟨b, 0, none⟩))).run P w = .ok (.agg vs) w := by
  unfold rowB0 at hB
  simp only [Bool.and_eq_true, beq_iff_eq] at hB
  obtain ⟨h1, h2⟩ := hB
  split at h1
  · rename_i d hd
    have := run_loadAt_mid w b 0 t vs.toList d h hd h1 (by simpa using h2)
    simpa using this
  · cases h1
end Go.Ev

namespace Go.Ev
open Go.Proofs Go.RowKit

theorem Kept.belowK {w w' : World} (h : Kept w w') : Below w.heap.size w w' :=
  ⟨h.os, h.tape, h.output, h.size, fun k hk => by
    have h1 : w.heap[k]? = some w.heap[k] := by simp [hk]
    rw [h1, h.heap _ _ h1]⟩

noncomputable def valB (o : Option (AV × St)) (v : AV) : Bool :=
  match o with
  | some p => eqAV 20 p.1 v
  | none => false

/-- What a call comes to that is evaluated from nothing, at arguments that name no block, where the value names none. -/
theorem closed_val {k : Nat} {F : Fns} (hS : Sound k F) {f : FuncId} {args : List AV} {v : AV} (h : valB (F.call f args ⟨.nil, 0⟩) v = true) (ho : OnL (fun _ => False) args) (hv : On (fun _ => False) v) (w : World) :
    Calls Tryz.prog f (concL (fun _ => ⟨0, 0⟩) args).toArray w (Gives0 (conc (fun _ => ⟨0, 0⟩) v) w) := by
  rw [← pp_eq]
  refine (callsIn_wide (n := 0)).1 ?_
  unfold valB at h
  split at h
  · rename_i p hs
    have h := eqAV_of _ _ _ h
    subst h
    refine (hS.call hs (good_frame w) ho).mono fun e w' he => ?_
    obtain ⟨σ', D', rfl, g, x, _⟩ := he
    refine ⟨?_, Kept.belowK ⟨g.os, g.tape, g.output, fun i o hi => g.frame i o hi⟩⟩
    rw [conc_congr (D := fun _ => False) (fun b hb => hb.elim) _ hv]
  · cases h

theorem closed_true {k : Nat} {F : Fns} (hS : Sound k F) {f : FuncId} (h : okB (F.call f [] ⟨.nil, 0⟩) = true) (w : World) : Calls Tryz.prog f #[] w (TrueB w) := by
  rw [← pp_eq]
  refine (callsIn_wide (n := 0)).1 ?_
  have := closed_call hS h (by simp [OnL]) w
  simp only [concL] at this
  exact this.mono fun e w' ⟨h1, h2⟩ => ⟨h1, h2.belowK⟩
end Go.Ev

namespace Go.Ev
open Go.Proofs Go.RowKit

/-- New blocks: the state stands for the world still; one frame more: whatever lies beyond the old blocks stays, too. -/
theorem Good.below_grow {B : World} {F F' : Nat → Option Obj} {σ : Sig} {D : Nat → Prop} {s : St} {w w' : World} (g : Good B F σ D s w) (hb : Below w.heap.size w w')
    (hF : ∀ i o, F' i = some o → F i = some o ∨ (w.heap.size ≤ i ∧ w'.heap[i]? = some o)) (hD : ∀ b, alive s b → D b) : Good B F' σ D s w' where
  os := hb.os.trans g.os
  tape := hb.tape.trans g.tape
  output := hb.output.trans g.output
  most := Nat.le_trans g.most hb.size
  lim := g.lim
  below := g.below
  heap := fun b o h h' => by
    obtain ⟨h1, ob, h2, h3⟩ := g.heap b o h h'
    exact ⟨h1, ob, (hb.block _ (g.size b h1)).trans h2, h3⟩
  inj := g.inj
  size := fun b h => Nat.lt_of_lt_of_le (g.size b h) hb.size
  frame := fun i o h => by
    rcases hF i o h with h1 | ⟨_, h1⟩
    · have h2 := g.frame i o h1
      have hi : i < w.heap.size := (Array.getElem?_eq_some_iff.1 h2).1
      exact (hb.block i hi).trans h2
    · exact h1
  apart := fun b h => by
    have h0 := g.apart b h
    cases hq : F' (σ b).b with
    | none => rfl
    | some o =>
      rcases hF _ _ hq with h1 | ⟨h1, _⟩
      · rw [h0] at h1; cases h1
      · have := g.size b (hD b h); omega

/-- A call that is evaluated from the state at hand. -/
theorem ev_call {k : Nat} {F : Fns} (hS : Sound k F) {B : World} {Fm : Nat → Option Obj} {σ : Sig} {D : Nat → Prop} {f : FuncId} {args : List AV} {p : AV × St} {s : St} {w : World} (h : F.call f args s = some p) (g : Good B Fm σ D s w) (ho : OnL D args) :
    Calls Tryz.prog f (concL σ args).toArray w (Ret B Fm σ D p) := by
  rw [← pp_eq]
  exact (callsIn_wide (n := 0)).1 (hS.call h g ho)
end Go.Ev
