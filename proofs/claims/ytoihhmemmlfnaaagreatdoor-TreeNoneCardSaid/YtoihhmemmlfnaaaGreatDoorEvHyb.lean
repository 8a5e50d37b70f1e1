/-
  Between the walk and the evaluator: a call that is evaluated from a state that stands for the world at hand; the state goes on to stand for the world when new blocks come.
-/
import Derived.Test.YtoihhmemmlfnaaaGreatDoorEvPrimOk
import Derived.Test.YtoihhmemmlfnaaaGreatDoorEvBase
namespace Go.Ev
open Go.Proofs Go.RowKit

theorem Kept.belowK {w w' : World} (h : Kept w w') : Below w.heap.size w w' :=
  ⟨h.os, h.tape, h.output, h.size, fun k hk => by
    have h1 : w.heap[k]? = some w.heap[k] := by simp [hk]
    rw [h1, h.heap _ _ h1]⟩

noncomputable def valB (o : Option (AV × St)) (v : AV) : Bool :=
  match o with
  | some p => eqAV 20 p.1 v
  | none => false

/-- What a call comes to that is evaluated from nothing, at arguments that name no block, where the value names none. -/
theorem closed_val {k : Nat} {F : Fns} (hS : Sound k F) {f : FuncId} {args : List AV} {v : AV} (h : valB (F.call f args ⟨.nil, 0⟩) v = true) (ho : OnL (fun _ => False) args) (hv : On (fun _ => False) v) (w : World) :
    Calls Tryz.prog f (concL (fun _ => ⟨0, 0⟩) args).toArray w (Gives0 (conc (fun _ => ⟨0, 0⟩) v) w) := by
  rw [← pp_eq]
  refine (callsIn_wide (n := 0)).1 ?_
  unfold valB at h
  split at h
  · rename_i p hs
    have h := eqAV_of _ _ _ h
    subst h
    refine (hS.call hs (good_frame w) ho).mono fun e w' he => ?_
    obtain ⟨σ', D', rfl, g, x, _⟩ := he
    refine ⟨?_, Kept.belowK ⟨g.os, g.tape, g.output, fun i o hi => g.frame i o hi⟩⟩
    rw [conc_congr (D := fun _ => False) (fun b hb => hb.elim) _ hv]
  · cases h

theorem closed_true {k : Nat} {F : Fns} (hS : Sound k F) {f : FuncId} (h : okB (F.call f [] ⟨.nil, 0⟩) = true) (w : World) : Calls Tryz.prog f #[] w (TrueB w) := by
  rw [← pp_eq]
  refine (callsIn_wide (n := 0)).1 ?_
  have := closed_call hS h (by simp [OnL]) w
  simp only [concL] at this
  exact this.mono fun e w' ⟨h1, h2⟩ => ⟨h1, h2.belowK⟩
end Go.Ev

namespace Go.Ev
open Go.Proofs Go.RowKit

/-- New blocks: the state stands for the world still; one frame more: whatever lies beyond the old blocks stays, too. -/
theorem Good.below_grow {B : World} {F F' : Nat → Option Obj} {σ : Sig} {D : Nat → Prop} {s : St} {w w' : World} (g : Good B F σ D s w) (hb : Below w.heap.size w w')
    (hF : ∀ i o, F' i = some o → F i = some o ∨ (w.heap.size ≤ i ∧ w'.heap[i]? = some o)) (hD : ∀ b, alive s b → D b) : Good B F' σ D s w' where
  os := hb.os.trans g.os
  tape := hb.tape.trans g.tape
  output := hb.output.trans g.output
  most := Nat.le_trans g.most hb.size
  lim := g.lim
  below := g.below
  heap := fun b o h h' => by
    obtain ⟨h1, ob, h2, h3⟩ := g.heap b o h h'
    exact ⟨h1, ob, (hb.block _ (g.size b h1)).trans h2, h3⟩
  inj := g.inj
  size := fun b h => Nat.lt_of_lt_of_le (g.size b h) hb.size
  frame := fun i o h => by
    rcases hF i o h with h1 | ⟨_, h1⟩
    · have h2 := g.frame i o h1
      have hi : i < w.heap.size := (Array.getElem?_eq_some_iff.1 h2).1
      exact (hb.block i hi).trans h2
    · exact h1
  apart := fun b h => by
    have h0 := g.apart b h
    cases hq : F' (σ b).b with
    | none => rfl
    | some o =>
      rcases hF _ _ hq with h1 | ⟨h1, _⟩
      · rw [h0] at h1; cases h1
      · have := g.size b (hD b h); omega

/-- A call that is evaluated from the state at hand. -/
theorem ev_call {k : Nat} {F : Fns} (hS : Sound k F) {B : World} {Fm : Nat → Option Obj} {σ : Sig} {D : Nat → Prop} {f : FuncId} {args : List AV} {p : AV × St} {s : St} {w : World} (h : F.call f args s = some p) (g : Good B Fm σ D s w) (ho : OnL D args) :
    Calls Tryz.prog f (concL σ args).toArray w (Ret B Fm σ D p) := by
  rw [← pp_eq]
  exact (callsIn_wide (n := 0)).1 (hS.call h g ho)
end Go.Ev
