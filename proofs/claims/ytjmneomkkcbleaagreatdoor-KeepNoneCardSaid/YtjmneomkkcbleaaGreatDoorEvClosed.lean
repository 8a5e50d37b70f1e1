/-
  Closed calls that come to a value without blocks, in the kit's own words.
-/
import Derived.Test.YtjmneomkkcbleaaGreatDoorEvPrimOk
import Derived.Test.YtjmneomkkcbleaaGreatDoorEvKvWalk
namespace Go.Ev
open Go.Proofs Go.RowKit

theorem Kept.belowK {w w' : World} (h : Kept w w') : Below w.heap.size w w' :=
  ⟨h.os, h.tape, h.output, h.size, fun k hk => by
    have h1 : w.heap[k]? = some w.heap[k] := by simp [hk]
    rw [h1, h.heap _ _ h1]⟩

noncomputable def valB (o : Option (AV × St)) (v : AV) : Bool :=
  match o with
  | some p => eqAV 20 p.1 v
  | none => false

/-- What a call comes to that is evaluated from nothing, at arguments that name no block, where the value names none. -/
theorem closed_val {k : Nat} {F : Fns} (hS : Sound k F) {f : FuncId} {args : List AV} {v : AV} (h : valB (F.call f args ⟨.nil, 0⟩) v = true) (ho : OnL (fun _ => False) args) (hv : On (fun _ => False) v) (w : World) :
    Calls Tryz.prog f (concL (fun _ => ⟨0, 0⟩) args).toArray w (Gives0 (conc (fun _ => ⟨0, 0⟩) v) w) := by
  rw [← pp_eq]
  refine (callsIn_wide (n := 0)).1 ?_
  unfold valB at h
  split at h
  · rename_i p hs
    have h := eqAV_of _ _ _ h
    subst h
    refine (hS.call hs (good_frame w) ho).mono fun e w' he => ?_
    obtain ⟨σ', D', rfl, g, x, _⟩ := he
    refine ⟨?_, Kept.belowK ⟨g.os, g.tape, g.output, fun i o hi => g.frame i o hi⟩⟩
    rw [conc_congr (D := fun _ => False) (fun b hb => hb.elim) _ hv]
  · cases h

theorem closed_true {k : Nat} {F : Fns} (hS : Sound k F) {f : FuncId} (h : okB (F.call f [] ⟨.nil, 0⟩) = true) (w : World) : Calls Tryz.prog f #[] w (TrueB w) := by
  rw [← pp_eq]
  refine (callsIn_wide (n := 0)).1 ?_
  have := closed_call hS h (by simp [OnL]) w
  simp only [concL] at this
  exact this.mono fun e w' ⟨h1, h2⟩ => ⟨h1, h2.belowK⟩
end Go.Ev
