/-
  Words that the walks share: what a call comes to that leaves all that was there.
-/
import Derived.Test.YtoihhmemmlfnaaaGreatDoorProg
import Derived.WalkKit
import Derived.Outline
import Derived.Lib.Hide
import Derived.Deep.RegionHeld3
namespace Go.Ev
open Go.Proofs Go.RowKit

def TrueB (w : World) (e : Ending) (w' : World) : Prop := e = .returned (.bool true) ∧ Below w.heap.size w w'
def Gives0 (v : Value) (w : World) (e : Ending) (w' : World) : Prop := e = .returned v ∧ Below w.heap.size w w'

theorem bel_then {w a c : World} (h : Below w.heap.size w a) (k : Below a.heap.size a c) : Below w.heap.size w c := h.trans (k.mono h.size)
theorem bel_alloc {w a : World} (h : Below w.heap.size w a) (o : Obj) : Below w.heap.size w (a.alloc o) := h.alloc h.size o

theorem bcell {W w1 : World} (hb : Below W.heap.size W w1) : (∀ b o, b < W.heap.size → w1.cell? ⟨b, o, none⟩ = W.cell? ⟨b, o, none⟩) ∧ (∀ b o, b < W.heap.size → w1.frozen? ⟨b, o, none⟩ = W.frozen? ⟨b, o, none⟩) :=
  ⟨fun b o h => hb.cell (p := ⟨b, o, none⟩) h, fun b o h => hb.frozen (p := ⟨b, o, none⟩) h⟩
theorem range_alloc (w : World) (cs : Array Value) (T : TypeId) : (w.alloc (.cells cs T)).rangeAt w.heap.size 0 cs.toList := by
  intro j v hj
  rw [World.cell?_alloc_at _ _ _ _ rfl, Nat.zero_add]
  simpa using hj
theorem range_below {W W' : World} {b : Nat} {cs : List Value} (h : W.rangeAt b 0 cs) (hb : Below W.heap.size W W') (hlt : b < W.heap.size) : W'.rangeAt b 0 cs :=
  fun j v hj => ((bcell hb).1 _ _ hlt).trans (h j v hj)
theorem range_past {W : World} {b : Nat} {cs : List Value} (h : W.rangeAt b 0 cs) (hlt : b < W.heap.size) (o : Obj) : (W.alloc o).rangeAt b 0 cs :=
  fun j v hj => (World.cell?_alloc_past _ _ _ hlt).trans (h j v hj)

/-- A row of that many cells. -/
def rowB0 (P : Program) (t : TypeId) (n : Nat) : Bool := (match P.underlying t with | some d => d.isRow | none => false) && ((P.info? t).map (·.size) == some n)
theorem load_at_row {P : Program} {w : World} {t : TypeId} {b : Nat} (vs : Array Value) (hB : rowB0 P t vs.size = true) (h : w.rangeAt b 0 vs.toList) : (Instr.loadAt t (.pointer (some ⟨b, 0, none⟩))).run P w = .ok (.agg vs) w := by
  unfold rowB0 at hB
  simp only [Bool.and_eq_true, beq_iff_eq] at hB
  obtain ⟨h1, h2⟩ := hB
  split at h1
  · rename_i d hd
    have := run_loadAt_mid w b 0 t vs.toList d h hd h1 (by simpa using h2)
    simpa using this
  · cases h1
end Go.Ev
