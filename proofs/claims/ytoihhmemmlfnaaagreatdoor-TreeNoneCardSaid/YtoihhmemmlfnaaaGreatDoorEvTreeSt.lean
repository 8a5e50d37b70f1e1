/-
  The states of TreeNone behind Begin(30), as the evaluator has them, and what it tells of the pager's calls there.
-/
import Derived.Test.YtoihhmemmlfnaaaGreatDoorEvHyb
import Derived.Test.YtoihhmemmlfnaaaGreatDoorEvTreeMemo
namespace Go.Ev
open Go.Proofs Go.RowKit Go.Proofs.YtoihhmemmlfnaaaGreatDoor

noncomputable def F0 : Fns := fns (prims K0 [] []) 100000
theorem hS0 : Sound 100000 F0 := soundAll aloneNil memosNil 100000
noncomputable def F1 : Fns := fns (prims K0 [] msTree) 100000
theorem hS1 : Sound 100000 F1 := soundAll aloneNil memosTree 100000

/-- The state behind a call. -/
noncomputable def stA (o : Option (AV × St)) : St := match o with | some p => p.2 | none => ⟨.nil, 0⟩
theorem val_st {o : Option (AV × St)} {v : AV} (h : valB o v = true) : o = some (v, stA o) := by
  unfold valB at h
  split at h
  · rw [← eqAV_of _ _ _ h]; rfl
  · cases h

/-- A state that stands for the world, its pager's block q. -/
def At34 (B : World) (Fm : Nat → Option Obj) (q : Nat) (s : St) (w : World) : Prop := ∃ σ D, Good B Fm σ D s w ∧ (σ 34).b = q ∧ D 34

section
variable {B : World} {Fm : Nat → Option Obj} {q : Nat} {s : St} {w : World}

theorem At34.grow {w' : World} (a : At34 B Fm q s w) (hb : Below w.heap.size w w') : At34 B Fm q s w' := by
  obtain ⟨σ, D, g, h1, h2⟩ := a
  exact ⟨σ, D, g.below_grow hb (fun _ _ h => .inl h) (fun b ⟨o, h3, h4⟩ => (g.heap b o h3 h4).1), h1, h2⟩

theorem At34.drew (a : At34 B Fm q s w) : At34 B Fm q s w.drew := by
  obtain ⟨σ, D, g, h⟩ := a
  exact ⟨σ, D, drew_good g, h⟩

/-- A new block of which the state knows nothing stays. -/
theorem At34.keep (a : At34 B Fm q s w) (o : Obj) : At34 B (fun i => if i = w.heap.size then some o else Fm i) q s (w.alloc o) := by
  obtain ⟨σ, D, g, h1, h2⟩ := a
  refine ⟨σ, D, g.below_grow ((Below.refl _ _).alloc (Nat.le_refl _) o) (fun i o' h => ?_) (fun b ⟨o, h3, h4⟩ => (g.heap b o h3 h4).1), h1, h2⟩
  by_cases hi : i = w.heap.size
  · rw [if_pos hi] at h
    cases h
    subst hi
    exact .inr ⟨Nat.le_refl _, by show (w.heap.push o)[w.heap.size]? = some o; simp⟩
  · rw [if_neg hi] at h
    exact .inl h

theorem At34.frame (a : At34 B Fm q s w) {i : Nat} {o : Obj} (h : Fm i = some o) : w.heap[i]? = some o := by
  obtain ⟨σ, D, g, _⟩ := a
  exact g.frame i o h

theorem At34.less {Fm' : Nat → Option Obj} (a : At34 B Fm' q s w) (h : ∀ i o, Fm i = some o → Fm' i = some o) : At34 B Fm q s w := by
  obtain ⟨σ, D, g, h1, h2⟩ := a
  exact ⟨σ, D, g.below_grow (Below.refl _ _) (fun i o hi => .inl (h i o hi)) (fun b ⟨o, h3, h4⟩ => (g.heap b o h3 h4).1), h1, h2⟩

theorem At34.kept (a : At34 B (fun i => B.heap[i]?) q s w) : Below B.heap.size B w := by
  obtain ⟨σ, D, g, _⟩ := a
  exact Kept.belowK ⟨g.os, g.tape, g.output, fun i o hi => g.frame i o hi⟩

theorem at_call {f : FuncId} {r : List AV} {v : AV} (h : valB (F0.call f (.ptr 34 0 :: r) s) v = true) (hr : OnL (fun _ => False) r) (hv : On (fun _ => False) v) (a : At34 B Fm q s w) :
    Calls Tryz.prog f (.pointer (some ⟨q, 0, none⟩) :: concL (fun _ => ⟨0, 0⟩) r).toArray w fun e w' => e = .returned (conc (fun _ => ⟨0, 0⟩) v) ∧ At34 B Fm q (stA (F0.call f (.ptr 34 0 :: r) s)) w' := by
  obtain ⟨σ, D, g, h1, h2⟩ := a
  have hc := ev_call hS0 (val_st h) g (args := .ptr 34 0 :: r) ⟨h2, onL_mono (fun _ k => k.elim) r hr⟩
  have e1 : concL σ (.ptr 34 0 :: r) = .pointer (some ⟨q, 0, none⟩) :: concL (fun _ => ⟨0, 0⟩) r := by
    rw [← h1]
    simp only [concL, conc]
    rw [concL_congr (fun b hb => hb.elim) r hr]
  rw [e1] at hc
  refine hc.mono ?_
  rintro e w' ⟨σ', D', rfl, g', x, _⟩
  refine ⟨?_, σ', D', g', ?_, x.sub 34 h2⟩
  · rw [conc_congr (D := fun _ => False) (fun b hb => hb.elim) v hv]
  · rw [x.same 34 h2]; exact h1

/-- A map that the pager has in a cell: taking a key out of it. -/
theorem at_delete {i m : Nat} {T ty : TypeId} {ts : List TypeId} {k : AV} {s' : St} (a : At34 B Fm q s w) (hr : (oB (s.row 34) fun r => nth r.c i) = some (.mp m)) (hk : On (fun _ => False) k) (hd : deleteA s T (.mp m) k = some s') :
    ∃ b w', w.cell? ⟨q, i, none⟩ = some (.map (some b)) ∧ (Builtin.delete_ (T :: ts).toArray ty #[.map (some b), conc (fun _ => ⟨0, 0⟩) k]).run Tryz.prog w = .ok (.tuple #[]) w' ∧ At34 B Fm q s' w' := by
  obtain ⟨σ, D, g, h1, h2⟩ := a
  have ⟨r, hrow, hn⟩ := oB_of hr
  rw [nth_eq] at hn
  have hc := (g.cell hrow hn).1
  rw [h1] at hc
  obtain ⟨w', k1, k2⟩ := deleteA_of (ty := ty) (ts := ts) g hd
  rw [pp_eq] at k1
  refine ⟨(σ m).b, w', hc, ?_, σ, D, k2, h1, h2⟩
  rw [conc_congr (σ := fun _ => ⟨0, 0⟩) (σ' := σ) (D := fun _ => False) (fun b hb => hb.elim) k hk] at k1
  exact k1

/-- .. and putting one into it. -/
theorem at_update {i m : Nat} {T : TypeId} {k v : AV} {s' : St} (a : At34 B Fm q s w) (hr : (oB (s.row 34) fun r => nth r.c i) = some (.mp m)) (hk : On (fun _ => False) k) (hv : On (fun _ => False) v) (hd : mapUpdateA s T (.mp m) k v = some s') :
    ∃ b w', w.cell? ⟨q, i, none⟩ = some (.map (some b)) ∧ (Instr.mapUpdate T (.map (some b)) (conc (fun _ => ⟨0, 0⟩) k) (conc (fun _ => ⟨0, 0⟩) v)).run Tryz.prog w = .ok () w' ∧ At34 B Fm q s' w' := by
  obtain ⟨σ, D, g, h1, h2⟩ := a
  have ⟨r, hrow, hn⟩ := oB_of hr
  rw [nth_eq] at hn
  have hc := (g.cell hrow hn).1
  rw [h1] at hc
  obtain ⟨w', k1, k2⟩ := mapUpdateA_of g hd (on_mono (fun _ h => h.elim) k hk) (on_mono (fun _ h => h.elim) v hv)
  rw [pp_eq] at k1
  refine ⟨(σ m).b, w', hc, ?_, σ, D, k2, h1, h2⟩
  rw [conc_congr (σ := fun _ => ⟨0, 0⟩) (σ' := σ) (D := fun _ => False) (fun b hb => hb.elim) k hk, conc_congr (σ := fun _ => ⟨0, 0⟩) (σ' := σ) (D := fun _ => False) (fun b hb => hb.elim) v hv] at k1
  exact k1
end
end Go.Ev

namespace Go.Ev
open Go.Proofs Go.RowKit Go.Proofs.YtoihhmemmlfnaaaGreatDoor

/-- Behind Begin(30); behind none, next, take; with the page. -/
noncomputable def S1 : St := ⟨fillT mTree_0.post .nil, mTree_0.nx'⟩
noncomputable def S2 : St := stA (F0.call 30 [.ptr 34 0] S1)
noncomputable def S3 : St := stA (F0.call 32 [.ptr 34 0] S2)
noncomputable def S4 : St := stA (F0.call 33 [.ptr 34 0] S3)
noncomputable def S5 (x : AV) : St := (mapUpdateA S4 83 (.mp 35) (.int .i64 (.ofNat 3)) x).getD S4

theorem none_val : valB (F0.call 30 [.ptr 34 0] S1) (.bool false) = true := by kernel_rfl
theorem next_val : valB (F0.call 32 [.ptr 34 0] S2) (.int .i64 (.ofNat 3)) = true := by kernel_rfl
theorem take_val : valB (F0.call 33 [.ptr 34 0] S3) (.tup [.int .i64 (.ofNat 3), .int .i64 (.ofNat 0)]) = true := by kernel_rfl
theorem was_row : (oB (S4.row 34) fun r => nth r.c 7) = some (.mp 37) := by kernel_rfl
theorem made_row : (oB (S4.row 34) fun r => nth r.c 5) = some (.mp 35) := by kernel_rfl
theorem was_del : deleteA S4 70 (.mp 37) (.int .i64 (.ofNat 3)) = some S4 := by kernel_rfl
theorem made_upd (x : AV) : mapUpdateA S4 83 (.mp 35) (.int .i64 (.ofNat 3)) x = some (S5 x) := by kernel_rfl

section
variable {B : World} {Fm : Nat → Option Obj} {q : Nat} {w : World}
theorem at_none (a : At34 B Fm q S1 w) : Calls Tryz.prog 30 #[.pointer (some ⟨q, 0, none⟩)] w fun e w' => e = .returned (.bool false) ∧ At34 B Fm q S2 w' := by have h := at_call none_val (hr := trivial) (hv := trivial) a; exact h
theorem at_next (a : At34 B Fm q S2 w) : Calls Tryz.prog 32 #[.pointer (some ⟨q, 0, none⟩)] w fun e w' => e = .returned (.int .i64 3) ∧ At34 B Fm q S3 w' := by have h := at_call next_val (hr := trivial) (hv := trivial) a; exact h
theorem at_take (a : At34 B Fm q S3 w) : Calls Tryz.prog 33 #[.pointer (some ⟨q, 0, none⟩)] w fun e w' => e = .returned (.tuple #[.int .i64 3, .int .i64 0]) ∧ At34 B Fm q S4 w' := by have h := at_call take_val (hr := trivial) (hv := ⟨trivial, trivial, trivial⟩) a; exact h
end
end Go.Ev
