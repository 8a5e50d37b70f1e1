/-
  What the evaluator's values and memory stand for.
-/
import Derived.Test.YthfdbfbfldmmaaaGreatDoorMEvT
import Derived.Below
set_option linter.unusedVariables false
set_option linter.unusedSimpArgs false
set_option linter.unusedVariables false
set_option linter.unusedSimpArgs false
namespace Go.Ev
open Go.RowKit (Below)
structure At where
  b : Nat
  n : Nat
abbrev Sig := Nat → At
def capOf (σ : Sig) (b o e : Nat) : Nat := ((σ b).n - o) / e
mutual
def conc (σ : Sig) : AV → Value
  | .bool b => .bool b
  | .int k n => .int k n
  | .str s => .string ⟨s.toArray⟩
  | .nilp => .pointer none
  | .ptr b o => .pointer (some ⟨(σ b).b, o, none⟩)
  | .nils => .slice none 0 0
  | .sl b o l (.known c) => .slice (some ⟨(σ b).b, o, none⟩) l c
  | .sl b o l (.op e) => .slice (some ⟨(σ b).b, o, none⟩) l (capOf σ b o e)
  | .esl b o l e => .slice (some ⟨(σ b).b, if capOf σ b o e = l then o else o + l * e, none⟩) 0 (capOf σ b o e - l)
  | .nilm => .map none
  | .mp b => .map (some (σ b).b)
  | .nilc => .chan none
  | .ch b => .chan (some (σ b).b)
  | .nilf => .nilFunc
  | .fn f a b => .func (.func f) (concL σ a).toArray (concL σ b).toArray
  | .yield b => .func (.yield (σ b).b) #[] #[]
  | .nili => .nilIface
  | .ifc t v => .iface t (conc σ v)
  | .agg l => .agg (concL σ l).toArray
  | .tup l => .tuple (concL σ l).toArray
def concL (σ : Sig) : List AV → List Value
  | [] => []
  | a :: l => conc σ a :: concL σ l
end
theorem concL_eq (σ : Sig) (l : List AV) : concL σ l = l.map (conc σ) := by
  induction l with
  | nil => simp [concL]
  | cons a l ih => simp [concL, ih]
mutual
def On (D : Nat → Prop) : AV → Prop
  | .ptr b _ => D b
  | .sl b _ _ _ => D b
  | .esl b _ _ _ => D b
  | .mp b => D b
  | .ch b => D b
  | .fn _ a b => OnL D a ∧ OnL D b
  | .yield b => D b
  | .ifc _ v => On D v
  | .agg l => OnL D l
  | .tup l => OnL D l
  | _ => True
def OnL (D : Nat → Prop) : List AV → Prop
  | [] => True
  | a :: l => On D a ∧ OnL D l
end
theorem onL_iff (D : Nat → Prop) (l : List AV) : OnL D l ↔ ∀ v ∈ l, On D v := by
  induction l with
  | nil => simp [OnL]
  | cons a l ih => simp [OnL, ih]
mutual
theorem on_mono {D D' : Nat → Prop} (h : ∀ b, D b → D' b) : ∀ v, On D v → On D' v
  | .bool _, _ | .int _ _, _ | .str _, _ | .nilp, _ | .nils, _ | .nilm, _ | .nilc, _ | .nilf, _ | .nili, _ => by simp [On]
  | .ptr _ _, k | .sl _ _ _ _, k | .esl _ _ _ _, k | .mp _, k | .ch _, k | .yield _, k => by simp only [On] at *; exact h _ k
  | .fn _ a b, k => by simp only [On] at *; exact ⟨onL_mono h a k.1, onL_mono h b k.2⟩
  | .ifc _ v, k => by simp only [On] at *; exact on_mono h v k
  | .agg l, k | .tup l, k => by simp only [On] at *; exact onL_mono h l k
theorem onL_mono {D D' : Nat → Prop} (h : ∀ b, D b → D' b) : ∀ l, OnL D l → OnL D' l
  | [], _ => by simp [OnL]
  | a :: l, k => by simp only [OnL] at *; exact ⟨on_mono h a k.1, onL_mono h l k.2⟩
end
mutual
theorem conc_congr {σ σ' : Sig} {D : Nat → Prop} (h : ∀ b, D b → σ' b = σ b) : ∀ v, On D v → conc σ' v = conc σ v
  | .bool _, _ | .int _ _, _ | .str _, _ | .nilp, _ | .nils, _ | .nilm, _ | .nilc, _ | .nilf, _ | .nili, _ => by simp [conc]
  | .ptr b _, k | .mp b, k | .ch b, k | .yield b, k => by simp only [On] at k; simp only [conc, h b k]
  | .sl b _ _ (.known _), k => by simp only [On] at k; simp only [conc, h b k]
  | .sl b _ _ (.op _), k => by simp only [On] at k; simp only [conc, capOf, h b k]
  | .esl b _ _ _, k => by simp only [On] at k; unfold conc capOf; rw [h b k]
  | .fn _ a b, k => by simp only [On] at k; simp only [conc, concL_congr h a k.1, concL_congr h b k.2]
  | .ifc _ v, k => by simp only [On] at k; simp only [conc, conc_congr h v k]
  | .agg l, k | .tup l, k => by simp only [On] at k; simp only [conc, concL_congr h l k]
theorem concL_congr {σ σ' : Sig} {D : Nat → Prop} (h : ∀ b, D b → σ' b = σ b) : ∀ l, OnL D l → concL σ' l = concL σ l
  | [], _ => by simp [concL]
  | a :: l, k => by simp only [OnL] at k; simp only [concL, conc_congr h a k.1, concL_congr h l k.2]
end
def entry (σ : Sig) (e : AV × AV × Nat) : MapEntry := { key := conc σ e.1, val := conc σ e.2.1, born := e.2.2 }
structure Tm (σ : Sig) (D : Nat → Prop) (n : Nat) (tm : T AV) (a : Array Value) : Prop where
  size : a.size = n
  lim : n ≤ top
  val : ∀ t, a.getD t undef = conc σ (tmA tm t)
  on : ∀ t, On D (tmA tm t)
def ORel (σ : Sig) (D : Nat → Prop) (a : At) : AO → Obj → Prop
  | .cells r, .cells c e fr => e = r.e ∧ c.size = a.n ∧ r.c.length ≤ a.n ∧ (r.opn = false → r.c.length = a.n) ∧ (∀ (i : Nat) (v : AV), r.c[i]? = some v → c[i]? = some (conc σ v)) ∧ OnL D r.c ∧
      (∀ i : Nat, i < a.n → fr.1 ≤ i → i < fr.2 → i < r.fz) ∧ (r.sg = false → fr.1 = fr.2 ∨ fr.2 ≤ r.fz)
  | .map es k, .map ces k' => k' = k ∧ ces.toList = es.map (entry σ) ∧ ∀ e ∈ es, On D e.1 ∧ On D e.2.1
  | .chan n buf x y, .chan n' buf' closed x' y' timer => n' = n ∧ buf'.toList = buf.map (conc σ) ∧ OnL D buf ∧ closed = false ∧ x' = x ∧ y' = y ∧ timer = false
  | .loop lp, .loop l => l.state = lp.st ∧ l.pending = lp.pend ∧ Tm σ D lp.n lp.tm l.tmps ∧ l.params.toList = lp.params ∧ l.assign = lp.assign ∧ l.body = lp.body ∧ l.defers = (σ lp.dfr).b ∧ D lp.dfr
  | .iter i, .mapIter m since seen last => m = i.m.map (fun b => (σ b).b) ∧ since = i.since ∧ seen.toList = i.seen ∧ last = i.last ∧ ∀ b, i.m = some b → D b
  | .dfr, .deferred ds => ds = some []
  | .done, .deferred ds => ds = none
  | .gone, _ => True
  | _, _ => False
def alive (s : St) (b : Nat) : Prop := ∃ o, s.h.get b = some o ∧ o ≠ .gone
structure Good (B : World) (F : Nat → Option Obj) (σ : Sig) (D : Nat → Prop) (s : St) (w : World) : Prop where
  os : w.os = B.os
  tape : w.tape = B.tape
  output : w.output = B.output
  most : B.heap.size ≤ w.heap.size
  lim : s.nx ≤ top
  below : ∀ b, D b → b < s.nx
  heap : ∀ b o, s.h.get b = some o → o ≠ .gone → D b ∧ ∃ ob, w.heap[(σ b).b]? = some ob ∧ ORel σ D (σ b) o ob
  inj : ∀ b c, alive s b → alive s c → (σ b).b = (σ c).b → b = c
  size : ∀ b, D b → (σ b).b < w.heap.size
  frame : ∀ i o, F i = some o → w.heap[i]? = some o
  apart : ∀ b, alive s b → F (σ b).b = none
structure Ext (σ : Sig) (D : Nat → Prop) (σ' : Sig) (D' : Nat → Prop) : Prop where
  sub : ∀ b, D b → D' b
  same : ∀ b, D b → σ' b = σ b
theorem Ext.refl (σ : Sig) (D : Nat → Prop) : Ext σ D σ D := ⟨fun _ h => h, fun _ _ => rfl⟩
theorem Ext.trans {σ σ' σ'' : Sig} {D D' D'' : Nat → Prop} (h : Ext σ D σ' D') (k : Ext σ' D' σ'' D'') : Ext σ D σ'' D'' :=
  ⟨fun b hb => k.sub b (h.sub b hb), fun b hb => (k.same b (h.sub b hb)).trans (h.same b hb)⟩
theorem Ext.conc {σ σ' : Sig} {D D' : Nat → Prop} (h : Ext σ D σ' D') {v : AV} (hv : On D v) : conc σ' v = conc σ v := conc_congr h.same v hv
theorem Ext.on {σ σ' : Sig} {D D' : Nat → Prop} (h : Ext σ D σ' D') {v : AV} (hv : On D v) : On D' v := on_mono h.sub v hv
theorem Ext.onL {σ σ' : Sig} {D D' : Nat → Prop} (h : Ext σ D σ' D') {l : List AV} (hv : OnL D l) : OnL D' l := onL_mono h.sub l hv
theorem Ext.concL {σ σ' : Sig} {D D' : Nat → Prop} (h : Ext σ D σ' D') {l : List AV} (hv : OnL D l) : concL σ' l = concL σ l := concL_congr h.same l hv
theorem Ext.tm {σ σ' : Sig} {D D' : Nat → Prop} (h : Ext σ D σ' D') {n : Nat} {tm : T AV} {a : Array Value} (ht : Tm σ D n tm a) : Tm σ' D' n tm a :=
  ⟨ht.size, ht.lim, fun t => by rw [ht.val t, h.conc (ht.on t)], fun t => h.on (ht.on t)⟩
theorem Ext.orel {σ σ' : Sig} {D D' : Nat → Prop} (h : Ext σ D σ' D') {a : At} {o : AO} {ob : Obj} (k : ORel σ D a o ob) : ORel σ' D' a o ob := by
  cases o with
  | cells r =>
    cases ob <;> simp only [ORel] at k ⊢
    obtain ⟨h1, h2, h3, h4, h5, h6, h7, h8⟩ := k
    refine ⟨h1, h2, h3, h4, fun i v hi => ?_, h.onL h6, h7, h8⟩
    rw [h5 i v hi, h.conc ((onL_iff _ _).1 h6 v (List.mem_of_getElem? hi))]
  | map es c =>
    cases ob <;> simp only [ORel] at k ⊢
    obtain ⟨h1, h2, h3⟩ := k
    refine ⟨h1, ?_, fun e he => ⟨h.on (h3 e he).1, h.on (h3 e he).2⟩⟩
    rw [h2]
    exact List.map_congr_left fun e he => by simp only [entry, h.conc (h3 e he).1, h.conc (h3 e he).2]
  | chan n buf x y =>
    cases ob <;> simp only [ORel] at k ⊢
    obtain ⟨h1, h2, h3, h4⟩ := k
    refine ⟨h1, ?_, h.onL h3, h4⟩
    rw [h2, ← concL_eq, ← concL_eq, h.concL h3]
  | loop lp =>
    cases ob <;> simp only [ORel] at k ⊢
    obtain ⟨h1, h2, h3, h4, h5, h6, h7, h8⟩ := k
    exact ⟨h1, h2, h.tm h3, h4, h5, h6, by rw [h7, h.same _ h8], h.sub _ h8⟩
  | iter i =>
    cases ob <;> simp only [ORel] at k ⊢
    obtain ⟨h1, h2, h3, h4, h5⟩ := k
    refine ⟨?_, h2, h3, h4, fun b hb => h.sub b (h5 b hb)⟩
    rw [h1]
    cases hm : i.m with
    | none => rfl
    | some b => simp only [Option.map_some, h.same b (h5 b hm)]
  | dfr => cases ob <;> simp only [ORel] at k ⊢; exact k
  | done => cases ob <;> simp only [ORel] at k ⊢; exact k
  | gone => simp [ORel]
end Go.Ev
