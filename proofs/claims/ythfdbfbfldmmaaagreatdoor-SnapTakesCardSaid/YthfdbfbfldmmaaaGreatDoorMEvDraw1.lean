/-
  Operations that leave memory alone, and those that make one block: what they do to the world.
-/
import Derived.Test.YthfdbfbfldmmaaaGreatDoorMEvCtl1
set_option linter.unusedVariables false
set_option linter.unusedSimpArgs false
set_option linter.unusedVariables false
set_option linter.unusedSimpArgs false
namespace Go.Ev
open Go.RowKit (Below)
section
variable {B : World} {F : Nat → Option Obj} {σ : Sig} {D : Nat → Prop} {s : St} {w : World}
def QOk (σ : Sig) (D : Nat → Prop) (w : World) (n : Sem Next) (v : AV) : Prop := n.run PP w = .ok (.value (conc σ v)) w ∧ On D v
theorem QOk.of {m : Sem Value} {n : Sem Next} {v : AV} (h : m.run PP w = .ok (conc σ v) w ∧ On D v) (hn : n = do pure (.value (← m))) : QOk σ D w n v := by
  refine ⟨?_, h.2⟩
  rw [hn]
  simp [h.1]
theorem convertA_quiet {src dst : TypeId} {x : AV} {p : AV × St} (g : Good B F σ D s w) (h : convertA s src dst x = some p) (hx : On D x) (hn : p.2.nx = s.nx) : (convert src dst (conc σ x)).run PP w = .ok (conc σ p.1) w ∧ On D p.1 := by
  unfold convertA at h
  split at h
  · (have ⟨k, h1, hNew⟩ := oB_of h; replace h := hNew; clear hNew)
    (have ⟨d, h2, hNew⟩ := oB_of h; replace h := hNew; clear hNew)
    cases h
    refine ⟨?_, by simp [On]⟩
    simp [convert, run_underlying h2, run_underlying (uInt_of h1), conc, Conv.intToInt, wrapA_eq]
  · rename_i l
    (have ⟨d, h1, hNew⟩ := oB_of h; replace h := hNew; clear hNew)
    cases hs : uStr dst with
    | true =>
      rw [hs, ifB_true] at h
      cases h
      refine ⟨?_, by simp [On]⟩
      simp [convert, run_underlying h1, run_underlying (uStr_of hs), conc]
    | false =>
      rw [hs, ifB_false] at h
      (have ⟨e, h2, hNew⟩ := oB_of h; replace h := hNew; clear hNew)
      (have ⟨h3, hNew⟩ := gd_of h; replace h := hNew; clear hNew)
      (have ⟨q, h4, hNew⟩ := oB_of h; replace h := hNew; clear hNew)
      cases h
      obtain ⟨_, _, h5⟩ := new_of h4
      rw [h5] at hn
      simp at hn
  · (have ⟨e, h1, hNew⟩ := oB_of h; replace h := hNew; clear hNew)
    (have ⟨h2, hNew⟩ := gd_of h; replace h := hNew; clear hNew)
    cases h
    simp only [Bool.and_eq_true] at h2
    refine ⟨?_, by simp [On]⟩
    simp only [conc]
    rw [run_convert_bytes_string w src dst e none 0 0 (uSlice_of h1) (uByte_of h2.1) (uStr_of h2.2)]
    rfl
  · rename_i b off len c
    (have ⟨e, h1, hNew⟩ := oB_of h; replace h := hNew; clear hNew)
    (have ⟨h2, hNew⟩ := gd_of h; replace h := hNew; clear hNew)
    (have ⟨bs, h3, hNew⟩ := oB_of h; replace h := hNew; clear hNew)
    cases h
    simp only [Bool.and_eq_true] at h2
    (have ⟨r, h4, hNew⟩ := oB_of h3; replace h3 := hNew; clear hNew)
    (have ⟨l, h5, hNew⟩ := oB_of h3; replace h3 := hNew; clear hNew)
    obtain ⟨ns, rfl, rfl⟩ := bytesOf_of h3
    obtain ⟨k1, k2, k3⟩ := g.loads h4 h5
    rw [conc_bytes] at k1
    refine ⟨?_, by simp [On]⟩
    have hc : conc σ (.sl b off len c) = .slice (some ⟨(σ b).b, off, none⟩) len (match c with | .known c => c | .op e => capOf σ b off e) := by cases c <;> rfl
    rw [hc, run_convert_bytes_string w src dst e _ _ _ (uSlice_of h1) (uByte_of h2.1) (uStr_of h2.2), run_bytesToString w _ _ _ ns k1, push_bytes]
    simp [conc]
  · (have ⟨h1, hNew⟩ := gd_of h; replace h := hNew; clear hNew)
    cases h
    refine ⟨?_, by simp [On]⟩
    simp only [Bool.or_eq_true, Bool.and_eq_true, Option.isSome_iff_exists] at h1
    rcases h1 with ⟨⟨e, h1⟩, h2⟩ | ⟨h1, ⟨e, h2⟩⟩
    · simp [convert, run_underlying (uPtr_of h1), run_underlying (uUnsafe_of h2), conc, Conv.unsafePointer]
    · simp [convert, run_underlying (uUnsafe_of h1), run_underlying (uPtr_of h2), conc, Conv.unsafePointer]
  · rename_i b off
    (have ⟨r, hr, hNew⟩ := oB_of h; replace h := hNew; clear hNew)
    have hseen := seenAt_of (off := off) g hr
    obtain ⟨_, c, fr, hheap, hrel⟩ := g.row hr
    obtain ⟨_, hsz, hle, hcl, _⟩ := hrel
    have hsh : w.shape? (σ b).b = some (r.e, c.size) := by simp [World.shape?, hheap]
    cases hud : uUnsafe dst with
    | true =>
      rw [hud, ifB_true] at h
      (have ⟨t, h1, hNew⟩ := oB_of h; replace h := hNew; clear hNew)
      (have ⟨n, h2, hNew⟩ := oB_of h; replace h := hNew; clear hNew)
      (have ⟨h3, hNew⟩ := gd_of h; replace h := hNew; clear hNew)
      cases h
      simp only [Bool.and_eq_true, nblt, decide_eq_true_eq, lenL_eq] at h3
      refine ⟨?_, hx⟩
      have hn0 : n ≠ 0 := by omega
      have hlt : ¬ (c.size ≤ off) := by omega
      simp [convert, run_underlying (uPtr_of h1), run_underlying (uUnsafe_of hud), conc, Conv.unsafePointer, hseen, cellsIn, hsh, sizeA_of h2, hn0, hlt]
    | false =>
      rw [hud, ifB_false] at h
      (have ⟨u, h1, hNew⟩ := oB_of h; replace h := hNew; clear hNew)
      (have ⟨n, h2, hNew⟩ := oB_of h; replace h := hNew; clear hNew)
      (have ⟨h3, hNew⟩ := gd_of h; replace h := hNew; clear hNew)
      cases h
      simp only [Bool.and_eq_true, nblt, decide_eq_true_eq, lenL_eq, Bool.not_eq_true'] at h3
      obtain ⟨⟨⟨h3, h4⟩, h5⟩, h6⟩ := h3
      refine ⟨?_, hx⟩
      have hn0 : n ≠ 0 := by omega
      have hcs : c.size = r.c.length := by rw [hsz, hcl h4]
      simp [convert, run_underlying (uPtr_of h1), run_underlying (uUnsafe_of h5), conc, Conv.unsafePointer, hseen, variablesAt, hsh, sizeA_of h2, hn0, hcs, h6]
  · cases h
theorem builtin_quiet {b : Builtin} {ats : Array TypeId} {ty : TypeId} {cs : Array Bool} {args : List AV} {v : AV} {s' : St} (g : Good B F σ D s w) (h : builtinA s b ats.toList args = some (.val v s')) (ho : OnL D args)
    (hq : b = .len ∨ b = .cap ∨ b = .unsafeSliceData ∨ b = .min ∨ b = .max) : QOk σ D w (builtin b ats ty cs (concL σ args).toArray) v := by
  obtain ⟨ts, hts⟩ : ∃ ts, ats.toList = ts := ⟨_, rfl⟩
  rw [hts] at h
  have hat : ats = ts.toArray := by rw [← hts]
  subst hat
  unfold builtinA at h
  split at h <;> (try (exfalso; revert hq; simp; done))
  · rename_i t x
    (have ⟨v, h1, hNew⟩ := oB_of h; replace h := hNew; clear hNew)
    cases h
    exact QOk.of (lenA_of (ty := ty) g h1) rfl
  · rename_i t x
    (have ⟨v, h1, hNew⟩ := oB_of h; replace h := hNew; clear hNew)
    cases h
    exact QOk.of (capA_of (ty := ty) g h1) rfl
  · rename_i k x l
    (have ⟨n, h1, hNew⟩ := oB_of h; replace h := hNew; clear hNew)
    cases h
    refine QOk.of (v := .int k n) ⟨?_, by simp [On]⟩ rfl
    have := minL_of (σ := σ) (k := k) h1 w
    simpa [Builtin.min_, concL, conc] using this
  · rename_i k x l
    (have ⟨n, h1, hNew⟩ := oB_of h; replace h := hNew; clear hNew)
    cases h
    refine QOk.of (v := .int k n) ⟨?_, by simp [On]⟩ rfl
    have := maxL_of (σ := σ) (k := k) h1 w
    simpa [Builtin.max_, concL, conc] using this
  · rename_i x
    (have ⟨v, h1, hNew⟩ := oB_of h; replace h := hNew; clear hNew)
    cases h
    simp only [OnL] at ho
    exact QOk.of (sliceDataA_of g h1 ho.1) rfl
  · cases h
theorem opA_quiet {tm : T AV} {a : Act} {o : Oper} {v : AV} {s' : St} (g : Good B F σ D s w) (he : EvOk σ D tm a o.op.operands.toList) (hq : (still o.op || reads o.op) = true) (h : opA s tm o = some (.val v s')) (hn : s'.nx = s.nx) :
    QOk σ D w (execOp a.eval o) v := by
  unfold opA at h
  unfold execOp
  cases ho : o.op <;> rw [ho] at h he hq <;> simp only [opD] at h <;> (try (exfalso; revert hq; simp [still, reads]; done))
  case move x =>
    (have ⟨v, h1, hNew⟩ := oB_of h; replace h := hNew; clear hNew)
    cases h
    obtain ⟨e1, e2⟩ := he.at (by simp [Op.operands]) h1
    exact ⟨(by simp [e1]), e2⟩
  case assign x =>
    (have ⟨v, h1, hNew⟩ := oB_of h; replace h := hNew; clear hNew)
    cases h
    obtain ⟨e1, e2⟩ := he.at (by simp [Op.operands]) h1
    exact ⟨(by simp [e1]), e2⟩
  case pick c x y =>
    (have ⟨vc, h1, hNew⟩ := oB_of h; replace h := hNew; clear hNew)
    (have ⟨vx, h2, hNew⟩ := oB_of h; replace h := hNew; clear hNew)
    (have ⟨vy, h3, hNew⟩ := oB_of h; replace h := hNew; clear hNew)
    (have ⟨v, h4, hNew⟩ := oB_of h; replace h := hNew; clear hNew)
    cases h
    (have ⟨b, h5, hNew⟩ := oB_of h4; replace h4 := hNew; clear hNew)
    cases h4
    obtain ⟨e1, _⟩ := he.at (by simp [Op.operands]) h1
    obtain ⟨e2, o2⟩ := he.at (by simp [Op.operands]) h2
    obtain ⟨e3, o3⟩ := he.at (by simp [Op.operands]) h3
    rw [isBool_of h5] at e1
    refine ⟨?_, by cases b <;> assumption⟩
    simp only [e1, e2, e3, conc, asBool, Sem.run_bind, Sem.run_pure, Result.andThen_ok]
    cases b <;> rfl
  case build t parts =>
    (have ⟨ps, h1, hNew⟩ := oB_of h; replace h := hNew; clear hNew)
    (have ⟨v, h2, hNew⟩ := oB_of h; replace h := hNew; clear hNew)
    cases h
    obtain ⟨e1, e2⟩ := evParts_ok (he.sub fun x hx => by simpa [Op.operands] using hx) h1
    have hp : parts.map (fun (i, x) => (i, a.eval x)) = (ps.map fun p => (p.1, conc σ p.2)).toArray := by
      apply Array.ext'
      simp [← e1]
    exact QOk.of (buildA_of h2 e2 w) (by simp only [hp])
  case load t x =>
    (have ⟨v, h1, hNew⟩ := oB_of h; replace h := hNew; clear hNew)
    (have ⟨y, h2, hNew⟩ := oB_of h; replace h := hNew; clear hNew)
    cases h
    obtain ⟨e1, _⟩ := he.at (by simp [Op.operands]) h1
    exact QOk.of (loadA_of g h2) (by simp only [e1])
  case nilCheck x =>
    (have ⟨v, h1, hNew⟩ := oB_of h; replace h := hNew; clear hNew)
    (have ⟨y, h2, hNew⟩ := oB_of h; replace h := hNew; clear hNew)
    cases h
    obtain ⟨e1, e2⟩ := he.at (by simp [Op.operands]) h1
    simp only [e1]
    unfold nilCheckA at h2
    split at h2 <;> first | (cases h2; exact ⟨(by simp [conc]), e2⟩) | cases h2
  case binOp op t x y yt =>
    (have ⟨v, h1, hNew⟩ := oB_of h; replace h := hNew; clear hNew)
    (have ⟨u, h2, hNew⟩ := oB_of h; replace h := hNew; clear hNew)
    (have ⟨z, h3, hNew⟩ := oB_of h; replace h := hNew; clear hNew)
    cases h
    obtain ⟨e1, o1⟩ := he.at (by simp [Op.operands]) h1
    obtain ⟨e2, o2⟩ := he.at (by simp [Op.operands]) h2
    exact QOk.of (binA_of (xo := x) (yo := y) h3 o1 o2 w) (by simp only [e1, e2])
  case unOp op t x =>
    (have ⟨v, h1, hNew⟩ := oB_of h; replace h := hNew; clear hNew)
    (have ⟨z, h3, hNew⟩ := oB_of h; replace h := hNew; clear hNew)
    cases h
    obtain ⟨e1, o1⟩ := he.at (by simp [Op.operands]) h1
    exact QOk.of (unA_of h3 w) (by simp only [e1])
  case makeInterface t x =>
    (have ⟨v, h1, hNew⟩ := oB_of h; replace h := hNew; clear hNew)
    (have ⟨z, h3, hNew⟩ := oB_of h; replace h := hNew; clear hNew)
    cases h
    obtain ⟨e1, o1⟩ := he.at (by simp [Op.operands]) h1
    exact QOk.of (makeIfaceA_of h3 o1 w) (by simp only [e1])
  case makeFunc f first captured =>
    cases f with
    | func f =>
      replace h : (oB (evs first.toList tm) fun a => oB (evs captured.toList tm) fun b => some (AN.val (.fn f a b) s)) = some (.val v s') := h
      (have ⟨xs, h1, hNew⟩ := oB_of h; replace h := hNew; clear hNew)
      (have ⟨ys, h2, hNew⟩ := oB_of h; replace h := hNew; clear hNew)
      cases h
      obtain ⟨e1, o1⟩ := evs_ok (he.sub fun x hx => by simp [Op.operands] at hx ⊢; simp [hx]) h1
      obtain ⟨e2, o2⟩ := evs_ok (he.sub fun x hx => by simp [Op.operands] at hx ⊢; simp [hx]) h2
      have hf : first.map a.eval = (concL σ xs).toArray := by apply Array.ext'; simp [e1]
      have hc : captured.map a.eval = (concL σ ys).toArray := by apply Array.ext'; simp [e2]
      refine QOk.of (m := Instr.makeFunc (.func f) (concL σ xs).toArray (concL σ ys).toArray) ⟨?_, by simp only [On]; exact ⟨o1, o2⟩⟩ (by simp only [hf, hc])
      simp [Instr.makeFunc, conc]
    | _ => cases h
  case slice t x lo hi mx =>
    (have ⟨v, h1, hNew⟩ := oB_of h; replace h := hNew; clear hNew)
    (have ⟨l, h2, hNew⟩ := oB_of h; replace h := hNew; clear hNew)
    (have ⟨hh, h3, hNew⟩ := oB_of h; replace h := hNew; clear hNew)
    (have ⟨m, h4, hNew⟩ := oB_of h; replace h := hNew; clear hNew)
    (have ⟨z, h5, hNew⟩ := oB_of h; replace h := hNew; clear hNew)
    cases h
    obtain ⟨e1, o1⟩ := he.at (by simp [Op.operands]) h1
    exact QOk.of (sliceA_of g h5 o1) (by simp only [e1, evOpt_ok (he.sub fun x hx => by simp [Op.operands] at hx ⊢; simp [hx]) h2, evOpt_ok (he.sub fun x hx => by simp [Op.operands] at hx ⊢; simp [hx]) h3, evOpt_ok (he.sub fun x hx => by simp [Op.operands] at hx ⊢; simp [hx]) h4])
  case fieldAddr t x f =>
    (have ⟨v, h1, hNew⟩ := oB_of h; replace h := hNew; clear hNew)
    (have ⟨z, h3, hNew⟩ := oB_of h; replace h := hNew; clear hNew)
    cases h
    obtain ⟨e1, o1⟩ := he.at (by simp [Op.operands]) h1
    exact QOk.of (fieldAddrA_of h3 o1 w) (by simp only [e1])
  case field t x f =>
    (have ⟨v, h1, hNew⟩ := oB_of h; replace h := hNew; clear hNew)
    (have ⟨z, h3, hNew⟩ := oB_of h; replace h := hNew; clear hNew)
    cases h
    obtain ⟨e1, o1⟩ := he.at (by simp [Op.operands]) h1
    exact QOk.of (fieldA_of h3 o1 w) (by simp only [e1])
  case indexAddr t x i =>
    (have ⟨v, h1, hNew⟩ := oB_of h; replace h := hNew; clear hNew)
    (have ⟨u, h2, hNew⟩ := oB_of h; replace h := hNew; clear hNew)
    (have ⟨z, h3, hNew⟩ := oB_of h; replace h := hNew; clear hNew)
    cases h
    obtain ⟨e1, o1⟩ := he.at (by simp [Op.operands]) h1
    obtain ⟨e2, o2⟩ := he.at (by simp [Op.operands]) h2
    exact QOk.of (indexAddrA_of h3 o1 w) (by simp only [e1, e2])
  case index t x i =>
    (have ⟨v, h1, hNew⟩ := oB_of h; replace h := hNew; clear hNew)
    (have ⟨u, h2, hNew⟩ := oB_of h; replace h := hNew; clear hNew)
    (have ⟨z, h3, hNew⟩ := oB_of h; replace h := hNew; clear hNew)
    cases h
    obtain ⟨e1, o1⟩ := he.at (by simp [Op.operands]) h1
    obtain ⟨e2, o2⟩ := he.at (by simp [Op.operands]) h2
    exact QOk.of (indexA_of h3 o1 w) (by simp only [e1, e2])
  case lookup t x i ok =>
    (have ⟨v, h1, hNew⟩ := oB_of h; replace h := hNew; clear hNew)
    (have ⟨u, h2, hNew⟩ := oB_of h; replace h := hNew; clear hNew)
    (have ⟨z, h3, hNew⟩ := oB_of h; replace h := hNew; clear hNew)
    cases h
    obtain ⟨e1, o1⟩ := he.at (by simp [Op.operands]) h1
    obtain ⟨e2, o2⟩ := he.at (by simp [Op.operands]) h2
    exact QOk.of (lookupA_of g h3) (by simp only [e1, e2])
  case typeAssert x xt t ok =>
    (have ⟨v, h1, hNew⟩ := oB_of h; replace h := hNew; clear hNew)
    (have ⟨z, h3, hNew⟩ := oB_of h; replace h := hNew; clear hNew)
    cases h
    obtain ⟨e1, o1⟩ := he.at (by simp [Op.operands]) h1
    exact QOk.of (typeAssertA_of (xt := xt) h3 o1 w) (by simp only [e1])
  case extract x i =>
    (have ⟨v, h1, hNew⟩ := oB_of h; replace h := hNew; clear hNew)
    (have ⟨z, h3, hNew⟩ := oB_of h; replace h := hNew; clear hNew)
    cases h
    obtain ⟨e1, o1⟩ := he.at (by simp [Op.operands]) h1
    exact QOk.of (extractA_of h3 o1 w) (by simp only [e1])
  case convert src dst x =>
    (have ⟨v1, h1, hNew⟩ := oB_of h; replace h := hNew; clear hNew)
    (have ⟨z, h3, hNew⟩ := oB_of h; replace h := hNew; clear hNew)
    cases h
    obtain ⟨e1, o1⟩ := he.at (by simp [Op.operands]) h1
    exact QOk.of (convertA_quiet g h3 o1 hn) (by simp only [e1])
  case call c =>
    unfold callA at h
    (have ⟨args, h1, hNew⟩ := oB_of h; replace h := hNew; clear hNew)
    obtain ⟨k1, k2⟩ := evs_ok (he.sub fun x hx => by simp [Op.operands, Call.operands] at hx ⊢; exact .inr hx) h1
    have hargs : c.args.map a.eval = (concL σ args).toArray := by
      apply Array.ext'
      simp [k1]
    cases hc : c.callee with
    | value f =>
      obtain ⟨callee, args', ats⟩ := c
      simp only at hc
      subst hc
      exact absurd hq (by simp [still, reads])
    | invoke r m =>
      obtain ⟨callee, args', ats⟩ := c
      simp only at hc
      subst hc
      exact absurd hq (by simp [still, reads])
    | builtin b =>
      simp only [hc] at h
      simp only [resolve, hc, invoke, hargs, pure_bind]
      exact builtin_quiet g h k2 (by
        obtain ⟨callee, args', ats⟩ := c
        simp only at hc
        subst hc
        cases b <;> simp [still, reads] at hq ⊢)
theorem oB_mk {α β : Type} (a : α) (f : α → Option β) : oB (some a) f = f a := rfl
theorem gd_mk {α : Type} (x : Option α) : gd true x = x := rfl
theorem convertA_nx {src dst : TypeId} {x : AV} {h : T AO} {n m : Nat} {p : AV × St} (k : convertA ⟨h, n⟩ src dst x = some p) (hn : p.2.nx = n) : convertA ⟨h, m⟩ src dst x = some (p.1, ⟨h, m⟩) := by
  unfold convertA at k ⊢
  split at k
  · (have ⟨a, k1, hNew⟩ := oB_of k; replace k := hNew; clear hNew)
    (have ⟨b, k2, hNew⟩ := oB_of k; replace k := hNew; clear hNew)
    cases k
    simp only [k1, k2, oB_mk]
  · rename_i l
    (have ⟨d, k1, hNew⟩ := oB_of k; replace k := hNew; clear hNew)
    simp only [k1, oB_mk]
    cases hs : uStr dst with
    | true =>
      rw [hs, ifB_true] at k
      cases k
      rfl
    | false =>
      rw [hs, ifB_false] at k
      (have ⟨e, k2, hNew⟩ := oB_of k; replace k := hNew; clear hNew)
      (have ⟨k3, hNew⟩ := gd_of k; replace k := hNew; clear hNew)
      (have ⟨q, k4, hNew⟩ := oB_of k; replace k := hNew; clear hNew)
      cases k
      obtain ⟨_, _, h5⟩ := new_of k4
      rw [h5] at hn
      simp at hn
  · (have ⟨a, k1, hNew⟩ := oB_of k; replace k := hNew; clear hNew)
    (have ⟨k2, hNew⟩ := gd_of k; replace k := hNew; clear hNew)
    cases k
    simp only [k1, k2, oB_mk, gd_mk]
  · (have ⟨a, k1, hNew⟩ := oB_of k; replace k := hNew; clear hNew)
    (have ⟨k2, hNew⟩ := gd_of k; replace k := hNew; clear hNew)
    (have ⟨r, k3, hNew⟩ := oB_of k; replace k := hNew; clear hNew)
    cases k
    replace k3 : bytesAt ⟨h, m⟩ _ _ _ = some r := k3
    simp only [k1, k2, k3, oB_mk, gd_mk]
  · (have ⟨k2, hNew⟩ := gd_of k; replace k := hNew; clear hNew)
    cases k
    simp only [k2, gd_mk]
  · (have ⟨r, k1, hNew⟩ := oB_of k; replace k := hNew; clear hNew)
    replace k1 : St.row ⟨h, m⟩ _ = some r := k1
    simp only [k1, oB_mk]
    cases hud : uUnsafe dst with
    | true =>
      rw [hud, ifB_true] at k
      (have ⟨t, k2, hNew⟩ := oB_of k; replace k := hNew; clear hNew)
      (have ⟨n, k3, hNew⟩ := oB_of k; replace k := hNew; clear hNew)
      (have ⟨k4, hNew⟩ := gd_of k; replace k := hNew; clear hNew)
      cases k
      simp only [k2, k3, k4, ifB_true, oB_mk, gd_mk]
    | false =>
      rw [hud, ifB_false] at k
      (have ⟨t, k2, hNew⟩ := oB_of k; replace k := hNew; clear hNew)
      (have ⟨n, k3, hNew⟩ := oB_of k; replace k := hNew; clear hNew)
      (have ⟨k4, hNew⟩ := gd_of k; replace k := hNew; clear hNew)
      cases k
      simp only [k2, k3, k4, ifB_false, oB_mk, gd_mk]
  · cases k
theorem builtinA_nx {b : Builtin} {ts : List TypeId} {args : List AV} {h : T AO} {n m : Nat} {v : AV} {s' : St} (k : builtinA ⟨h, n⟩ b ts args = some (.val v s')) (hq : b = .len ∨ b = .cap ∨ b = .unsafeSliceData ∨ b = .min ∨ b = .max) :
    builtinA ⟨h, m⟩ b ts args = some (.val v ⟨h, m⟩) := by
  unfold builtinA at k ⊢
  split at k <;> (try (exfalso; revert hq; simp; done))
  · (have ⟨a, k1, hNew⟩ := oB_of k; replace k := hNew; clear hNew)
    cases k
    replace k1 : lenA ⟨h, m⟩ _ _ = some v := k1
    simp only [valA, k1, oB_mk]
  · (have ⟨a, k1, hNew⟩ := oB_of k; replace k := hNew; clear hNew)
    cases k
    replace k1 : capA ⟨h, m⟩ _ _ = some v := k1
    simp only [valA, k1, oB_mk]
  · (have ⟨a, k1, hNew⟩ := oB_of k; replace k := hNew; clear hNew)
    cases k
    simp only [k1, oB_mk]
  · (have ⟨a, k1, hNew⟩ := oB_of k; replace k := hNew; clear hNew)
    cases k
    simp only [k1, oB_mk]
  · (have ⟨a, k1, hNew⟩ := oB_of k; replace k := hNew; clear hNew)
    cases k
    replace k1 : sliceDataA ⟨h, m⟩ _ = some v := k1
    simp only [valA, k1, oB_mk]
  · cases k
theorem builtinA_pure {b : Builtin} {ts : List TypeId} {args : List AV} {s2 : St} {v : AV} {s' : St} (k : builtinA s b ts args = some (.val v s')) (hq : b = .min ∨ b = .max) :
    builtinA s2 b ts args = some (.val v s2) := by
  unfold builtinA at k ⊢
  split at k <;> (try (exfalso; revert hq; simp; done))
  · (have ⟨a, k1, hNew⟩ := oB_of k; replace k := hNew; clear hNew)
    cases k
    simp only [k1, oB_mk]
  · (have ⟨a, k1, hNew⟩ := oB_of k; replace k := hNew; clear hNew)
    cases k
    simp only [k1, oB_mk]
  · cases k
theorem quiet_nx {tm : T AV} {o : Oper} {v : AV} {s' : St} (hq : (still o.op || reads o.op) = true) (h : opA s tm o = some (.val v s')) (hn : s'.nx = s.nx) (s2 : St) (hh : still o.op = true ∨ s2.h = s.h) :
    opA s2 tm o = some (.val v s2) := by
  unfold opA at h ⊢
  cases ho : o.op <;> rw [ho] at h hq hh <;> simp only [opD] at h ⊢ <;> (try (exfalso; revert hq; simp [still, reads]; done))
  case move x =>
    (have ⟨y, h1, hNew⟩ := oB_of h; replace h := hNew; clear hNew)
    cases h
    simp only [valA, h1, oB_mk]
  case assign x =>
    (have ⟨y, h1, hNew⟩ := oB_of h; replace h := hNew; clear hNew)
    cases h
    simp only [valA, h1, oB_mk]
  case pick c x y =>
    (have ⟨vc, h1, hNew⟩ := oB_of h; replace h := hNew; clear hNew)
    (have ⟨vx, h2, hNew⟩ := oB_of h; replace h := hNew; clear hNew)
    (have ⟨vy, h3, hNew⟩ := oB_of h; replace h := hNew; clear hNew)
    (have ⟨v, h4, hNew⟩ := oB_of h; replace h := hNew; clear hNew)
    cases h
    simp only [valA, h1, h2, h3, h4, oB_mk]
  case build t parts =>
    (have ⟨ps, h1, hNew⟩ := oB_of h; replace h := hNew; clear hNew)
    (have ⟨v, h2, hNew⟩ := oB_of h; replace h := hNew; clear hNew)
    cases h
    simp only [valA, h1, h2, oB_mk]
  case load t x =>
    (have ⟨y, h1, hNew⟩ := oB_of h; replace h := hNew; clear hNew)
    (have ⟨z, h2, hNew⟩ := oB_of h; replace h := hNew; clear hNew)
    cases h
    have e := hh.resolve_left (by simp [still])
    have h2 : loadA s2 t y = some v := by unfold loadA St.row at h2 ⊢; rw [e]; exact h2
    simp only [valA, h1, h2, oB_mk]
  case nilCheck x =>
    (have ⟨y, h1, hNew⟩ := oB_of h; replace h := hNew; clear hNew)
    (have ⟨z, h2, hNew⟩ := oB_of h; replace h := hNew; clear hNew)
    cases h
    simp only [valA, h1, h2, oB_mk]
  case binOp op t x y yt =>
    (have ⟨a1, h1, hNew⟩ := oB_of h; replace h := hNew; clear hNew)
    (have ⟨a2, h2, hNew⟩ := oB_of h; replace h := hNew; clear hNew)
    (have ⟨a3, h3, hNew⟩ := oB_of h; replace h := hNew; clear hNew)
    cases h
    simp only [valA, h1, h2, h3, oB_mk]
  case unOp op t x =>
    (have ⟨a1, h1, hNew⟩ := oB_of h; replace h := hNew; clear hNew)
    (have ⟨a2, h2, hNew⟩ := oB_of h; replace h := hNew; clear hNew)
    cases h
    simp only [valA, h1, h2, oB_mk]
  case convert src dst x =>
    (have ⟨a1, h1, hNew⟩ := oB_of h; replace h := hNew; clear hNew)
    (have ⟨a2, h2, hNew⟩ := oB_of h; replace h := hNew; clear hNew)
    cases h
    have e := hh.resolve_left (by simp [still])
    obtain ⟨hs, ns⟩ := s
    obtain ⟨hs2, ns2⟩ := s2
    simp only at e hn
    subst e
    simp only [valS, h1, convertA_nx h2 hn (m := ns2), oB_mk]
  case makeInterface t x =>
    (have ⟨a1, h1, hNew⟩ := oB_of h; replace h := hNew; clear hNew)
    (have ⟨a2, h2, hNew⟩ := oB_of h; replace h := hNew; clear hNew)
    cases h
    simp only [valA, h1, h2, oB_mk]
  case makeFunc f first captured =>
    cases f with
    | func f =>
      replace h : (oB (evs first.toList tm) fun a => oB (evs captured.toList tm) fun b => some (AN.val (.fn f a b) s)) = some (.val v s') := h
      (have ⟨a1, h1, hNew⟩ := oB_of h; replace h := hNew; clear hNew)
      (have ⟨a2, h2, hNew⟩ := oB_of h; replace h := hNew; clear hNew)
      cases h
      simp only [makeFuncA, h1, h2, oB_mk]
    | _ => cases h
  case slice t x lo hi mx =>
    (have ⟨a1, h1, hNew⟩ := oB_of h; replace h := hNew; clear hNew)
    (have ⟨a2, h2, hNew⟩ := oB_of h; replace h := hNew; clear hNew)
    (have ⟨a3, h3, hNew⟩ := oB_of h; replace h := hNew; clear hNew)
    (have ⟨a4, h4, hNew⟩ := oB_of h; replace h := hNew; clear hNew)
    (have ⟨a5, h5, hNew⟩ := oB_of h; replace h := hNew; clear hNew)
    cases h
    have e := hh.resolve_left (by simp [still])
    have h5 : sliceA s2 t a1 a2 a3 a4 = some v := by
      obtain ⟨hs, ns⟩ := s
      obtain ⟨hs2, ns2⟩ := s2
      simp only at e
      subst e
      exact h5
    simp only [valA, h1, h2, h3, h4, h5, oB_mk]
  case fieldAddr t x f =>
    (have ⟨a1, h1, hNew⟩ := oB_of h; replace h := hNew; clear hNew)
    (have ⟨a2, h2, hNew⟩ := oB_of h; replace h := hNew; clear hNew)
    cases h
    simp only [valA, h1, h2, oB_mk]
  case field t x f =>
    (have ⟨a1, h1, hNew⟩ := oB_of h; replace h := hNew; clear hNew)
    (have ⟨a2, h2, hNew⟩ := oB_of h; replace h := hNew; clear hNew)
    cases h
    simp only [valA, h1, h2, oB_mk]
  case indexAddr t x i =>
    (have ⟨a1, h1, hNew⟩ := oB_of h; replace h := hNew; clear hNew)
    (have ⟨a2, h2, hNew⟩ := oB_of h; replace h := hNew; clear hNew)
    (have ⟨a3, h3, hNew⟩ := oB_of h; replace h := hNew; clear hNew)
    cases h
    simp only [valA, h1, h2, h3, oB_mk]
  case index t x i =>
    (have ⟨a1, h1, hNew⟩ := oB_of h; replace h := hNew; clear hNew)
    (have ⟨a2, h2, hNew⟩ := oB_of h; replace h := hNew; clear hNew)
    (have ⟨a3, h3, hNew⟩ := oB_of h; replace h := hNew; clear hNew)
    cases h
    simp only [valA, h1, h2, h3, oB_mk]
  case lookup t x i ok =>
    (have ⟨a1, h1, hNew⟩ := oB_of h; replace h := hNew; clear hNew)
    (have ⟨a2, h2, hNew⟩ := oB_of h; replace h := hNew; clear hNew)
    (have ⟨a3, h3, hNew⟩ := oB_of h; replace h := hNew; clear hNew)
    cases h
    have e := hh.resolve_left (by simp [still])
    have h3 : lookupA s2 t a1 a2 ok = some v := by
      obtain ⟨hs, ns⟩ := s
      obtain ⟨hs2, ns2⟩ := s2
      simp only at e
      subst e
      exact h3
    simp only [valA, h1, h2, h3, oB_mk]
  case typeAssert x xt t ok =>
    (have ⟨a1, h1, hNew⟩ := oB_of h; replace h := hNew; clear hNew)
    (have ⟨a2, h2, hNew⟩ := oB_of h; replace h := hNew; clear hNew)
    cases h
    simp only [valA, h1, h2, oB_mk]
  case extract x i =>
    (have ⟨a1, h1, hNew⟩ := oB_of h; replace h := hNew; clear hNew)
    (have ⟨a2, h2, hNew⟩ := oB_of h; replace h := hNew; clear hNew)
    cases h
    simp only [valA, h1, h2, oB_mk]
  case call c =>
    unfold callA at h ⊢
    (have ⟨args, h1, hNew⟩ := oB_of h; replace h := hNew; clear hNew)
    simp only [h1, oB_mk]
    cases hc : c.callee with
    | value f =>
      obtain ⟨callee, args', ats⟩ := c
      simp only at hc
      subst hc
      exact absurd hq (by simp [still, reads])
    | invoke r m =>
      obtain ⟨callee, args', ats⟩ := c
      simp only at hc
      subst hc
      exact absurd hq (by simp [still, reads])
    | builtin b =>
      simp only [hc] at h ⊢
      obtain ⟨callee, args', ats⟩ := c
      simp only at hc
      subst hc
      rcases hh with hh | hh
      · exact builtinA_pure h (by cases b <;> simp [still] at hh ⊢)
      · obtain ⟨hs, ns⟩ := s
        obtain ⟨hs2, ns2⟩ := s2
        simp only at hh
        subst hh
        exact builtinA_nx h (by cases b <;> simp [still, reads] at hq ⊢)
/-! ### One block is made -/
/-- What making a block comes to. -/
def MOk (σ : Sig) (D : Nat → Prop) (w : World) (b : Nat) (m : Sem Value) (v : AV) (o : AO) : Prop :=
  ∃ n obj, m.run PP w = .ok (conc (upd σ b ⟨w.heap.size, n⟩) v) (w.alloc obj) ∧ ORel (upd σ b ⟨w.heap.size, n⟩) (plus D b) ⟨w.heap.size, n⟩ o obj ∧ On (plus D b) v
theorem new_obj {o : AO} {b : Nat} {s' : St} (h : s.new o = some (b, s')) : b = s.nx ∧ s'.h.get s.nx = some o := by
  obtain ⟨h1, h2, h3⟩ := new_of h
  refine ⟨h2, ?_⟩
  rw [h3, get_new h1, if_pos rfl]
theorem cells_make {c : List AV} {e : TypeId} {b : Nat} (hb : ¬ D b) (hc : OnL D c) :
    (newRow e (concL σ c).toArray).run PP w = .ok ⟨w.heap.size, 0, none⟩ (w.alloc (.cells (concL σ c).toArray e (0, 0))) ∧
      ORel (upd σ b ⟨w.heap.size, c.length⟩) (plus D b) ⟨w.heap.size, c.length⟩ (.cells ⟨c, e, false, 0, false⟩) (.cells (concL σ c).toArray e (0, 0)) := by
  have hext : Ext σ D (upd σ b ⟨w.heap.size, c.length⟩) (plus D b) := ext_upd hb
  refine ⟨by simp [newRow], rfl, by simp [concL_length], Nat.le_refl _, fun _ => rfl, fun i v hi => ?_, hext.onL hc, fun i _ _ h => by simp at h, fun _ => .inl rfl⟩
  simp only at hi
  rw [List.getElem?_toArray, concL_eq, List.getElem?_map, hi, hext.conc ((onL_iff _ _).1 hc v (List.mem_of_getElem? hi))]
  rfl
theorem newCells_make {c : List AV} {e : TypeId} {p : Nat × St} {ob : AO} (h : newCells s c e = some p) (ho : p.2.h.get s.nx = some ob) (hb : ¬ D s.nx) (hc : OnL D c) :
    p.1 = s.nx ∧ (newRow e (concL σ c).toArray).run PP w = .ok ⟨w.heap.size, 0, none⟩ (w.alloc (.cells (concL σ c).toArray e (0, 0))) ∧
      ORel (upd σ s.nx ⟨w.heap.size, c.length⟩) (plus D s.nx) ⟨w.heap.size, c.length⟩ ob (.cells (concL σ c).toArray e (0, 0)) := by
  obtain ⟨k1, k2⟩ := new_obj h
  rw [k2] at ho
  cases ho
  obtain ⟨q1, q2⟩ := cells_make (σ := σ) (w := w) (e := e) hb hc
  exact ⟨k1, q1, q2⟩
theorem MOk.ptr {c : List AV} {e : TypeId} {ob : AO} {v : AV} {s' : St} {m : Sem Value} (h : newPtr (newCells s c e) = some (.val v s')) (ho : s'.h.get s.nx = some ob) (hb : ¬ D s.nx) (hc : OnL D c)
    (hm : ∀ x w', (newRow e (concL σ c).toArray).run PP w = .ok x w' → m.run PP w = .ok (.pointer (some x)) w') : MOk σ D w s.nx m v ob := by
  (have ⟨p, h1, hNew⟩ := oB_of h; replace h := hNew; clear hNew)
  cases h
  obtain ⟨k1, k2, k3⟩ := newCells_make (σ := σ) (w := w) h1 ho hb hc
  refine ⟨_, _, ?_, k3, ?_⟩
  · rw [hm _ _ k2, k1]
    simp [conc]
  · rw [k1]
    simp only [On]
    exact .inr rfl
theorem make_of {tm : T AV} {a : Act} {o : Oper} {v : AV} {s' : St} {ob : AO} (he : EvOk σ D tm a o.op.operands.toList) (hq : makes o.op = true) (h : opA s tm o = some (.val v s')) (ho : s'.h.get s.nx = some ob) (hb : ¬ D s.nx) :
    ∃ m : Sem Value, execOp a.eval o = (do pure (.value (← m))) ∧ MOk σ D w s.nx m v ob := by
  unfold opA at h
  unfold execOp
  cases hop : o.op <;> rw [hop] at h he hq <;> simp only [opD] at h <;> (try (exfalso; revert hq; simp [makes]; done))
  case alloc e =>
    (have ⟨z, h1, hNew⟩ := oB_of h; replace h := hNew; clear hNew)
    obtain ⟨_, _, _, hz⟩ := zeroA_of (σ := σ) (D := D) h1
    refine ⟨_, rfl, MOk.ptr h ho hb (cells_on hz) fun x w' hx => ?_⟩
    simp [Instr.alloc, zeroA_run h1 σ, newVar, cells_conc, hx]
  case box e x =>
    (have ⟨y, h1, hNew⟩ := oB_of h; replace h := hNew; clear hNew)
    obtain ⟨e1, e2⟩ := he.at (by simp [Op.operands]) h1
    refine ⟨Instr.box e (conc σ y), by simp only [e1], MOk.ptr h ho hb (cells_on e2) fun x w' hx => ?_⟩
    simp [Instr.box, newVar, cells_conc, hx]
  case buildSlice t len parts =>
    (have ⟨ps, h1, hNew⟩ := oB_of h; replace h := hNew; clear hNew)
    obtain ⟨e1, e2⟩ := evParts_ok (he.sub fun x hx => by simpa [Op.operands] using hx) h1
    have hp : parts.map (fun (i, x) => (i, a.eval x)) = (ps.map fun p => (p.1, conc σ p.2)).toArray := by
      apply Array.ext'
      simp [← e1]
    refine ⟨Instr.buildSlice t len (ps.map fun p => (p.1, conc σ p.2)).toArray, by simp only [hp], ?_⟩
    (have ⟨e, h1, hNew⟩ := oB_of h; replace h := hNew; clear hNew)
    (have ⟨z, h2, hNew⟩ := oB_of h; replace h := hNew; clear hNew)
    (have ⟨h3, hNew⟩ := gd_of h; replace h := hNew; clear hNew)
    (have ⟨zs, h4, hNew⟩ := oB_of h; replace h := hNew; clear hNew)
    (have ⟨l, h5, hNew⟩ := oB_of h; replace h := hNew; clear hNew)
    (have ⟨p, h6, hNew⟩ := oB_of h; replace h := hNew; clear hNew)
    cases h
    simp only [Bool.and_eq_true, nblt, nble, decide_eq_true_eq] at h3
    obtain ⟨zero, k1, k1', k2, k3⟩ := zerosA_of h2 h3.1 h4 σ D w
    obtain ⟨k4, k5⟩ := fillA_of (σ := σ) h5 k3 e2
    obtain ⟨q1, q2, q3⟩ := newCells_make (σ := σ) (w := w) h6 ho hb k5
    refine ⟨_, _, ?_, q3, by rw [q1]; simp only [On]; exact .inr rfl⟩
    rw [q1]
    have hlim : ¬ (len * z > 2 ^ 24) := by omega
    by_cases hq : len * z = 0
    · rw [k1 hq, hq] at k2
      simp only [Instr.buildSlice, Sem.run_bind, run_underlying (uSlice_of h1), Result.andThen_ok, sizeA_of h2, hlim, if_false, conc, upd_same]
      simp only [hq, if_true, Sem.run_bind, Sem.run_pure, Result.andThen_ok, k2, k4, q2]
    · obtain ⟨v, hv, hvc⟩ := k1' hq
      simp only [Instr.buildSlice, Sem.run_bind, run_underlying (uSlice_of h1), Result.andThen_ok, sizeA_of h2, hlim, if_false, hq, hv, hvc, k2, k4, q2, Sem.run_pure, conc, upd_same]
  case makeMap t rsv =>
    cases rsv with
    | none =>
      refine ⟨Instr.makeMap t none, rfl, ?_⟩
      (have ⟨p, h1, hNew⟩ := oB_of h; replace h := hNew; clear hNew)
      cases h
      obtain ⟨k1, k2⟩ := new_obj h1
      rw [k2] at ho
      cases ho
      refine ⟨0, .map #[] 0, ?_, ⟨rfl, by simp, by simp⟩, by rw [k1]; simp only [On]; exact .inr rfl⟩
      rw [k1]
      simp only [conc, upd_same]
      simp [Instr.makeMap]
    | some x => cases h
  case makeChan t c =>
    (have ⟨vc, j1, hNew⟩ := oB_of h; replace h := hNew; clear hNew)
    obtain ⟨e1, _⟩ := he.at (by simp [Op.operands]) j1
    clear he j1
    refine ⟨Instr.makeChan t (conc σ vc), by simp only [e1], ?_⟩
    (have ⟨e, h1, hNew⟩ := oB_of h; replace h := hNew; clear hNew)
    (have ⟨n, h2, hNew⟩ := oB_of h; replace h := hNew; clear hNew)
    (have ⟨by_, h3, hNew⟩ := oB_of h; replace h := hNew; clear hNew)
    (have ⟨h4, hNew⟩ := gd_of h; replace h := hNew; clear hNew)
    (have ⟨p, h5, hNew⟩ := oB_of h; replace h := hNew; clear hNew)
    cases h
    obtain ⟨k1, k2⟩ := new_obj h5
    rw [k2] at ho
    cases ho
    obtain ⟨kc, rfl⟩ := isNat_of h2
    simp only [Bool.and_eq_true, nble, decide_eq_true_eq] at h4
    obtain ⟨d, hu⟩ := uChan_of h1
    obtain ⟨i, hi1, hi2⟩ := bytesA_of h3
    have e1 : IntKind.i64.wrap (Int.ofNat n) = (n : Int) := by
      simp only [IntKind.wrap, IntKind.signed, IntKind.bits, Int.ofNat_eq_natCast]
      simp
      omega
    have e2 : ¬ ((n : Int) < 0) := by omega
    have e3 : ¬ ((n : Int) > IntKind.i64.max) := by
      have : IntKind.i64.max = 9223372036854775807 := by decide
      omega
    have e4 : ¬ ((by_ : Int) * (n : Int) > 2 ^ 48 - 112) := by
      have : ((by_ * n : Nat) : Int) ≤ 4294967296 := by omega
      push_cast at this
      omega
    refine ⟨0, .chan n #[] false 0 0 false, ?_, ⟨rfl, by simp, by simp [OnL], rfl, rfl, rfl, rfl⟩, by rw [k1]; simp only [On]; exact .inr rfl⟩
    rw [k1]
    simp only [conc, upd_same]
    simp only [Instr.makeChan, Sem.run_bind, asInt, asIntOf, Sem.run_pure, Result.andThen_ok, run_underlying hu, typeInfo, run_program, hi1, hi2]
    simp
    intro hbad
    exfalso
    have hmx : IntKind.i64.max = 9223372036854775807 := by decide
    rw [hmx] at e3
    omega
  case makeSlice t l c =>
    (have ⟨vl, j1, hNew⟩ := oB_of h; replace h := hNew; clear hNew)
    (have ⟨vc, j2, hNew⟩ := oB_of h; replace h := hNew; clear hNew)
    obtain ⟨e1, _⟩ := he.at (by simp [Op.operands]) j1
    obtain ⟨e2, _⟩ := he.at (by simp [Op.operands]) j2
    clear he j1 j2
    refine ⟨Instr.makeSlice t (conc σ vl) (conc σ vc), by simp only [e1, e2], ?_⟩
    (have ⟨e, h1, hNew⟩ := oB_of h; replace h := hNew; clear hNew)
    (have ⟨ln, h2, hNew⟩ := oB_of h; replace h := hNew; clear hNew)
    (have ⟨k, h3, hNew⟩ := oB_of h; replace h := hNew; clear hNew)
    (have ⟨z, h4, hNew⟩ := oB_of h; replace h := hNew; clear hNew)
    (have ⟨by_, h5, hNew⟩ := oB_of h; replace h := hNew; clear hNew)
    (have ⟨h6, hNew⟩ := gd_of h; replace h := hNew; clear hNew)
    (have ⟨zs, h7, hNew⟩ := oB_of h; replace h := hNew; clear hNew)
    (have ⟨p, h8, hNew⟩ := oB_of h; replace h := hNew; clear hNew)
    cases h
    obtain ⟨kl, rfl⟩ := isNat_of h2
    obtain ⟨kc, rfl⟩ := isNat_of h3
    simp only [Bool.and_eq_true, nblt, nble, decide_eq_true_eq] at h6
    obtain ⟨h6, h9, h10, h11⟩ := h6
    obtain ⟨zero, k1, k1', k2, k3⟩ := zerosA_of h4 h6 h7 σ D w
    obtain ⟨q1, q2, q3⟩ := newCells_make (σ := σ) (w := w) h8 ho hb k3
    obtain ⟨i, hi1, hi2⟩ := bytesA_of h5
    refine ⟨_, _, ?_, q3, by rw [q1]; simp only [On]; exact .inr rfl⟩
    rw [q1]
    have hw : ∀ n : Nat, n ≤ 4294967296 → IntKind.i64.wrap (Int.ofNat n) = (n : Int) := by
      intro n hn
      simp only [IntKind.wrap, IntKind.signed, IntKind.bits, Int.ofNat_eq_natCast]
      simp
      omega
    have e1 := hw ln (by omega)
    have e2 := hw k (by omega)
    have e3 : ¬ ((k : Int) < 0) := by omega
    have e4 : ¬ ((by_ : Int) * (k : Int) > 2 ^ 48) := by
      have : ((by_ * k : Nat) : Int) ≤ 4294967296 := by omega
      push_cast at this
      omega
    have e5 : ¬ ((ln : Int) < 0) := by omega
    have e6 : ¬ ((ln : Int) > (k : Int)) := by omega
    simp only [Instr.makeSlice, Sem.run_bind, run_underlying (uSlice_of h1), Result.andThen_ok, conc, asInt, asIntOf, Sem.run_pure, typeInfo, run_program, hi1, hi2, e1, e2, e3, e4, e5, e6, decide_false, Bool.or_false, Bool.false_eq_true, if_false, run_askRoom, sizeA_of h4, Int.toNat_natCast, upd_same]
    by_cases hq : k * z = 0
    · rw [k1 hq, hq] at k2
      simp only [hq, if_true, Sem.run_bind, Sem.run_pure, Result.andThen_ok, k2, q2]
    · obtain ⟨v, hv, hvc⟩ := k1' hq
      simp only [hq, if_false, Sem.run_bind, hv, hvc, Sem.run_pure, Result.andThen_ok, k2, q2]
end
end Go.Ev
