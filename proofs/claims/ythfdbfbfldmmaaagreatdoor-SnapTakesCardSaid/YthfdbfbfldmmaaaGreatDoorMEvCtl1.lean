/-
  Control: slots, results, regions in the order of the text.
-/
import Derived.Test.YthfdbfbfldmmaaaGreatDoorMEvOps13
import Derived.TacticsIn
import Derived.LoopNIn
set_option linter.unusedVariables false
set_option linter.unusedSimpArgs false
set_option linter.unusedVariables false
set_option linter.unusedSimpArgs false
namespace Go.Ev
open Go.RowKit (Below)
section
variable {B : World} {Fm : Nat → Option Obj} {σ : Sig} {D : Nat → Prop} {s : St} {w : World}
def fen (σ : Sig) (r : Option Nat) : Fence := { Fence.wide with round := r.map fun l => (σ l).b }
theorem fen_fn (σ : Sig) (r : Option Nat) (f : FuncId) : (fen σ r).fn f := trivial
theorem fen_depth (σ : Sig) (r : Option Nat) : ¬ (fen σ r).depth.isSome = true := by simp [fen, Fence.wide]
def mrk (σ : Sig) : Dfr → Deferred
  | .mark b => { target := .collected (σ b).b, args := #[] }
  | .call f args => { target := .fn (.func f) #[], args := (concL σ args).toArray }
def OnDf (D : Nat → Prop) : Dfr → Prop
  | .mark b => D b
  | .call _ args => OnL D args
theorem mrk_ext {σ' : Sig} {D' : Nat → Prop} (e : Ext σ D σ' D') {d : Dfr} (h : OnDf D d) : mrk σ' d = mrk σ d := by
  cases d with
  | mark b => simp only [mrk, e.same b h]
  | call f args => simp only [mrk, e.concL h]
theorem onDf_ext {σ' : Sig} {D' : Nat → Prop} (e : Ext σ D σ' D') {d : Dfr} (h : OnDf D d) : OnDf D' d := by
  cases d with
  | mark b => exact e.sub b h
  | call f args => exact e.onL h
def exitOf : AX → Exit
  | .normal => .normal
  | .exit id => .exit id
  | .ret => .ret
structure Fr (σ : Sig) (D : Nat → Prop) (n : Nat) (t : T AV) (ds : List Dfr) (a : Act) : Prop where
  tm : Tm σ D n t a.tmps
  df : a.defers = ds.map (mrk σ)
  on : ∀ d ∈ ds, OnDf D d
theorem Fr.ext {σ' : Sig} {D' : Nat → Prop} {n : Nat} {tm : T AV} {df : List Dfr} {a : Act} (h : Fr σ D n tm df a) (e : Ext σ D σ' D') : Fr σ' D' n tm df a :=
  ⟨e.tm h.tm, by rw [h.df]; exact List.map_congr_left fun b hb => (mrk_ext e (h.on b hb)).symm, fun b hb => onDf_ext e (h.on b hb)⟩
theorem Tm.put {n : Nat} {tm tm' : T AV} {a : Act} {d : Option Tmp} {v : AV} (ht : Tm σ D n tm a.tmps) (h : putA n tm d v = some tm') (hv : On D v) : Tm σ D n tm' (a.put d (conc σ v)).tmps := by
  cases d with
  | none => cases h; exact ht
  | some t =>
    obtain ⟨h1, h2⟩ := gd_of (show gd (Nat.blt t n) (some (tm.set depth t v)) = some tm' from h)
    cases h2
    have hlt : t < n := by simpa [nblt] using h1
    have hget : ∀ u, tmA (tm.set depth t v) u = if u = t then v else tmA tm u := by
      intro u
      unfold tmA
      rw [T.get_set' tm v (Nat.le_of_lt (Nat.lt_of_lt_of_le hlt ht.lim)) u]
      split <;> rfl
    refine ⟨by simp [Act.put, ht.size], ht.lim, fun u => ?_, fun u => ?_⟩
    · rw [hget u]
      simp only [Act.put]
      by_cases hu : u = t
      · subst hu
        have := ht.size
        simp [this, hlt]
      · rw [if_neg hu, ← ht.val u]
        simp [Array.getElem?_setIfInBounds_ne (Ne.symm hu)]
    · rw [hget u]
      split
      · exact hv
      · exact ht.on u
theorem Fr.put {n : Nat} {tm tm' : T AV} {df : List Dfr} {a : Act} {d : Option Tmp} {v : AV} (hf : Fr σ D n tm df a) (h : putA n tm d v = some tm') (hv : On D v) : Fr σ D n tm' df (a.put d (conc σ v)) :=
  ⟨hf.tm.put h hv, by cases d <;> exact hf.df, hf.on⟩
theorem conc_bool {x : AV} {b : Bool} (h : conc σ x = .bool b) : x = .bool b := by
  cases x with
  | sl b o l c => cases c <;> simp [conc] at h
  | bool c => simp [conc] at h; rw [h]
  | _ => simp [conc] at h
theorem wantedA_of {n : Nat} {tm : T AV} {a : Act} (ht : Tm σ D n tm a.tmps) (ops : Array Oper) (o : Oper) : Region.wanted o (yielded ops a.tmps) = wantedA ops.toList tm o.guard := by
  unfold Region.wanted wantedA
  cases hg : o.guard with
  | none => rfl
  | some p =>
    obtain ⟨j, want⟩ := p
    simp only [nth_eq, Array.getElem?_toList, yielded]
    cases hj : ops[j]? with
    | none => simp
    | some oj =>
      simp only [Option.bind_some]
      cases hd : oj.dst with
      | none => simp
      | some d =>
        simp only [Option.bind_some]
        have hval := ht.val d
        cases hs : a.tmps[d]? with
        | none =>
          have : tmA tm d ≠ .bool want := by
            intro e
            rw [e] at hval
            simp [hs, conc, undef] at hval
          simp only
          split
          · rename_i b hb
            rw [hb] at hval
            simp [hs, conc, undef] at hval
          · simp
        | some v =>
          have hv : v = conc σ (tmA tm d) := by simpa [hs] using hval
          subst hv
          split
          · rename_i b hb
            have := conc_bool (Option.some.inj hb)
            rw [this]
            simp
          · rename_i hnb
            split
            · rename_i b hb
              exact absurd (by rw [hb]; simp [conc]) (hnb b)
            · simp
def Ret (B : World) (Fm : Nat → Option Obj) (σ : Sig) (D : Nat → Prop) (p : AV × St) : Ending → World → Prop := fun e w' =>
  ∃ σ' D', e = .returned (conc σ' p.1) ∧ Good B Fm σ' D' p.2 w' ∧ Ext σ D σ' D' ∧ On D' p.1
def CPost (B : World) (Fm : Nat → Option Obj) (σ : Sig) (D : Nat → Prop) (n : Nat) (o : Out) : Exit → Act → World → Prop := fun e a' w' =>
  e = exitOf o.x ∧ ∃ σ' D', Good B Fm σ' D' o.s w' ∧ Ext σ D σ' D' ∧ Fr σ' D' n o.tm o.df a'
theorem CPost.weaken {σ' : Sig} {D' : Nat → Prop} {n : Nat} {o : Out} {e : Exit} {a : Act} {w : World} (x : Ext σ D σ' D') (h : CPost B Fm σ' D' n o e a w) : CPost B Fm σ D n o e a w := by
  obtain ⟨h1, σ'', D'', h2, h3, h4⟩ := h
  exact ⟨h1, σ'', D'', h2, x.trans h3, h4⟩
theorem Ret.weaken {σ' : Sig} {D' : Nat → Prop} {p : AV × St} {e : Ending} {w : World} (x : Ext σ D σ' D') (h : Ret B Fm σ' D' p e w) : Ret B Fm σ D p e w := by
  obtain ⟨σ'', D'', h1, h2, h3, h4⟩ := h
  exact ⟨σ'', D'', h1, h2, x.trans h3, h4⟩
def EffOk (o : Oper) (tm : T AV) (s : St) (p : AV × St) : Prop :=
  ∀ {B : World} {Fm : Nat → Option Obj} {σ : Sig} {D : Nat → Prop} {w : World} {a : Act} {ρ : Option Nat} {next : Act → World → Prop} {Q : Exit → Act → World → Prop},
    Good B Fm σ D s w → EvOk σ D tm a o.op.operands.toList →
    (∀ σ' D' w' v, Good B Fm σ' D' p.2 w' → Ext σ D σ' D' → On D' p.1 → v = conc σ' p.1 → next (a.put o.dst v) w') → o.wpIn { Fence.wide with round := ρ } 0 PP a w next Q
inductive Kd where
  | skip
  | still
  | rd
  | mk (ob : AO)
  | ef (p : AV × St)
structure Stp where
  t : It
  d : Dr
  d' : Dr
  v : AV
  k : Kd
def KdOk (x : Stp) : Kd → Prop
  | .skip => x.v = undefA ∧ x.d' = ⟨x.d'.tm, x.d.s, x.t.i :: x.d.dn, x.d.efs, x.d.pds⟩
  | .still => still x.t.o.op = true ∧ (∃ s', opA x.d.s x.d.tm x.t.o = some (.val x.v s')) ∧ x.d' = ⟨x.d'.tm, x.d.s, x.t.i :: x.d.dn, x.d.efs, x.d.pds⟩
  | .rd => reads x.t.o.op = true ∧ (∃ s', opA x.d.s x.d.tm x.t.o = some (.val x.v s') ∧ s'.nx = x.d.s.nx) ∧ readsBack x.t.m x.d.tm x.t.o x.v x.d.efs = true ∧
      x.d' = ⟨x.d'.tm, x.d.s, x.t.i :: x.d.dn, x.d.efs, x.d.pds⟩
  | .mk ob => makes x.t.o.op = true ∧ (∃ s', opA x.d.s x.d.tm x.t.o = some (.val x.v s') ∧ s'.nx = x.d.s.nx + 1 ∧ s'.h.get x.d.s.nx = some ob) ∧ belowOps x.d.s.nx x.d.tm x.t.o.op.operands.toList = true ∧
      x.d' = ⟨x.d'.tm, { x.d.s with nx := x.d.s.nx + 1 }, x.t.i :: x.d.dn, x.d.efs, ⟨x.d.s.nx, ob⟩ :: x.d.pds⟩
  | .ef p => allL (bit x.t.m) x.d.dn = true ∧ EffOk x.t.o x.d.tm (publish x.d.pds x.d.s) p ∧ x.v = p.1 ∧ x.d.s.nx ≤ p.2.nx ∧
      x.d' = ⟨x.d'.tm, p.2, x.t.i :: x.d.dn, ⟨x.t.i, x.d.s⟩ :: x.d.efs, []⟩
def StpOk (n : Nat) (all : List Oper) (x : Stp) : Prop :=
  putA n x.d.tm x.t.o.dst x.v = some x.d'.tm ∧ (wantedA all x.d.tm x.t.o.guard = true ↔ ¬ x.k matches .skip) ∧ KdOk x x.k
inductive Tr (n : Nat) (all : List Oper) : List It → Dr → List Stp → Dr → Prop
  | nil {d : Dr} : Tr n all [] d [] d
  | cons {l : List It} {x : Stp} {xs : List Stp} {d : Dr} : StpOk n all x → Tr n all l x.d' xs d → Tr n all (x.t :: l) x.d (x :: xs) d
structure Sound (k : Nat) (F : Fns) : Prop where
  ops : ∀ {B : World} {Fm : Nat → Option Obj} {σ : Sig} {D : Nat → Prop} {s : St} {w : World} {n : Nat} {r : Option Nat} {ops : Array Oper} {l : List Oper} {tm : T AV} {df : List Dfr} {a : Act} {p : T AV × St} {Q : Exit → Act → World → Prop},
    F.ops n ops.toList l tm s = some p → Good B Fm σ D s w → Fr σ D n tm df a → (∀ l, r = some l → D l) → (∀ a' w', CPost B Fm σ D n ⟨.normal, p.1, df, p.2⟩ .normal a' w' → Q .normal a' w') →
    wpListIn (fen σ r) 0 PP ops Q l a w
  draw : ∀ {n : Nat} {all : List Oper} {l : List It} {d d' : Dr}, F.draw n all l d = some d' → ∃ xs, Tr n all l d xs d'
  code : ∀ {B : World} {Fm : Nat → Option Obj} {σ : Sig} {D : Nat → Prop} {s : St} {w : World} {n : Nat} {r : Option Nat} {c : Code} {tm : T AV} {df : List Dfr} {a : Act} {o : Out},
    F.code n r c tm df s = some o → Good B Fm σ D s w → Fr σ D n tm df a → (∀ l, r = some l → D l) → c.wpIn (fen σ r) 0 PP (CPost B Fm σ D n o) a w
  loop : ∀ {B : World} {Fm : Nat → Option Obj} {σ : Sig} {D : Nat → Prop} {s : St} {w : World} {n : Nat} {r : Option Nat} {c : Code} {tm : T AV} {df : List Dfr} {a : Act} {o : Out},
    F.code n r (.loop c) tm df s = some o → Good B Fm σ D s w → Fr σ D n tm df a → (∀ l, r = some l → D l) → Code.roundsIn (fen σ r) 0 PP c (CPost B Fm σ D n o) k a w
  call : ∀ {B : World} {Fm : Nat → Option Obj} {σ : Sig} {D : Nat → Prop} {s : St} {w : World} {f : FuncId} {args : List AV} {p : AV × St},
    F.call f args s = some p → Good B Fm σ D s w → OnL D args → CallsIn Fence.wide 0 PP f (concL σ args).toArray w (Ret B Fm σ D p)
  round : ∀ {B : World} {Fm : Nat → Option Obj} {σ : Sig} {D : Nat → Prop} {s : St} {w : World} {b : Nat} {args : List AV} {p : AV × St},
    F.round b args s = some p → Good B Fm σ D s w → OnL D args → D b →
    ∃ fn tmps assign body, (Instr.yield (σ b).b (concL σ args).toArray).run PP w = .ok (.round (σ b).b fn tmps assign body) w ∧ RoundIn Fence.wide 0 PP (σ b).b fn tmps assign body w (Ret B Fm σ D p)
theorem not_defer {tm : T AV} {o : Oper} {r : AN} (h : opA s tm o = some r) : ∀ c, o.op ≠ .defer c := by
  intro c hc
  simp [opA, hc, opD] at h
theorem finA_eff (hF : Facts) {k : Nat} {F : Fns} (hS : Sound k F) {tm : T AV} {s : St} {o : Oper} {x : AN} {p : AV × St} (h : opA s tm o = some x) (hp : finA F x = some p) : EffOk o tm s p := by
  intro B Fm σ D w a ρ next Q g he hn
  refine ⟨fun f _ => trivial, ?_⟩
  rw [Oper.semAt_eq _ _ _ (not_defer h)]
  have hop := opA_of hF g he h
  have hdep : ¬ (({ Fence.wide with round := ρ } : Fence).depth.isSome = true) := by simp [Fence.wide]
  cases x with
  | val v s' =>
    cases hp
    obtain ⟨σ', D', w', h1, h2, h3, h4⟩ := hop
    rcases h1 with h1 | ⟨rfl, h1⟩
    · rw [h1]
      exact hn σ' D' w' _ h2 h3 h4 rfl
    · rw [h1]
      exact hn σ' D' w' _ h2 h3 h4 (by simp [undefA, conc, concL, undef])
  | enter f args s' =>
    obtain ⟨rfl, h1, h2⟩ := hop
    rw [h1]
    refine ⟨fun e => absurd e hdep, ?_⟩
    have := hS.call hp g h2
    refine CallsIn.mono (show CallsIn { Fence.wide with round := ρ } (0 - 1) PP f (concL σ args).toArray w (Ret B Fm σ D p) from this) fun e w' he => ?_
    obtain ⟨σ', D', rfl, k1, k2, k3⟩ := he
    exact hn σ' D' w' _ k1 k2 k3 rfl
  | round b args s' =>
    obtain ⟨rfl, h1, h2, h3⟩ := hop
    obtain ⟨fn, tmps, assign, body, k1, k2⟩ := hS.round hp g h2 h3
    rw [h1, k1]
    refine ⟨fun e => absurd e hdep, ?_⟩
    refine RoundIn.mono (show RoundIn { Fence.wide with round := ρ } (0 - 1) PP (σ b).b fn tmps assign body w (Ret B Fm σ D p) from k2) fun e w' he => ?_
    obtain ⟨σ', D', rfl, k1, k2, k3⟩ := he
    exact hn σ' D' w' _ k1 k2 k3 rfl
theorem fen_ext {σ' : Sig} {D' : Nat → Prop} {r : Option Nat} (x : Ext σ D σ' D') (hr : ∀ l, r = some l → D l) : fen σ' r = fen σ r := by
  cases r with
  | none => rfl
  | some l => simp only [fen, Option.map_some, x.same l (hr l rfl)]
theorem ops_step (hF : Facts) {k : Nat} {F : Fns} (hS : Sound k F) {n : Nat} {r : Option Nat} {ops : Array Oper} {l : List Oper} {tm : T AV} {df : List Dfr} {a : Act} {p : T AV × St} {Q : Exit → Act → World → Prop}
    (h : opsA F n ops.toList l tm s = some p) (g : Good B Fm σ D s w) (ht : Fr σ D n tm df a) (hr : ∀ l, r = some l → D l) (hQ : ∀ a' w', CPost B Fm σ D n ⟨.normal, p.1, df, p.2⟩ .normal a' w' → Q .normal a' w') :
    wpListIn (fen σ r) 0 PP ops Q l a w := by
  cases l with
  | nil =>
    cases h
    exact hQ a w ⟨rfl, σ, D, g, Ext.refl _ _, ht⟩
  | cons o rest =>
    replace h : ifB (wantedA ops.toList tm o.guard) (oB (opA s tm o) fun a => oB (finA F a) (opsNext F n ops.toList rest tm o.dst)) (opsNext F n ops.toList rest tm o.dst (undefA, s)) = some p := h
    unfold wpListIn
    rw [wantedA_of ht.tm ops o]
    have next : ∀ (q : AV × St), opsNext F n ops.toList rest tm o.dst q = some p → ∀ σ' D' w' v, Good B Fm σ' D' q.2 w' → Ext σ D σ' D' → On D' q.1 → v = conc σ' q.1 →
        wpListIn (fen σ r) 0 PP ops Q rest (a.put o.dst v) w' := by
      intro q hq σ' D' w' v k1 k2 k3 hv
      obtain ⟨tm', q1, q2⟩ := oB_of hq
      subst hv
      rw [← fen_ext k2 hr]
      exact hS.ops q2 k1 ((ht.ext k2).put q1 k3) (fun l hl => k2.sub l (hr l hl)) (fun a' w' hc => hQ a' w' (hc.weaken k2))
    cases hw : wantedA ops.toList tm o.guard with
    | true =>
      rw [hw, ifB_true] at h
      rw [if_pos rfl]
      (have ⟨x, h1, hNew⟩ := oB_of h; replace h := hNew; clear hNew)
      (have ⟨q, h2, hNew⟩ := oB_of h; replace h := hNew; clear hNew)
      exact finA_eff hF hS h1 h2 g (EvOk.of_tm ht.tm _) (next q h)
    | false =>
      rw [hw, ifB_false] at h
      rw [if_neg (by simp)]
      exact ⟨fun f _ => fen_fn σ r f, next _ h σ D w undef g (Ext.refl _ _) (by simp [undefA, On, OnL]) (by simp [undefA, conc, concL, undef])⟩
def DrawOk : Prop := ∀ {B : World} {Fm : Nat → Option Obj} {σ : Sig} {D : Nat → Prop} {s : St} {w : World} {n : Nat} {r : Option Nat} {ops : Array Oper} {id : Nat} {tm : T AV} {df : List Dfr} {a : Act} {d : Dr} {xs : List Stp},
    regionOk ops.toList = true → Tr n ops.toList (orderOf ops.toList) ⟨tm, s, [], [], []⟩ xs d → d.s.nx ≤ top → Good B Fm σ D s w → Fr σ D n tm df a → (∀ l, r = some l → D l) →
    (Code.region id ops true).wpIn (fen σ r) 0 PP (CPost B Fm σ D n ⟨.normal, d.tm, df, publish d.pds d.s⟩) a w
theorem draw_step (hF : Facts) {k : Nat} {F : Fns} (hS : Sound k F) {n : Nat} {all : List Oper} {l : List It} {d d' : Dr} (h : drawA F n all l d = some d') : ∃ xs, Tr n all l d xs d' := by
  cases l with
  | nil => cases h; exact ⟨[], .nil⟩
  | cons t rest =>
    replace h : ifB (wantedA all d.tm t.o.guard) (drawOne F n all rest t d) (oB (putA n d.tm t.o.dst undefA) fun tm' => F.draw n all rest ⟨tm', d.s, t.i :: d.dn, d.efs, d.pds⟩) = some d' := h
    cases hw : wantedA all d.tm t.o.guard with
    | false =>
      rw [hw, ifB_false] at h
      (have ⟨tm', h1, hNew⟩ := oB_of h; replace h := hNew; clear hNew)
      obtain ⟨xs, ht⟩ := hS.draw h
      exact ⟨_, .cons (x := ⟨t, d, ⟨tm', d.s, t.i :: d.dn, d.efs, d.pds⟩, undefA, .skip⟩) ⟨h1, by simp [hw], rfl, rfl⟩ ht⟩
    | true =>
      rw [hw, ifB_true] at h
      unfold drawOne at h
      cases h1 : still t.o.op with
      | true =>
        rw [h1, ifB_true] at h
        (have ⟨x, h2, hNew⟩ := oB_of h; replace h := hNew; clear hNew)
        cases x <;> first | (cases h; done) | skip
        rename_i v s'
        replace h : (oB (putA n d.tm t.o.dst v) fun tm' => F.draw n all rest ⟨tm', d.s, t.i :: d.dn, d.efs, d.pds⟩) = some d' := h
        (have ⟨tm', h3, hNew⟩ := oB_of h; replace h := hNew; clear hNew)
        obtain ⟨xs, ht⟩ := hS.draw h
        exact ⟨_, .cons (x := ⟨t, d, ⟨tm', d.s, t.i :: d.dn, d.efs, d.pds⟩, v, .still⟩) ⟨h3, by simp [hw], h1, ⟨s', h2⟩, rfl⟩ ht⟩
      | false =>
        rw [h1, ifB_false] at h
        cases h2 : reads t.o.op with
        | true =>
          rw [h2, ifB_true] at h
          (have ⟨x, h3, hNew⟩ := oB_of h; replace h := hNew; clear hNew)
          cases x <;> first | (cases h; done) | skip
          rename_i v s'
          replace h : gd (Nat.beq s'.nx d.s.nx && readsBack t.m d.tm t.o v d.efs) (oB (putA n d.tm t.o.dst v) fun tm' => F.draw n all rest ⟨tm', d.s, t.i :: d.dn, d.efs, d.pds⟩) = some d' := h
          (have ⟨h4, hNew⟩ := gd_of h; replace h := hNew; clear hNew)
          (have ⟨tm', h5, hNew⟩ := oB_of h; replace h := hNew; clear hNew)
          simp only [Bool.and_eq_true, nbeq, decide_eq_true_eq] at h4
          obtain ⟨xs, ht⟩ := hS.draw h
          exact ⟨_, .cons (x := ⟨t, d, ⟨tm', d.s, t.i :: d.dn, d.efs, d.pds⟩, v, .rd⟩) ⟨h5, by simp [hw], h2, ⟨s', h3, h4.1⟩, h4.2, rfl⟩ ht⟩
        | false =>
          rw [h2, ifB_false] at h
          cases h3 : makes t.o.op with
          | true =>
            rw [h3, ifB_true] at h
            (have ⟨x, h4, hNew⟩ := oB_of h; replace h := hNew; clear hNew)
            cases x <;> first | (cases h; done) | skip
            rename_i v s'
            replace h : gd (Nat.beq s'.nx (d.s.nx + 1) && belowOps d.s.nx d.tm t.o.op.operands.toList) (oB (s'.h.get d.s.nx) fun ob => oB (putA n d.tm t.o.dst v) fun tm' =>
              F.draw n all rest ⟨tm', { d.s with nx := d.s.nx + 1 }, t.i :: d.dn, d.efs, ⟨d.s.nx, ob⟩ :: d.pds⟩) = some d' := h
            (have ⟨h5, hNew⟩ := gd_of h; replace h := hNew; clear hNew)
            (have ⟨ob, h6, hNew⟩ := oB_of h; replace h := hNew; clear hNew)
            (have ⟨tm', h7, hNew⟩ := oB_of h; replace h := hNew; clear hNew)
            simp only [Bool.and_eq_true, nbeq, decide_eq_true_eq] at h5
            obtain ⟨xs, ht⟩ := hS.draw h
            exact ⟨_, .cons (x := ⟨t, d, ⟨tm', { d.s with nx := d.s.nx + 1 }, t.i :: d.dn, d.efs, ⟨d.s.nx, ob⟩ :: d.pds⟩, v, .mk ob⟩) ⟨h7, by simp [hw], h3, ⟨s', h4, h5.1, h6⟩, h5.2, rfl⟩ ht⟩
          | false =>
            rw [h3, ifB_false] at h
            (have ⟨h4, hNew⟩ := gd_of h; replace h := hNew; clear hNew)
            (have ⟨x, h5, hNew⟩ := oB_of h; replace h := hNew; clear hNew)
            (have ⟨p, h6, hNew⟩ := oB_of h; replace h := hNew; clear hNew)
            replace h : gd (Nat.ble d.s.nx p.2.nx) (oB (putA n d.tm t.o.dst p.1) fun tm' => F.draw n all rest ⟨tm', p.2, t.i :: d.dn, ⟨t.i, d.s⟩ :: d.efs, []⟩) = some d' := h
            (have ⟨h7, hNew⟩ := gd_of h; replace h := hNew; clear hNew)
            (have ⟨tm', h8, hNew⟩ := oB_of h; replace h := hNew; clear hNew)
            simp only [nble, decide_eq_true_eq] at h7
            obtain ⟨xs, ht⟩ := hS.draw h
            exact ⟨_, .cons (x := ⟨t, d, ⟨tm', p.2, t.i :: d.dn, ⟨t.i, d.s⟩ :: d.efs, []⟩, p.1, .ef p⟩) ⟨h8, by simp [hw], h4, finA_eff hF hS h5 h6, rfl, h7, rfl⟩ ht⟩
end
end Go.Ev
