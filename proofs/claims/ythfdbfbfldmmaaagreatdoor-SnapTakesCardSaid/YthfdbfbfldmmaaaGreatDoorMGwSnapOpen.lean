/-
  The law arboretumlaw22.SnapTakes: what stands behind some messages: a receiver, the document's, a book of what was told. Rows of messages: what is known of each. What the reading of an argument of type []api.Msg says of it.
-/
import Derived.Test.YthfdbfbfldmmaaaGreatDoorMGwSnapRef
import Derived.Test.YthfdbfbfldmmaaaGreatDoorMGvRows
import Derived.Deep.Slices
set_option linter.unusedVariables false
set_option linter.unusedSimpArgs false
set_option linter.unusedVariables false
set_option linter.unusedSimpArgs false
namespace Go.Ev
open Go.Proofs Go.RowKit
theorem RcvAt.notBlk {W : World} {B b : Nat} {bg : Bool} {fr ix tm : Int} {mem : Value} {done : Bool} {ch : Option Nat} {pv : Value} {n : Nat} {xs : List Value} (h : RcvAt W B b bg fr ix tm mem done ch pv n xs) {k : Nat} {T : TypeId} {cs : Array Value} (hb : Blk W k T cs) (h1 : T ≠ 33) (h2 : T ≠ 59) : ¬ RcvS b ch pv k := by
  rintro (rfl | hs | hs)
  · exact h1 (hb.eq h.blk).1
  · obtain ⟨⟨_, _, hc⟩, _⟩ := h.chan _ hs
    have hb : W.heap[k]? = _ := hb
    rw [hc] at hb
    cases hb
  · exact own_ne h.row hb h2 k hs rfl
theorem RcvAt.notRow {W : World} {B b : Nat} {bg : Bool} {fr ix tm : Int} {mem : Value} {done : Bool} {ch : Option Nat} {pv : Value} {n : Nat} {xs : List Value} (h : RcvAt W B b bg fr ix tm mem done ch pv n xs) {B2 z m : Nat} {T : TypeId} {v : Value} {ys : List Value} (ho : W.ownsRow B2 T z v m ys) (h1 : T ≠ 33) (hf : ∀ k, v.ownBlock = some k → pv.ownBlock ≠ some k) : ∀ k, v.ownBlock = some k → ¬ RcvS b ch pv k := by
  rintro k e (rfl | hs | hs)
  · exact own_ne ho h.blk (fun e => h1 e.symm) k e rfl
  · obtain ⟨⟨_, _, hc⟩, _⟩ := h.chan _ hs
    rcases ho.2 with ⟨e2, _⟩ | ⟨g, _, _, e2, _, hg, _⟩
    · rw [e2] at e; cases e
    · rw [e2] at e
      have e : g = k := by simpa [Value.ownBlock] using e
      rw [e, hc] at hg
      cases hg
  · exact hf k e hs
theorem RcvAt.keeps {S : Nat → Prop} {W W' : World} {B b : Nat} {bg : Bool} {fr ix tm : Int} {mem : Value} {done : Bool} {ch : Option Nat} {pv : Value} {n : Nat} {xs : List Value} (h : RcvAt W B b bg fr ix tm mem done ch pv n xs) (hk : Keeps S W W') (hS : ∀ k, RcvS b ch pv k → ¬ S k) : RcvAt W' B b bg fr ix tm mem done ch pv n xs :=
  ⟨h.blk.keeps hk (hS b (.inl rfl)), own_keeps h.row hk (fun k e => hS k (.inr (.inr e))), fun c e => ⟨by
    obtain ⟨s, r, hc⟩ := (h.chan c e).1
    exact ⟨s, r, (hk.block c (Array.getElem?_eq_some_iff.1 hc).1 (hS c (.inr (.inl e)))).trans hc⟩, (h.chan c e).2⟩, h.low, h.far⟩
theorem RcvAt.lt {W : World} {B b : Nat} {bg : Bool} {fr ix tm : Int} {mem : Value} {done : Bool} {ch : Option Nat} {pv : Value} {n : Nat} {xs : List Value} (h : RcvAt W B b bg fr ix tm mem done ch pv n xs) : ∀ k, RcvS b ch pv k → B ≤ k ∧ k < W.heap.size := by
  rintro k (rfl | hs | hs)
  · exact ⟨h.low, h.blk.lt⟩
  · obtain ⟨⟨_, _, hc⟩, hB⟩ := h.chan _ hs
    exact ⟨hB, (Array.getElem?_eq_some_iff.1 hc).1⟩
  · exact h.row.lt k hs
theorem RfIs.keeps {S : Nat → Prop} {W W' : World} {B b : Nat} {s : RcM} {mem pv : Value} (h : RfIs W B b s mem pv) (hk : Keeps S W W') (h1 : ¬ S b) (h2 : ∀ k, pv.ownBlock = some k → ¬ S k) : RfIs W' B b s mem pv :=
  ⟨h.blk.keeps hk h1, own_keeps h.row hk h2, h.low, h.far⟩
structure SnI (W : World) (B b rb g : Nat) (s s2 : RcM) (i : Nat) (mem : Value) (ch : Option Nat) (pv mem2 pv2 bp bw : Value) (ms ws : List Value) (ls : List (List Pair)) : Prop where
  rcv : RcvIs W B b s mem ch pv
  ref : RfIs W B rb s2 mem2 pv2
  bk : BookAt W B g bp bw ms ws
  rm : RowsO W B ms ls
  rw' : RowsO W B ws ls
  ap : Apart ms
  lm : ms.length = i
  far2 : ∀ k, pv.ownBlock = some k → pv2.ownBlock ≠ some k
  farm : ∀ k, pv.ownBlock = some k → ¬ OfP ms k
  farw : ∀ k, pv.ownBlock = some k → ¬ OfP ws k
section
variable {W W' : World} {B b rb g : Nat} {s s2 : RcM} {i : Nat} {mem : Value} {ch : Option Nat} {pv mem2 pv2 bp bw : Value} {ms ws : List Value} {ls : List (List Pair)}
theorem RowsO.ltP (h : RowsO W B ms ls) : ∀ k, OfP ms k → B ≤ k ∧ k < W.heap.size := fun k ⟨i, v, hv, e⟩ => by
  obtain ⟨l, hl⟩ : ∃ l, ls[i]? = some l := ⟨_, List.getElem?_eq_getElem (by rw [← h.1]; exact (List.getElem?_eq_some_iff.1 hv).1)⟩
  exact (h.2 i v l hv hl).lt k e
theorem RowsO.keeps {S : Nat → Prop} (h : RowsO W B ms ls) (hk : Keeps S W W') (hS : ∀ k, OfP ms k → ¬ S k) : RowsO W' B ms ls :=
  ⟨h.1, fun i v l h1 h2 => own_keeps (h.2 i v l h1 h2) hk fun k e => hS k ⟨i, v, h1, e⟩⟩
theorem RowsO.own (h : RowsO W B ms ls) {v : Value} {i : Nat} (hv : ms[i]? = some v) : ∃ n l, W.ownsRow B 59 2 v n (pairsCs l) := by
  obtain ⟨l, hl⟩ : ∃ l, ls[i]? = some l := ⟨_, List.getElem?_eq_getElem (by rw [← h.1]; exact (List.getElem?_eq_some_iff.1 hv).1)⟩
  exact ⟨_, _, h.2 i v l hv hl⟩
theorem SnI.keeps {S : Nat → Prop} (h : SnI W B b rb g s s2 i mem ch pv mem2 pv2 bp bw ms ws ls) (hk : Keeps S W W') (hS : ∀ k, S k → W.heap.size ≤ k ∨ k < B) : SnI W' B b rb g s s2 i mem ch pv mem2 pv2 bp bw ms ws ls := by
  have out : ∀ k, B ≤ k ∧ k < W.heap.size → ¬ S k := fun k hk2 hs => by have := hS k hs; omega
  exact ⟨h.rcv.keeps hk fun k hs => out k (h.rcv.lt k hs), h.ref.keeps hk (out _ ⟨h.ref.low, h.ref.blk.lt⟩) fun k e => out k (h.ref.row.lt k e), h.bk.keeps hk fun k hs => out k (h.bk.lt k hs), h.rm.keeps hk fun k hs => out k (h.rm.ltP k hs), h.rw'.keeps hk fun k hs => out k (h.rw'.ltP k hs), h.ap, h.lm, h.far2, h.farm, h.farw⟩
theorem SnI.below (h : SnI W B b rb g s s2 i mem ch pv mem2 pv2 bp bw ms ws ls) (hb : Below W.heap.size W W') : SnI W' B b rb g s s2 i mem ch pv mem2 pv2 bp bw ms ws ls :=
  h.keeps (S := fun _ => False) (Keeps.of_below hb) fun _ h => h.elim
theorem SnI.took {s' : RcM} {mem' : Value} {ch' : Option Nat} {pv' : Value} (h : SnI W B b rb g s s2 i mem ch pv mem2 pv2 bp bw ms ws ls) (hk : Keeps (RcvS b ch pv) W W') (hr : RcvIs W' B b s' mem' ch' pv') (hp : ∀ k, pv'.ownBlock = some k → pv.ownBlock = some k ∨ W.heap.size ≤ k) : SnI W' B b rb g s' s2 i mem' ch' pv' mem2 pv2 bp bw ms ws ls := by
  have hm : ∀ k, OfP ms k → ¬ RcvS b ch pv k := fun k ⟨j, v, hv, e⟩ => by
    obtain ⟨n, l, ho⟩ := h.rm.own hv
    exact h.rcv.notRow ho (by decide) (fun k e e2 => h.farm k e2 ⟨j, v, hv, e⟩) k e
  have hw : ∀ k, OfP ws k → ¬ RcvS b ch pv k := fun k ⟨j, v, hv, e⟩ => by
    obtain ⟨n, l, ho⟩ := h.rw'.own hv
    exact h.rcv.notRow ho (by decide) (fun k e e2 => h.farw k e2 ⟨j, v, hv, e⟩) k e
  refine ⟨hr, h.ref.keeps hk (h.rcv.notBlk h.ref.blk (by decide) (by decide)) (h.rcv.notRow h.ref.row (by decide) fun k e e2 => h.far2 k e2 e), h.bk.keeps hk ?_, h.rm.keeps hk hm, h.rw'.keeps hk hw, h.ap, h.lm, fun k e => ?_, fun k e => ?_, fun k e => ?_⟩
  · rintro k (rfl | e | e)
    · exact h.rcv.notBlk h.bk.blk (by decide) (by decide)
    · exact h.rcv.notRow h.bk.pr (by decide) (fun k e e2 => own_apart h.rcv.row h.bk.pr (by decide) k e2 e) k e
    · exact h.rcv.notRow h.bk.wr (by decide) (fun k e e2 => own_apart h.rcv.row h.bk.wr (by decide) k e2 e) k e
  · rcases hp k e with e | e
    · exact h.far2 k e
    · intro e2; have := (h.ref.row.lt k e2).2; omega
  · rcases hp k e with e | e
    · exact h.farm k e
    · intro e2; have := (h.rm.ltP k e2).2; omega
  · rcases hp k e with e | e
    · exact h.farw k e
    · intro e2; have := (h.rw'.ltP k e2).2; omega
theorem SnI.took2 {s' : RcM} {mem' pv' : Value} (h : SnI W B b rb g s s2 i mem ch pv mem2 pv2 bp bw ms ws ls) (hk : Keeps (fun k => k = rb) W W') (hr : RfIs W' B rb s' mem' pv') (hp : ∀ k, pv'.ownBlock = some k → pv2.ownBlock = some k ∨ W.heap.size ≤ k) : SnI W' B b rb g s s' i mem ch pv mem' pv' bp bw ms ws ls := by
  refine ⟨h.rcv.keeps hk fun k hs e => h.rcv.notBlk (e ▸ h.ref.blk) (by decide) (by decide) hs, hr, h.bk.keeps hk ?_, h.rm.keeps hk fun k ⟨j, v, hv, e⟩ e2 => ?_, h.rw'.keeps hk fun k ⟨j, v, hv, e⟩ e2 => ?_, h.ap, h.lm, fun k e => ?_, h.farm, h.farw⟩
  · rintro k (rfl | e | e) e2
    · exact absurd (h.bk.blk.eq (e2 ▸ h.ref.blk)).1 (by decide)
    · exact own_ne h.bk.pr h.ref.blk (by decide) k e e2
    · exact own_ne h.bk.wr h.ref.blk (by decide) k e e2
  · obtain ⟨n, l, ho⟩ := h.rm.own hv
    exact own_ne ho h.ref.blk (by decide) k e e2
  · obtain ⟨n, l, ho⟩ := h.rw'.own hv
    exact own_ne ho h.ref.blk (by decide) k e e2
  · intro e2
    rcases hp k e2 with e2 | e2
    · exact h.far2 k e e2
    · have := (h.rcv.row.lt k e).2; omega
theorem ofP_snoc {ms : List Value} {v : Value} {N : Nat} (h : ∀ q, v.ownBlock = some q → N ≤ q) : ∀ q, OfP (ms ++ [v]) q → OfP ms q ∨ N ≤ q := by
  rintro q ⟨j, u, hu, e⟩
  rw [List.getElem?_append] at hu
  split at hu
  · exact .inl ⟨j, u, hu, e⟩
  · have hj : j - ms.length < 1 := (List.getElem?_eq_some_iff.1 hu).1
    rw [show j - ms.length = 0 by omega] at hu
    cases hu
    exact .inr (h q e)
theorem SnI.lent {B0 n gl : Nat} {u : Value} {cs : List Value} (h : SnI W B b rb g s s2 i mem ch pv mem2 pv2 bp bw ms ws ls) (ho : W.ownsRow B0 59 2 u n cs) (hu : u.ownBlock = some gl) (h1 : pv.ownBlock ≠ some gl) (h2 : pv2.ownBlock ≠ some gl) (h3 : ¬ OfP ms gl) (h4 : ¬ OfP ws gl) (hk : Keeps (fun q => q = gl) W W') : SnI W' B b rb g s s2 i mem ch pv mem2 pv2 bp bw ms ws ls := by
  have hr : ¬ RcvS b ch pv gl := h.rcv.notRow ho (by decide) (fun k e e2 => by rw [hu] at e; cases e; exact h1 e2) gl hu
  refine ⟨h.rcv.keeps hk fun k hs e => hr (e ▸ hs), h.ref.keeps hk (fun e => own_ne ho h.ref.blk (by decide) gl hu e.symm) (fun k e e2 => h2 (e2 ▸ e)), h.bk.keeps hk ?_, h.rm.keeps hk fun k hs e => h3 (e ▸ hs), h.rw'.keeps hk fun k hs e => h4 (e ▸ hs), h.ap, h.lm, h.far2, h.farm, h.farw⟩
  rintro k (e | e | e) e2
  · exact own_ne ho h.bk.blk (by decide) gl hu (by rw [← e2, e])
  · exact own_apart ho h.bk.pr (by decide) gl hu (e2 ▸ e)
  · exact own_apart ho h.bk.wr (by decide) gl hu (e2 ▸ e)
theorem SnI.kept {n : Nat} {v : Value} {l : List Pair} {e : Ending} (h : SnI W B b rb g s s2 i mem ch pv mem2 pv2 bp bw ms ws ls) {W0 : World} (hz0 : W0.heap.size ≤ W.heap.size) (ho : W.ownsRow W0.heap.size 59 2 v l.length (pairsCs l)) (hB0 : B ≤ W0.heap.size) (hold : ∀ k, RcvS b ch pv k ∨ pv2.ownBlock = some k ∨ OfP ms k ∨ OfP ws k → k < W0.heap.size) (hp : BookPairsP B g bp bw ms ws v l.length l W e W') :
    e = .returned (.tuple #[]) ∧ ∃ bp' bw' ws', SnI W' B b rb g s s2 (i + 1) mem ch pv mem2 pv2 bp' bw' (ms ++ [v]) ws' (ls ++ [l]) ∧ Keeps (BookS g bp bw) W W' ∧ (∀ q, OfP (ms ++ [v]) q → OfP ms q ∨ W0.heap.size ≤ q) ∧ (∀ q, OfP ws' q → OfP ws q ∨ W.heap.size ≤ q) := by
  obtain ⟨rfl, bp', bw', x, hbk, hx, hK⟩ := hp
  have hzW := hK.size
  have hv : ∀ k, v.ownBlock = some k → W0.heap.size ≤ k ∧ k < W.heap.size := fun k e => ho.lt k e
  have ho' : W'.ownsRow B 59 2 v l.length (pairsCs l) := own_low (own_keeps ho hK fun k e => own_far ho h.bk k e) hB0
  have hx' : W'.ownsRow B 59 2 x l.length (pairsCs l) := own_low hx (Nat.le_trans hB0 hz0)
  have hlen : ls.length = i := by rw [← h.rm.1, h.lm]
  have hwl : ws.length = ls.length := h.rw'.1
  refine ⟨rfl, bp', bw', _, ⟨h.rcv.keeps hK ?_, h.ref.keeps hK ?_ ?_, hbk, ⟨by simp [h.rm.1], fun j u r h1 h2 => ?_⟩, ⟨by simp [hwl], fun j u r h1 h2 => ?_⟩, ?_, by simp [h.lm], h.far2, fun k e => ?_, fun k e => ?_⟩, hK, ofP_snoc fun q e => (hv q e).1, ofP_snoc fun q e => (hx.lt q e).1⟩
  · rintro k hs (rfl | e | e)
    · exact h.rcv.notBlk h.bk.blk (by decide) (by decide) hs
    · exact h.rcv.notRow h.bk.pr (by decide) (fun k e e2 => own_apart h.rcv.row h.bk.pr (by decide) k e2 e) k e hs
    · exact h.rcv.notRow h.bk.wr (by decide) (fun k e e2 => own_apart h.rcv.row h.bk.wr (by decide) k e2 e) k e hs
  · rintro (e | e | e)
    · exact absurd (h.bk.blk.eq (e ▸ h.ref.blk)).1 (by decide)
    · exact own_ne h.bk.pr h.ref.blk (by decide) _ e rfl
    · exact own_ne h.bk.wr h.ref.blk (by decide) _ e rfl
  · intro k e hs
    rcases hs with rfl | e2 | e2
    · exact own_ne h.ref.row h.bk.blk (by decide) _ e rfl
    · exact own_apart h.ref.row h.bk.pr (by decide) k e e2
    · exact own_apart h.ref.row h.bk.wr (by decide) k e e2
  · have hrm := h.rm.keeps hK fun k hs hb => h.rm.far h.bk k hb hs
    rw [List.getElem?_append] at h1 h2
    split at h1
    · rw [if_pos (by rw [← h.rm.1]; assumption)] at h2
      exact hrm.2 j u r h1 h2
    · rw [if_neg (by rw [← h.rm.1]; assumption)] at h2
      have hj : j - ms.length < 1 := (List.getElem?_eq_some_iff.1 h1).1
      rw [show j - ms.length = 0 by omega] at h1
      rw [show j - ls.length = 0 by rw [← h.rm.1]; omega] at h2
      cases h1; cases h2
      exact ho'
  · have hrw := h.rw'.keepsB h.bk hK
    rw [List.getElem?_append] at h1 h2
    split at h1
    · rw [if_pos (by rw [← hwl]; assumption)] at h2
      exact hrw.2 j u r h1 h2
    · rw [if_neg (by rw [← hwl]; assumption)] at h2
      have hj : j - ws.length < 1 := (List.getElem?_eq_some_iff.1 h1).1
      rw [show j - ws.length = 0 by omega] at h1
      rw [show j - ls.length = 0 by rw [← hwl]; omega] at h2
      cases h1; cases h2
      exact hx'
  · intro j1 j2 v1 v2 h1 h2 hne k e1 e2
    rw [List.getElem?_append] at h1 h2
    split at h1
    · split at h2
      · exact h.ap j1 j2 v1 v2 h1 h2 hne k e1 e2
      · have hj : j2 - ms.length < 1 := (List.getElem?_eq_some_iff.1 h2).1
        rw [show j2 - ms.length = 0 by omega] at h2
        cases h2
        have := hold k (.inr (.inr (.inl ⟨j1, v1, h1, e1⟩)))
        have := (hv k e2).1
        omega
    · have hj : j1 - ms.length < 1 := (List.getElem?_eq_some_iff.1 h1).1
      rw [show j1 - ms.length = 0 by omega] at h1
      cases h1
      split at h2
      · have := hold k (.inr (.inr (.inl ⟨j2, v2, h2, e2⟩)))
        have := (hv k e1).1
        omega
      · have hj2 : j2 - ms.length < 1 := (List.getElem?_eq_some_iff.1 h2).1
        omega
  · rintro ⟨j, u, hu, e2⟩
    rw [List.getElem?_append] at hu
    split at hu
    · exact h.farm k e ⟨j, u, hu, e2⟩
    · have hj : j - ms.length < 1 := (List.getElem?_eq_some_iff.1 hu).1
      rw [show j - ms.length = 0 by omega] at hu
      cases hu
      have := hold k (.inl (.inr (.inr e)))
      have := (hv k e2).1
      omega
  · rintro ⟨j, u, hu, e2⟩
    rw [List.getElem?_append] at hu
    split at hu
    · exact h.farw k e ⟨j, u, hu, e2⟩
    · have hj : j - ws.length < 1 := (List.getElem?_eq_some_iff.1 hu).1
      rw [show j - ws.length = 0 by omega] at hu
      cases hu
      have := hold k (.inl (.inr (.inr e)))
      have := (hx.lt k e2).1
      omega
end
end Go.Ev

set_option linter.unusedVariables false
set_option linter.unusedSimpArgs false
namespace Go.Ev
open Go.Proofs Go.RowKit
structure MsgR where
  m : MsgV
  A : Option Addr
  k : Nat
  c : Nat
  qs : List Pair
  A2 : Option Addr
  k2 : Nat
  c2 : Nat
  zs : List Value
  Ae : Option Addr
  ke : Nat
  ce : Nat
  ti : Int
  tr : Int
  cm : Int
  rd : Int
  okb : Bool
structure MsgOk (w : World) (x : MsgR) : Prop where
  hp : x.m.pairs = .slice x.A x.k x.c
  hm : x.m.mems = .slice x.A2 x.k2 x.c2
  he : x.m.ents = .slice x.Ae x.ke x.ce
  hto : x.m.dst = .int .i64 x.ti
  htr : x.m.term = .int .i64 x.tr
  hcm : x.m.commit = .int .i64 x.cm
  hrd : x.m.round = .int .i64 x.rd
  hob : x.m.ok = .bool x.okb
  sp : Sl w 2 (.slice x.A x.k x.c) x.k (pairsCs x.qs)
  np : x.A = none → x.c = 0
  sm : Sl w 1 (.slice x.A2 x.k2 x.c2) x.k2 x.zs
  nm : x.A2 = none → x.c2 = 0
  one : ∀ u ∈ x.zs, u.oneCell' = true
  te : TxAt w 4 3 x.Ae x.ke
  t0 : TxAt w 2 0 x.A x.k
  t1 : TxAt w 2 1 x.A x.k
  lk : x.k ≤ 9223372036854775807
  lk2 : x.k2 ≤ 9223372036854775807
  lke : x.ke ≤ 9223372036854775807
def msgCs (x : MsgR) : List Value := x.m.cs.toList
theorem msgCs_len (x : MsgR) : (msgCs x).length = 14 := rfl
def MsgsAt (w : World) (v : Value) (xs : List MsgR) : Prop := Sl w 14 v xs.length (xs.flatMap msgCs) ∧ xs.length ≤ maxLen ∧ ∀ x ∈ xs, MsgOk w x
theorem MsgOk.below {w w' : World} {x : MsgR} (h : MsgOk w x) (hb : Below w.heap.size w w') : MsgOk w' x :=
  ⟨h.hp, h.hm, h.he, h.hto, h.htr, h.hcm, h.hrd, h.hob, h.sp.below hb, h.np, h.sm.below hb, h.nm, h.one, h.te.below hb, h.t0.below hb, h.t1.below hb, h.lk, h.lk2, h.lke⟩
theorem MsgOk.len {w : World} {x : MsgR} (h : MsgOk w x) : x.qs.length = x.k := by
  obtain ⟨_, _, _, _, h1, _⟩ := h.sp
  rw [pairsCs_len] at h1
  omega
theorem MsgsAt.cell {w : World} {A : Option Addr} {n c : Nat} {xs : List MsgR} (h : MsgsAt w (.slice A n c) xs) (i : Nat) (hi : i < xs.length) : ∃ b o, A = some ⟨b, o, none⟩ ∧ b < w.heap.size ∧ ∀ r u, xs[i].m.cs[r]? = some u → w.cell? ⟨b, o + (i * 14 + r), none⟩ = some u := by
  obtain ⟨A', c', e0, _, h1, h2⟩ := h.1
  cases e0
  obtain ⟨b, o, rfl, hb, hc⟩ := h2 (by omega)
  refine ⟨b, o, rfl, hb, fun r u hu => hc _ _ ?_⟩
  have hr : r < 14 := (Array.getElem?_eq_some_iff.1 hu).1
  rw [flat_at msgCs_len xs i r hi hr]
  simpa [msgCs] using hu
theorem MsgOk.cs {w : World} {x : MsgR} (h : MsgOk w x) : x.m.cs = #[.int .i64 x.m.kind, .int .i64 x.m.fr, .int .i64 x.ti, .int .i64 x.tr, .int .i64 x.m.ix, .int .i64 x.m.tm, .int .i64 x.cm, .int .i64 x.rd, .bool x.okb, .bool x.m.done, .slice x.Ae x.ke x.ce, .slice x.A2 x.k2 x.c2, .int .i64 x.m.off, .slice x.A x.k x.c] := by
  rw [← h.he, ← h.hm, ← h.hp, ← h.hto, ← h.htr, ← h.hcm, ← h.hrd, ← h.hob]
  rfl
theorem SnI.start {W : World} {B b rb g : Nat} (h1 : Blk W b 33 (rcvCs false 0 0 0 (.slice none 0 0) false none (.slice none 0 0))) (h2 : Blk W rb 30 (rfCs false 0 0 0 (.slice none 0 0) (.slice none 0 0) false)) (h3 : Blk W g 47 (bookCs (.slice none 0 0) (.slice none 0 0))) (l1 : B ≤ b) (l2 : B ≤ rb) (l3 : B ≤ g) :
    SnI W B b rb g ⟨false, 0, 0, 0, false, 0, []⟩ ⟨false, 0, 0, 0, false, 0, []⟩ 0 (.slice none 0 0) none (.slice none 0 0) (.slice none 0 0) (.slice none 0 0) (.slice none 0 0) (.slice none 0 0) [] [] [] :=
  ⟨⟨h1, World.ownsRow_nil _ _ _ _, (fun c e => by cases e), l1, by simp [Value.ownBlock]⟩, ⟨h2, World.ownsRow_nil _ _ _ _, l2, by simp [Value.ownBlock]⟩, ⟨h3, World.ownsRow_nil _ _ _ _, World.ownsRow_nil _ _ _ _, (fun k e => by cases e), l3⟩, ⟨rfl, (fun i v l h => by simp at h)⟩, ⟨rfl, (fun i v l h => by simp at h)⟩, (fun i j v u h => by simp at h), rfl, (fun k e => by cases e), (fun k e => by cases e), (fun k e => by cases e)⟩
theorem lent_sl {w : World} {B g cap k : Nat} {qs : List Pair} (h : w.ownsRow B 59 2 (.slice (some ⟨g, 0, none⟩) (k + 1) cap) (k + 1) (pairsCs (qs ++ [(markW, [])]))) (hq : qs.length = k) : Sl w 2 (.slice (some ⟨g, 0, none⟩) k cap) k (pairsCs qs) := by
  have hcap : k + 1 ≤ cap := by
    rcases h.2 with ⟨e, _⟩ | ⟨_, _, _, e, _, _, h, _⟩
    · cases e
    · cases e; exact h
  have hcs := h.cells (g := g) rfl
  refine ⟨_, _, rfl, by omega, by rw [pairsCs_len, hq], fun _ => ⟨g, 0, rfl, (h.lt g rfl).2, fun j u hu => ?_⟩⟩
  have hj := (List.getElem?_eq_some_iff.1 hu).1
  have := hcs j u (by rw [pairsCs_app, List.getElem?_append_left hj]; exact hu)
  rw [addr_add] at this
  exact this
theorem take_list {s : RcM} {L : List Pair} (m : MsgV) (k : Nat) (qs : List Pair) (hx : s.xs = pairsCs L) (hn : s.n = L.length) (hq : qs.length = k) (hk : k ≤ 60) : ∃ L', (s.take m k (pairsCs qs)).xs = pairsCs L' ∧ (s.take m k (pairsCs qs)).n = L'.length ∧ L'.length ≤ L.length + 60 := by
  unfold RcM.take
  split
  · split
    · exact ⟨qs, rfl, hq.symm, by omega⟩
    · split
      · exact ⟨L ++ qs, by simp only [hx, pairsCs_app], by simp only [hn, List.length_append, hq], by rw [List.length_append]; omega⟩
      · exact ⟨L, hx, hn, by omega⟩
  · exact ⟨L, hx, hn, by omega⟩
structure MsgCloses (w W : World) (x : MsgR) : Prop where
  bel : Below w.heap.size w W
  sm : Sl w 1 (.slice x.A2 x.k2 x.c2) x.k2 x.zs
  one : ∀ u ∈ x.zs, u.oneCell' = true
theorem MsgCloses.clone {w W W' : World} {x : MsgR} {b : Nat} (h : MsgCloses w W x) (hk2 : x.k2 ≤ 40) (hb : w.heap.size ≤ b) (hk : Keeps (fun k => k = b) W W') : Calls Tryz.prog 75 #[.slice x.A2 x.k2 x.c2] W' fun e w' => ∃ A' n' c', e = .returned (.slice A' n' c') ∧ Below W'.heap.size W' w' :=
  cloneZ_all x.A2 x.k2 x.c2 x.zs h.one W' (h.sm.below (h.bel.trans (hk.below h.bel.size fun i hi e => by omega))) (by omega)
theorem lent_clone {W W' : World} {S : Nat → Prop} {B g cap k : Nat} {qs : List Pair} (h : W.ownsRow B 59 2 (.slice (some ⟨g, 0, none⟩) (k + 1) cap) (k + 1) (pairsCs (qs ++ [(markW, [])]))) (hq : qs.length = k) (hk : k ≤ 60) (hS : ¬ S g) (hK : Keeps S W W') : CloneSays W' (some ⟨g, 0, none⟩) k cap (pairsCs qs) := by
  have h1 := lent_sl (own_keeps h hK fun q e hs => by
    have e : g = q := by simpa [Value.ownBlock] using e
    exact hS (e ▸ hs)) hq
  refine (cloneP_all (some ⟨g, 0, none⟩) k cap qs W' h1 (by omega)).mono fun e w' ⟨v', he, ho, hb⟩ => ⟨v', he, ?_, hb⟩
  rw [← hq]
  exact ho
end Go.Ev

set_option linter.unusedVariables false
set_option linter.unusedSimpArgs false
namespace Go.Ev
open Go.Proofs Go.Joins Go.ChangeShapes Go.WideShapes Go.RowKit Go.Deep
section
variable {H : Type} {enc : TypeId × Value → H} {P : Program} {w : World} {base : Nat} {spare : Nat → Bool} {held : Bool}
theorem slice_form {t e : TypeId} {fuel : Nat} {v : Value} {y : DataW H × List MemPlace} (ht : P.underlying t = some (.slice e)) (h : DataW.trod enc P w base spare held fuel t [v] = some y) : ∃ A n c, v = .slice A n c ∧ (A = none → c = 0) ∧ n ≤ maxLen := by
  rcases open_slice ht h with ⟨h0, _⟩ | ⟨a, len, cap, m, n, D, Pl, h0, hb, hl, hm, hmm, hx, hi⟩
  · simp only [List.cons.injEq, and_true] at h0
    exact ⟨none, 0, 0, h0, fun _ => rfl, Nat.zero_le _⟩
  · simp only [List.cons.injEq, and_true] at h0
    exact ⟨some a, len, cap, h0, (fun h => by cases h), Nat.le_trans hl hm⟩
theorem txAt_of {z off n c : Nat} {A : Option Addr} {xs : List Value} (hs : Sl w z (.slice A n c) n xs) (hz : off < z) (h : ∀ j, j < n → ∃ s : ByteArray, xs[j * z + off]? = some (.string s) ∧ s.size ≤ maxLen) : TxAt w z off A n := by
  obtain ⟨A', c', e0, _, h1, h2⟩ := hs
  cases e0
  rcases Nat.eq_zero_or_pos n with h0 | h0
  · exact .inl h0
  · obtain ⟨b, o, rfl, hb, hc⟩ := h2 h0
    refine .inr ⟨b, o, rfl, hb, fun j hj => ?_⟩
    obtain ⟨s, hs, hl⟩ := h j hj
    exact ⟨s, by rw [Nat.add_assoc]; exact hc _ _ hs, hl⟩
structure EntR where
  ix : Int
  tm : Int
  kd : Int
  data : ByteArray
def entRCs (o : EntR) : List Value := [.int .i64 o.ix, .int .i64 o.tm, .int .i64 o.kd, .string o.data]
theorem entRCs_len (o : EntR) : (entRCs o).length = 4 := rfl
def prCs (o : ByteArray × ByteArray) : List Value := [.string o.1, .string o.2]
theorem prCs_len (o : ByteArray × ByteArray) : (prCs o).length = 2 := rfl
theorem strV_data (s : ByteArray) : strV s.data.toList = .string s := by
  show Value.string ⟨s.data.toList.toArray⟩ = _
  rw [Array.toArray_toList]
theorem prCs_pairs : ∀ l : List (ByteArray × ByteArray), l.flatMap prCs = pairsCs (l.map fun o => (o.1.data.toList, o.2.data.toList))
  | [] => rfl
  | o :: l => by
    rw [List.flatMap_cons, List.map_cons, prCs_pairs l]
    simp only [pairsCs, pairCs, prCs, strV_data]
theorem struct_cells {e : TypeId} {gs : Array Field} {z n : Nat} {cs : List Value} {y : DataW H × List MemPlace} (he : P.underlying e = some (.struct gs)) (hone : oneCellFields P gs = true) (hz : gs.size = z) (hl : cs.length = z) (h : DataW.trod enc P w base spare held n e cs = some y) :
    ∀ (j : Nat) (f : Field), gs[j]? = some f → ∃ c y' n', cs[j]? = some c ∧ DataW.trod enc P w base spare held n' f.type [c] = some y' := by
  obtain ⟨xs, n', _, _, _, hlen, hg⟩ := DataW.trod_struct he h
  intro j f hj
  obtain ⟨ho, hk⟩ := hone_of hone j f hj
  have hjl : j < gs.size := (Array.getElem?_eq_some_iff.1 hj).1
  have h3 := hg j f hj
  rw [ho, hk, List.getElem?_eq_getElem (by omega)] at h3
  have h4 : (cs.drop j).take 1 = [cs[j]'(by omega)] := by rw [List.drop_eq_getElem_cons (by omega)]; rfl
  rw [h4] at h3
  exact ⟨_, _, _, List.getElem?_eq_getElem (by omega), h3⟩
section
variable {fuel : Nat} {v : Value} {y : DataW H × List MemPlace}
set_option maxRecDepth 100000 in
theorem slice_entRs (h : DataW.trod enc Tryz.prog w base spare held fuel 49 [v] = some y) : ∃ l : List EntR, Sl w 4 v l.length (l.flatMap entRCs) ∧ l.length ≤ maxLen ∧ ∀ o ∈ l, o.data.size ≤ maxLen := by
  refine slice_rows (f := entRCs) (Q := fun o => o.data.size ≤ maxLen) Tryz.underlying49 (by kernel_rfl) (by omega) entRCs_len (fun n' cs x hl hx => ?_) h
  have hf := struct_cells Tryz.underlying129 (by kernel_rfl) rfl hl hx
  match cs, hl with
  | [a0, a1, a2, a3], _ =>
    obtain ⟨c0, y0, n0, q0, r0⟩ := hf 0 _ rfl
    obtain ⟨c1, y1, n1, q1, r1⟩ := hf 1 _ rfl
    obtain ⟨c2, y2, n2, q2, r2⟩ := hf 2 _ rfl
    obtain ⟨c3, y3, n3, q3, r3⟩ := hf 3 _ rfl
    cases q0; cases q1; cases q2; cases q3
    obtain ⟨z0, e0, _, _⟩ := DataW.trod_int Tryz.underlying3 r0
    obtain ⟨z1, e1, _, _⟩ := DataW.trod_int Tryz.underlying3 r1
    obtain ⟨z2, e2, _, _⟩ := DataW.trod_int Tryz.underlying3 r2
    obtain ⟨z3, e3, _, b3⟩ := DataW.trod_string Tryz.underlying9 r3
    simp only [List.cons.injEq, and_true] at e0 e1 e2 e3
    subst e0 e1 e2 e3
    exact ⟨⟨z0, z1, z2, z3⟩, rfl, b3⟩
set_option maxRecDepth 100000 in
theorem slice_prs (h : DataW.trod enc Tryz.prog w base spare held fuel 28 [v] = some y) : ∃ l : List (ByteArray × ByteArray), Sl w 2 v l.length (l.flatMap prCs) ∧ l.length ≤ maxLen ∧ ∀ o ∈ l, o.1.size ≤ maxLen ∧ o.2.size ≤ maxLen := by
  refine slice_rows (f := prCs) (Q := fun o => o.1.size ≤ maxLen ∧ o.2.size ≤ maxLen) Tryz.underlying28 (by kernel_rfl) (by omega) prCs_len (fun n' cs x hl hx => ?_) h
  have hf := struct_cells Tryz.underlying59 (by kernel_rfl) rfl hl hx
  match cs, hl with
  | [a0, a1], _ =>
    obtain ⟨c0, y0, n0, q0, r0⟩ := hf 0 _ rfl
    obtain ⟨c1, y1, n1, q1, r1⟩ := hf 1 _ rfl
    cases q0; cases q1
    obtain ⟨z0, e0, _, b0⟩ := DataW.trod_string Tryz.underlying9 r0
    obtain ⟨z1, e1, _, b1⟩ := DataW.trod_string Tryz.underlying9 r1
    simp only [List.cons.injEq, and_true] at e0 e1
    subst e0 e1
    exact ⟨(z0, z1), rfl, b0, b1⟩
def intCs (z : Int) : List Value := [.int .i64 z]
theorem slice_zs (h : DataW.trod enc Tryz.prog w base spare held fuel 27 [v] = some y) : ∃ l : List Int, Sl w 1 v l.length (l.flatMap intCs) ∧ l.length ≤ maxLen := by
  obtain ⟨l, h1, h2, _⟩ := slice_rows (f := intCs) (Q := fun _ => True) (z := 1) Tryz.underlying27 (by kernel_rfl) (by decide) (fun _ => rfl) (fun n' cs x hl hx => by
    match cs, hl with
    | [a0], _ =>
      obtain ⟨z0, e0, _, _⟩ := DataW.trod_int Tryz.underlying3 hx
      simp only [List.cons.injEq, and_true] at e0
      subst e0
      exact ⟨z0, rfl, trivial⟩) h
  exact ⟨l, h1, h2⟩
set_option maxRecDepth 100000 in
set_option maxHeartbeats 4000000 in
theorem slice_msgs (h : DataW.trod enc Tryz.prog w base spare held fuel 22 [v] = some y) : ∃ xs : List MsgR, MsgsAt w v xs := by
  refine slice_rows (f := msgCs) (Q := MsgOk w) Tryz.underlying22 (by kernel_rfl) (by omega) msgCs_len (fun n' cs x hl hx => ?_) h
  have hf := struct_cells Tryz.underlying51 (by kernel_rfl) rfl hl hx
  match cs, hl with
  | [a0, a1, a2, a3, a4, a5, a6, a7, a8, a9, a10, a11, a12, a13], _ =>
    obtain ⟨c0, y0, n0, q0, r0⟩ := hf 0 _ rfl
    obtain ⟨c1, y1, n1, q1, r1⟩ := hf 1 _ rfl
    obtain ⟨c2, y2, n2, q2, r2⟩ := hf 2 _ rfl
    obtain ⟨c3, y3, n3, q3, r3⟩ := hf 3 _ rfl
    obtain ⟨c4, y4, n4, q4, r4⟩ := hf 4 _ rfl
    obtain ⟨c5, y5, n5, q5, r5⟩ := hf 5 _ rfl
    obtain ⟨c6, y6, n6, q6, r6⟩ := hf 6 _ rfl
    obtain ⟨c7, y7, n7, q7, r7⟩ := hf 7 _ rfl
    obtain ⟨c8, y8, n8, q8, r8⟩ := hf 8 _ rfl
    obtain ⟨c9, y9, n9, q9, r9⟩ := hf 9 _ rfl
    obtain ⟨c10, y10, n10, q10, r10⟩ := hf 10 _ rfl
    obtain ⟨c11, y11, n11, q11, r11⟩ := hf 11 _ rfl
    obtain ⟨c12, y12, n12, q12, r12⟩ := hf 12 _ rfl
    obtain ⟨c13, y13, n13, q13, r13⟩ := hf 13 _ rfl
    cases q0; cases q1; cases q2; cases q3; cases q4; cases q5; cases q6; cases q7; cases q8; cases q9; cases q10; cases q11; cases q12; cases q13
    obtain ⟨z0, e0, _, _⟩ := DataW.trod_int Tryz.underlying3 r0
    obtain ⟨z1, e1, _, _⟩ := DataW.trod_int Tryz.underlying3 r1
    obtain ⟨z2, e2, _, _⟩ := DataW.trod_int Tryz.underlying3 r2
    obtain ⟨z3, e3, _, _⟩ := DataW.trod_int Tryz.underlying3 r3
    obtain ⟨z4, e4, _, _⟩ := DataW.trod_int Tryz.underlying3 r4
    obtain ⟨z5, e5, _, _⟩ := DataW.trod_int Tryz.underlying3 r5
    obtain ⟨z6, e6, _, _⟩ := DataW.trod_int Tryz.underlying3 r6
    obtain ⟨z7, e7, _, _⟩ := DataW.trod_int Tryz.underlying3 r7
    obtain ⟨z12, e12, _, _⟩ := DataW.trod_int Tryz.underlying3 r12
    obtain ⟨z8, e8, _⟩ := DataW.trod_bool Tryz.underlying4 r8
    obtain ⟨z9, e9, _⟩ := DataW.trod_bool Tryz.underlying4 r9
    simp only [List.cons.injEq, and_true] at e0 e1 e2 e3 e4 e5 e6 e7 e8 e9 e12
    subst e0 e1 e2 e3 e4 e5 e6 e7 e8 e9 e12
    obtain ⟨Ae, ke, ce, hve, _, lke⟩ := slice_form Tryz.underlying49 r10
    obtain ⟨Am, km, cm, hvm, nm, lkm⟩ := slice_form Tryz.underlying27 r11
    obtain ⟨Ap, kp, cp, hvp, np, lkp⟩ := slice_form Tryz.underlying28 r13
    subst hve hvm hvp
    obtain ⟨es, se, _, le⟩ := slice_entRs r10
    obtain ⟨zs, sz, _⟩ := slice_zs r11
    obtain ⟨ps, sp, _, lp⟩ := slice_prs r13
    have hke : es.length = ke := by obtain ⟨_, _, e, _⟩ := se; cases e; rfl
    have hkm : zs.length = km := by obtain ⟨_, _, e, _⟩ := sz; cases e; rfl
    have hkp : ps.length = kp := by obtain ⟨_, _, e, _⟩ := sp; cases e; rfl
    subst hke hkm hkp
    unfold maxLen at lke lkm lkp
    refine ⟨⟨⟨z0, z1, .int .i64 z2, .int .i64 z3, z4, z5, .int .i64 z6, .int .i64 z7, .bool z8, z9, .slice Ae es.length ce, .slice Am zs.length cm, z12, .slice Ap ps.length cp⟩, Ap, ps.length, cp, ps.map fun o => (o.1.data.toList, o.2.data.toList), Am, zs.length, cm, zs.flatMap intCs, Ae, es.length, ce, z2, z3, z6, z7, z8⟩, rfl, rfl, rfl, rfl, rfl, rfl, rfl, rfl, rfl, ?_, np, sz, nm, ?_, ?_, ?_, ?_, lkp, lkm, lke⟩
    · rw [← prCs_pairs]; exact sp
    · intro u hu
      obtain ⟨z, _, hz⟩ := List.mem_flatMap.1 hu
      simp only [intCs, List.mem_singleton] at hz
      subst hz
      rfl
    · exact txAt_of se (by omega) fun j hj => ⟨es[j].data, by rw [flat_at entRCs_len es j 3 hj (by omega)]; rfl, le _ (List.getElem_mem hj)⟩
    · exact txAt_of sp (by omega) fun j hj => ⟨ps[j].1, by rw [flat_at prCs_len ps j 0 hj (by omega)]; rfl, (lp _ (List.getElem_mem hj)).1⟩
    · exact txAt_of sp (by omega) fun j hj => ⟨ps[j].2, by rw [flat_at prCs_len ps j 1 hj (by omega)]; rfl, (lp _ (List.getElem_mem hj)).2⟩
end
end
theorem msgsAt_len {w : World} {A : Option Addr} {n c : Nat} {xs : List MsgR} (h : MsgsAt w (.slice A n c) xs) : xs.length = n := by
  obtain ⟨_, _, e, _⟩ := h.1
  cases e
  rfl
end Go.Ev
