/-
  slices.Backward: its contract, over the way's steps. Ahead of tree.up: branches in one word; a turn of what is no cells.
-/
import Derived.RangeFuncNested
import Derived.RangeFuncBound
import Derived.RangeFuncCalls
import Derived.RangeFuncLeaves
import Derived.Shelf.Abstract
import Derived.Shelf.RegionOpen
import Derived.WalkKit
import Derived.OwnWalkIn
import Derived.TacticsInMore
import Derived.LoopNIn
import Derived.LoopIn
import Derived.Test.YtgfmhppkmogdhaaGreatDoorMBGwBranches
import Derived.Test.YtgfmhppkmogdhaaGreatDoorMBEvPg
import Derived.Test.YtgfmhppkmogdhaaGreatDoorMBGvCurs
set_option linter.unusedVariables false
set_option linter.unusedSimpArgs false
set_option linter.unusedVariables false
set_option linter.unusedSimpArgs false
namespace Go.Ev
open Go.Proofs Go.RowKit Go.Shelf

attribute [local go_sem] Oper.semAt_some

/-- What a round keeps for the iterator: its box and the row. -/
def KB (Bs b : Nat) (W W' : World) : Prop := W'.heap[Bs]? = W.heap[Bs]? ∧ W'.heap[b]? = W.heap[b]?
theorem KB.refl (Bs b : Nat) (W : World) : KB Bs b W W := ⟨rfl, rfl⟩
theorem KB.trans {Bs b : Nat} {A B C : World} (h : KB Bs b A B) (k : KB Bs b B C) : KB Bs b A C := ⟨k.1.trans h.1, k.2.trans h.2⟩

theorem stepsCs_len : ∀ l : List Step, (stepsCs l).length = l.length * 3
  | [] => rfl
  | x :: l => by
    simp only [stepsCs, List.length_append, stepsCs_len l, List.length_cons]
    simp only [stepCs, List.length_cons, List.length_nil]
    omega
theorem stepsCs_at : ∀ (l : List Step) (k j : Nat) (hk : k < l.length), j < 3 → (stepsCs l)[k * 3 + j]? = (stepCs l[k])[j]?
  | x :: l, 0, j, _, hj => by
    simp only [stepsCs, Nat.zero_mul, Nat.zero_add, List.getElem_cons_zero]
    rw [List.getElem?_append_left (by simp [stepCs]; omega)]
  | x :: l, k + 1, j, hk, hj => by
    simp only [stepsCs, List.getElem_cons_succ]
    rw [List.getElem?_append_right (by simp [stepCs]; omega), ← stepsCs_at l k j (by simpa using hk) hj]
    congr 1
    simp [stepCs]
    omega

/-- The steps from the last one on. -/
def backs (n : Nat) : List (Fin n) := (List.finRange n).reverse
theorem backs_len (n : Nat) : (backs n).length = n := by simp [backs]
theorem backs_at (n k : Nat) (h : k < n) : (backs n)[k]? = some ⟨n - 1 - k, by omega⟩ := by
  unfold backs
  rw [List.getElem?_reverse (by simpa using h), List.length_finRange, List.getElem?_eq_getElem (by simp; omega), List.getElem_finRange]
  rfl
theorem backs_take (n k : Nat) (h : k < n) : (backs n).take (k + 1) = (backs n).take k ++ [⟨n - 1 - k, by omega⟩] := by
  rw [List.take_add_one, backs_at n k h]
  rfl

def stepV (s : Step) : Value := .agg #[.int .i64 s.id, .int .i64 s.at', s.v]

set_option maxRecDepth 100000 in
set_option maxHeartbeats 2000000 in
theorem back1_in (F : Fence) (n : Nat) (hf : F.fn 210) (hro : F.round = none) (hn : 1 ≤ n) (l Bs b off cap : Nat) (st : List Step) (hreach : st.length ≤ 100000) (J : Nat → World → Prop)
    (hY : ∀ (k : Nat) (x : Fin st.length) W, (backs st.length)[k]? = some x → J k W → YieldAt F (n - 1) Tryz.prog l #[.int .i64 (x.1 : Int), stepV st[x.1]] W fun e W' => e = .returned (.bool true) ∧ J (k + 1) W' ∧ KB Bs b W W')
    (W : World) (hBs : W.cell? ⟨Bs, 0, none⟩ = some (.slice (some ⟨b, off, none⟩) st.length cap)) (hc : ∀ j u, (stepsCs st)[j]? = some u → W.cell? ⟨b, off + j, none⟩ = some u) (h0 : J 0 W) :
    CallsIn F n Tryz.prog 210 #[.func (.yield l) #[] #[], .pointer (some ⟨Bs, 0, none⟩)] W fun e W' => (∃ v, e = .returned v) ∧ J st.length W' := by
  refine callsIn_of_wp Tryz.func210 rfl hf ?_ hro
  simp only [Tryz.ntmps210, List.size_toArray, List.length_cons, List.length_nil, Nat.reduceAdd, Nat.reduceSub, Array.replicate_succ, Array.replicate_zero, List.push_toArray, List.append_toArray, List.nil_append, List.cons_append]
  gi_wp2
  gi_loopw [3] (fun i wr => ∃ k : Nat, k ≤ st.length ∧ i = .int .i64 ((st.length : Int) - 1 - k) ∧ J k wr ∧ KB Bs b W wr)
    (fun i _ => (Go.RowKit.intOf i + 1).toNat)
  case atStart => exact ⟨0, Nat.zero_le _, by simp, h0, KB.refl _ _ _⟩
  case round =>
    obtain ⟨k, hk, rfl, hJs, hnx⟩ := hrel
    have hBx : wr.cell? ⟨Bs, 0, none⟩ = some (.slice (some ⟨b, off, none⟩) st.length cap) := (World.cell?_of_block hnx.1).trans hBs
    by_cases hlt : k < st.length
    · obtain ⟨m, hm⟩ : ∃ m, m = st.length - 1 - k := ⟨_, rfl⟩
      have hmI : (st.length : Int) - 1 - (k : Int) = (m : Int) := by omega
      have hml : m < st.length := by omega
      obtain ⟨fn, tmps, assign, body, hy, hR⟩ := hY k ⟨m, hml⟩ wr (by rw [backs_at _ _ hlt]; congr; exact hm.symm) hJs
      have hcx : ∀ j u, (stepCs st[m])[j]? = some u → wr.cell? ⟨b, off + m * 3 + j, none⟩ = some u := fun j u hu => by
        have hj : j < 3 := (List.getElem?_eq_some_iff.1 hu).1
        rw [Nat.add_assoc]
        exact (World.cell?_of_block hnx.2).trans (hc (m * 3 + j) u ((stepsCs_at st m j hml hj).trans hu))
      have q0 : wr.cell? ⟨b, off + m * 3, none⟩ = some (.int .i64 st[m].id) := hcx 0 _ rfl
      have q1 : wr.cell? ⟨b, off + m * 3 + 1, none⟩ = some (.int .i64 st[m].at') := hcx 1 _ rfl
      have q2 : wr.cell? ⟨b, off + m * 3 + 2, none⟩ = some st[m].v := hcx 2 _ rfl
      unfold stepV at hy
      dsimp only at hy
      rw [hmI]
      have HM := Lib.hid hm
      clear hcx hY hm
      have hm0 : (0 : Int) ≤ (m : Int) := by omega
      have hmlt : (m : Int) < (st.length : Int) := by omega
      gi_wp2
      refine hR.mono ?_
      rintro e W3 ⟨rfl, hJ3, hk3⟩
      gi_wp2
      go_roundw
      case rel => exact ⟨k + 1, by omega, by have := HM.out; congr 1; omega, hJ3, hnx.trans hk3⟩
      case measure => simp [Go.RowKit.intOf]
    · obtain rfl : k = st.length := by omega
      gi_wp2
      go_end0
      exact ⟨⟨_, rfl⟩, hJs⟩

set_option maxRecDepth 100000 in
set_option maxHeartbeats 1000000 in
theorem back1_nil_in (F : Fence) (n : Nat) (hf : F.fn 210) (hro : F.round = none) (l Bs c : Nat) (A : Option Addr) (J : Nat → World → Prop) (W : World) (hBs : W.cell? ⟨Bs, 0, none⟩ = some (.slice A 0 c)) (h0 : J 0 W) :
    CallsIn F n Tryz.prog 210 #[.func (.yield l) #[] #[], .pointer (some ⟨Bs, 0, none⟩)] W fun e W' => (∃ v, e = .returned v) ∧ J 0 W' := by
  refine callsIn_of_wp Tryz.func210 rfl hf ?_ hro
  simp only [Tryz.ntmps210, List.size_toArray, List.length_cons, List.length_nil, Nat.reduceAdd, Nat.reduceSub, Array.replicate_succ, Array.replicate_zero, List.push_toArray, List.append_toArray, List.nil_append, List.cons_append]
  gi_wp2
  gi_loopw [3] (fun i wr => i = .int .i64 (-1) ∧ J 0 wr) (fun _ _ => 0)
  case atStart => exact ⟨rfl, h0⟩
  case round =>
    obtain ⟨rfl, hJs⟩ := hrel
    gi_wp2
    go_end0
    exact ⟨⟨_, rfl⟩, hJs⟩

/-- **slices.Backward's value, over a row of steps.** -/
theorem back_each (F : Fence) (n : Nat) (hf : F.fn 210) (hro : F.round = none) (hn : 1 ≤ n) (Bs b off cap : Nat) (A : Option Addr) (st : List Step) (hreach : st.length ≤ 100000) (w : World) (hBl : Bs < w.heap.size)
    (hBs : w.cell? ⟨Bs, 0, none⟩ = some (.slice A st.length cap)) (hA : 0 < st.length → A = some ⟨b, off, none⟩) (hbl : 0 < st.length → b < w.heap.size) (hc : ∀ j u, (stepsCs st)[j]? = some u → w.cell? ⟨b, off + j, none⟩ = some u) :
    Each F n Tryz.prog 210 #[.pointer (some ⟨Bs, 0, none⟩)] (fun x : Fin st.length => #[.int .i64 (x.1 : Int), stepV st[x.1]]) (KB Bs b) (backs st.length) w := fun l J W hW hY h0 => by
  have hBs' := (hW.cell (p := ⟨Bs, 0, none⟩) hBl).trans hBs
  rw [backs_len]
  cases st with
  | nil => exact back1_nil_in F n hf hro l Bs cap A J W hBs' h0
  | cons s st =>
    rw [hA (by simp)] at hBs'
    exact back1_in F n hf hro hn l Bs b off cap (s :: st) hreach J hY W hBs' (fun j u hu => (hW.cell (p := ⟨b, off + j, none⟩) (hbl (by simp))).trans (hc j u hu)) h0

set_option maxHeartbeats 1000000 in
theorem backward_in (F : Fence) (n : Nat) (hf : F.fn 163) (hro : F.round = none) (a : Option Addr) (len cap : Nat) (w : World) :
    CallsIn F n Tryz.prog 163 #[.slice a len cap] w fun e w' => e = .returned (.func (.func 210) #[] #[.pointer (some ⟨w.heap.size, 0, none⟩)]) ∧ w' = w.alloc (.cells #[.slice a len cap] 132) := by
  refine callsIn_of_wp Tryz.func163 rfl hf ?_ hro
  simp only [Tryz.ntmps163, List.size_toArray, List.length_cons, List.length_nil, Nat.reduceAdd, Nat.reduceSub, Array.replicate_succ, Array.replicate_zero, List.push_toArray, List.append_toArray, List.nil_append, List.cons_append]
  gi_wp2
  go_ret
  exact ⟨rfl, rfl⟩
end Go.Ev

set_option linter.unusedVariables false
set_option linter.unusedSimpArgs false
namespace Go.Ev
open Go.Proofs Go.RowKit

theorem cells_of_cell {w : World} {b o : Nat} {v : Value} (h : w.cell? ⟨b, o, none⟩ = some v) : ∃ x, w.heap[b]? = some x ∧ x.isCells = true := by
  unfold World.cell? at h
  cases hb : w.heap[b]? with
  | none => simp [hb] at h
  | some x =>
    refine ⟨x, rfl, ?_⟩
    cases x <;> simp [hb] at h ⊢ <;> rfl

theorem own_cells {w : World} {base z n : Nat} {e : TypeId} {v : Value} {xs : List Value} (h : w.ownsRow base e z v n xs) : ∀ k, v.ownBlock = some k → ∃ x, w.heap[k]? = some x ∧ x.isCells = true := by
  intro k hk
  rcases h.2 with ⟨rfl, _⟩ | ⟨g, cap, cur, rfl, _, hg, _⟩
  · cases hk
  · simp only [Value.ownBlock, Option.some.injEq] at hk
    subst hk
    exact ⟨_, hg, rfl⟩

section
variable {p most cnt : Nat} {x : Wc} {c : Pc} {M : Store} {made dropped : List Int} {w w' : World}

/-- A pager's blocks are cells, but its three maps. -/
theorem PgOk.cells (h : PgOk w p c most M cnt) : ∀ k, c.S p k → (k = c.mb ∨ k = c.db ∨ k = c.wb) ∨ ∃ o, w.heap[k]? = some o ∧ o.isCells = true := by
  obtain ⟨n, mm, was, mc, wc, dc, spare, h, _⟩ := h
  rintro k (hk | hk | hk | hk)
  · simp only [Pc.ids, List.mem_cons, List.not_mem_nil, or_false] at hk
    rcases hk with rfl | rfl | rfl | rfl | rfl | rfl | rfl
    · exact .inr ⟨_, h.blk, rfl⟩
    · exact .inr ⟨_, h.dev.blk, rfl⟩
    · exact .inr ⟨_, h.fre, rfl⟩
    · exact .inr (cells_of_cell h.spr.1)
    · exact .inl (.inl rfl)
    · exact .inl (.inr (.inl rfl))
    · exact .inl (.inr (.inr rfl))
  · exact .inr (own_cells h.spr.2.2.2.1 k hk)
  · obtain ⟨cs, hr⟩ := h.dev.srow; exact .inr (own_cells hr k hk)
  · obtain ⟨cs, hr⟩ := h.dev.nrow; exact .inr (own_cells hr k hk)

/-- The three maps lie below. -/
def Pc.maps (c : Pc) (B : Nat) : Prop := c.mb < B ∧ c.db < B ∧ c.wb < B

theorem WkOk.cells (h : WkOk w p x most M cnt made dropped) : ∀ k, x.S p k → (k = x.c.mb ∨ k = x.c.db ∨ k = x.c.wb) ∨ ∃ o, w.heap[k]? = some o ∧ o.isCells = true := by
  rintro k (h1 | rfl | h1 | h1)
  · exact h.pg.cells k h1
  · exact .inr ⟨_, h.blk, rfl⟩
  · exact .inr (own_cells h.mo k h1)
  · exact .inr (own_cells h.dr k h1)

/-- A turn of a block at B or beyond that is no cells is no matter of a work. -/
theorem WkOk.turn {B : Nat} {row : Option Nat} (h : WkOk w p x most M cnt made dropped) (hm : x.c.maps B) (hg : w.grownBy w' row) (hr : ∀ r, row = some r → B ≤ r ∧ ∃ o : Obj, w.heap[r]? = some o ∧ o.isCells = false) : WkOk w' p x most M cnt made dropped := by
  refine h.keeps ((Keeps.refl (fun k => row = some k) w).grown hg (fun _ e _ => e)) fun k hk e => ?_
  obtain ⟨h1, o, h2, h3⟩ := hr k e
  rcases h.cells k hk with hh | ⟨o', h4, h5⟩
  · obtain ⟨m1, m2, m3⟩ := hm
    rcases hh with rfl | rfl | rfl <;> omega
  · rw [h2] at h4
    cases h4
    rw [h3] at h5
    cases h5

/-- What a work turns keeps all that is no cells, from B on. -/
theorem WkK.from {B : Nat} {x' : Wc} (hk : WkK p x x' w w') (h : WkOk w p x most M cnt made dropped) (hm : x.c.maps B) : KeepsFrom B w w' := by
  refine ⟨hk.keeps.size, fun k o hB hh ho => ?_⟩
  have hlt := (Array.getElem?_eq_some_iff.1 hh).1
  refine (hk.keeps.block k hlt fun hs => ?_).trans hh
  rcases h.cells k hs with h1 | ⟨o', h4, h5⟩
  · obtain ⟨m1, m2, m3⟩ := hm
    rcases h1 with rfl | rfl | rfl <;> omega
  · rw [hh] at h4
    cases h4
    rw [ho] at h5
    cases h5
theorem WkK.maps {B : Nat} {x' : Wc} (hk : WkK p x x' w w') (hm : x.c.maps B) : x'.c.maps B := by
  obtain ⟨m1, m2, m3⟩ := hm
  exact ⟨by rw [hk.mb]; exact m1, by rw [hk.db]; exact m2, by rw [hk.wb]; exact m3⟩

/-- One part suffices, or two do. -/
structure FitC (L : List Child) : Prop where
  ok : ChildrenOk L
  right : rightC L = true
  few : L.length ≤ 9000
  fit : (layC L).length ≤ 240 ∨ 240 < (layC L).length ∧ ∃ z ra y rb, splitC L = (z :: ra, y :: rb) ∧ ChildrenOk (headKey [] (z :: ra)) ∧ ChildrenOk (headKey [] (y :: rb)) ∧ rightC (headKey [] (z :: ra)) = true ∧ rightC (headKey [] (y :: rb)) = true ∧
    (layC (headKey [] (z :: ra))).length ≤ 240 ∧ (layC (headKey [] (y :: rb))).length ≤ 240 ∧ ra.length ≤ 9000 ∧ rb.length ≤ 9000

theorem ChildrenOk.of {L : List Child} (hf : ∀ x ∈ L, x.fit = true) (hl : (layC L).length ≤ 400) : ChildrenOk L :=
  ⟨fun x hx => by have := Child.fit_iff.1 (hf x hx); omega, fun x hx => by have := Child.fit_iff.1 (hf x hx); exact ⟨by omega, by omega⟩, by omega, by have := layC_len L; omega⟩
theorem FitC.of {L : List Child} (h : FitP L) : FitC L := by
  refine ⟨.of (rightC_fit h.right) h.len, h.right, by have := layC_len L; have := h.len; omega, ?_⟩
  rcases h.fit with h1 | ⟨h1, z, ra, y, rb, h2, h3, h4, h5, h6, h7, h8⟩
  · exact .inl h1
  · have q1 := layC_len (headKey [] (z :: ra))
    have q2 := layC_len (headKey [] (y :: rb))
    simp only [headKey_len, List.length_cons] at q1 q2
    exact .inr ⟨h1, z, ra, y, rb, h2, .of (rightC_fit h3) (by omega), .of (rightC_fit h4) (by omega), h3, h4, h5, h6, by omega, by omega⟩

def BrP (p : Nat) (x : Wc) (most : Nat) (M : Store) (cnt : Nat) (made dropped : List Int) (k : Bytes) (L : List Child) (w : World) (e : Ending) (w' : World) : Prop :=
  ∃ kids M' new x' v, e = .returned (.tuple #[v, .int .i64 0]) ∧ Laid M k L kids M' new ∧ OwnsC w' w.heap.size v kids ∧ (∀ k, v.ownBlock = some k → ¬ x'.S p k) ∧ WkOk w' p x' most M' (cnt + new.length) (made ++ new) dropped ∧ WkK p x x' w w'

theorem branches_any (A : Option Addr) (n c : Nat) (c0 : Child) (r L : List Child) (h : WkOk w p x most M cnt made dropped) (hv : Sl w 2 (.slice A n c) n (childrenCs (c0 :: r))) (hL : L = headKey [] (c0 :: r)) (hf : FitC L) (hn : n ≤ 10000) (hroom : cnt + 4 ≤ most) (hmd : made.length + 1 ≤ 100000) :
    Calls Tryz.prog 166 #[ptrV x.b, .slice A n c] w (BrP p x most M cnt made dropped c0.key L w) := by
  rcases hf.fit with hs | ⟨hs, z, ra, y, rb, h1, h2, h3, h4, h5, h6, h7, h8, h9⟩
  · refine (branches1_ok A n c c0 r L h hv hL hf.ok hf.right hs hn (by omega) (by omega)).mono ?_
    rintro e w' ⟨id, x', v, rfl, k1, k2, k3, k4, k5, k6, k7⟩
    exact ⟨_, _, [id], x', v, rfl, .inl ⟨id, hs, k1, k2, k3, rfl, rfl, rfl⟩, k4, k5, k6, k7⟩
  · refine (branches2_ok A n c c0 r L z y ra rb _ _ h hv hL hf.ok hf.right hs hn h1 rfl rfl h2 h3 h4 h5 h6 h7 hroom hmd h8 h9).mono ?_
    rintro e w' ⟨i1, i2, x', v, rfl, k1, k2, k3, k4, k5, k6, k7, k8, k9, k10⟩
    exact ⟨_, _, [i1, i2], x', v, rfl, .inr ⟨z, ra, y, rb, i1, i2, hs, h1, k1, k2, k3, k4, k5, k6, rfl, rfl, rfl⟩, k7, k8, k9, k10⟩
end
end Go.Ev
