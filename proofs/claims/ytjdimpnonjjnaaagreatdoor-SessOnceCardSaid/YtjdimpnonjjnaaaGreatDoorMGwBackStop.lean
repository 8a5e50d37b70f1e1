/-
  Texts of this claim.
-/
import Derived.Test.YtjdimpnonjjnaaaGreatDoorMGwUp0
set_option linter.unusedVariables false
set_option linter.unusedSimpArgs false
namespace Go.Ev
open Go.Proofs Go.RowKit Go.Shelf
attribute [local go_sem] Oper.semAt_some
set_option maxRecDepth 100000 in
set_option maxHeartbeats 2000000 in
theorem back1_inS (F : Fence) (n : Nat) (hf : F.fn 153) (hro : F.round = none) (hn : 1 ≤ n) (l Bs b off cap : Nat) (st : List Step) (hreach : st.length ≤ 100000) (J Jx : Nat → World → Prop)
  (hY : ∀ (k : Nat) (x : Fin st.length) W, (backs st.length)[k]? = some x → J k W → YieldAt F (n - 1) Tryz.prog l #[.int .i64 (x.1 : Int), stepV st[x.1]] W fun e W' => (e = .returned (.bool true) ∧ J (k + 1) W' ∧ KB Bs b W W') ∨ (e = .returned (.bool false) ∧ Jx (k + 1) W'))
  (W : World) (hBs : W.cell? ⟨Bs, 0, none⟩ = some (.slice (some ⟨b, off, none⟩) st.length cap)) (hc : ∀ j u, (stepsCs st)[j]? = some u → W.cell? ⟨b, off + j, none⟩ = some u) (h0 : J 0 W) :
  CallsIn F n Tryz.prog 153 #[.func (.yield l) #[] #[], .pointer (some ⟨Bs, 0, none⟩)] W fun e W' => (∃ v, e = .returned v) ∧ (J st.length W' ∨ ∃ k, k ≤ st.length ∧ Jx k W') := by
 refine callsIn_of_wp Tryz.func153 rfl hf ?_ hro
 simp only [Tryz.ntmps153, List.size_toArray, List.length_cons, List.length_nil, Nat.reduceAdd, Nat.reduceSub, Array.replicate_succ, Array.replicate_zero, List.push_toArray, List.append_toArray, List.nil_append, List.cons_append]
 gi_wp2
 gi_loopw [3] (fun i wr => ∃ k : Nat, k ≤ st.length ∧ i = .int .i64 ((st.length : Int) - 1 - k) ∧ J k wr ∧ KB Bs b W wr)
  (fun i _ => (Go.RowKit.intOf i + 1).toNat)
 case atStart => exact ⟨0, Nat.zero_le _, by simp, h0, KB.refl _ _ _⟩
 case round =>
  obtain ⟨k, hk, rfl, hJs, hnx⟩ := hrel
  have hBx : wr.cell? ⟨Bs, 0, none⟩ = some (.slice (some ⟨b, off, none⟩) st.length cap) := (World.cell?_of_block hnx.1).trans hBs
  by_cases hlt : k < st.length
  ·obtain ⟨m, hm⟩ : ∃ m, m = st.length - 1 - k := ⟨_, rfl⟩
   have hmI : (st.length : Int) - 1 - (k : Int) = (m : Int) := by omega
   have hml : m < st.length := by omega
   obtain ⟨fn, tmps, assign, body, hy, hR⟩ := hY k ⟨m, hml⟩ wr (by rw [backs_at _ _ hlt]; congr; exact hm.symm) hJs
   have hcx : ∀ j u, (stepCs st[m])[j]? = some u → wr.cell? ⟨b, off + m * 3 + j, none⟩ = some u := fun j u hu => by
    have hj : j < 3 := (List.getElem?_eq_some_iff.1 hu).1
    rw [Nat.add_assoc]
    exact (World.cell?_of_block hnx.2).trans (hc (m * 3 + j) u ((stepsCs_at st m j hml hj).trans hu))
   have q0 : wr.cell? ⟨b, off + m * 3, none⟩ = some (.int .i64 st[m].id) := hcx 0 _ rfl
   have q1 : wr.cell? ⟨b, off + m * 3 + 1, none⟩ = some (.int .i64 st[m].at') := hcx 1 _ rfl
   have q2 : wr.cell? ⟨b, off + m * 3 + 2, none⟩ = some st[m].v := hcx 2 _ rfl
   unfold stepV at hy
   dsimp only at hy
   rw [hmI]
   have HM := Hdz hm
   clear hcx hY hm
   have hm0 : (0 : Int) ≤ (m : Int) := by omega
   have hmlt : (m : Int) < (st.length : Int) := by omega
   gi_wp2
   refine hR.mono ?_
   rintro e W3 (⟨rfl, hJ3, hk3⟩ | ⟨rfl, hJ3⟩)
   ·gi_wp2
    go_roundw
    case rel => exact ⟨k + 1, by omega, by have := HM.out; congr 1; omega, hJ3, hnx.trans hk3⟩
    case measure => simp [Go.RowKit.intOf]
   ·gi_wp2
    first | go_end0 | ((try simp only [Exit.inBlock, Exit.then]); refine bodyPost_ret (results_none rfl _ _ _) rfl ?_) | go_ret
    exact ⟨⟨_, rfl⟩, .inr ⟨k + 1, by omega, hJ3⟩⟩
  ·obtain rfl : k = st.length := by omega
   gi_wp2
   go_end0
   exact ⟨⟨_, rfl⟩, .inl hJs⟩
theorem back_eachS (F : Fence) (n : Nat) (hf : F.fn 153) (hro : F.round = none) (hn : 1 ≤ n) (Bs b off cap : Nat) (A : Option Addr) (st : List Step) (hreach : st.length ≤ 100000) (w : World) (hBl : Bs < w.heap.size)
  (hBs : w.cell? ⟨Bs, 0, none⟩ = some (.slice A st.length cap)) (hA : 0 < st.length → A = some ⟨b, off, none⟩) (hbl : 0 < st.length → b < w.heap.size) (hc : ∀ j u, (stepsCs st)[j]? = some u → w.cell? ⟨b, off + j, none⟩ = some u) :
  EachS F n Tryz.prog 153 #[.pointer (some ⟨Bs, 0, none⟩)] (fun x : Fin st.length => #[.int .i64 (x.1 : Int), stepV st[x.1]]) (KB Bs b) (backs st.length) w := fun l J Jx W hW hY h0 => by
 have hBs' := (hW.cell (p := ⟨Bs, 0, none⟩) hBl).trans hBs
 rw [backs_len]
 cases st with
 | nil => exact (back1_nil_in F n hf hro l Bs cap A J W hBs' h0).mono fun e W' ⟨h1, h2⟩ => ⟨h1, .inl h2⟩
 | cons s st =>
  rw [hA (by simp)] at hBs'
  exact back1_inS F n hf hro hn l Bs b off cap (s :: st) hreach J Jx hY W hBs' (fun j u hu => (hW.cell (p := ⟨b, off + j, none⟩) (hbl (by simp))).trans (hc j u hu)) h0
end Go.Ev
