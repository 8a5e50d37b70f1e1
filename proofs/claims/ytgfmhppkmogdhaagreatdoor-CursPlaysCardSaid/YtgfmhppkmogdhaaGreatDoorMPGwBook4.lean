/-
  A book of lists of pairs: all lists grow.
-/
import Derived.Test.YtgfmhppkmogdhaaGreatDoorMPGwBook3
set_option linter.unusedVariables false
set_option linter.unusedSimpArgs false
set_option linter.unusedVariables false
set_option linter.unusedSimpArgs false
namespace Go.Ev
open Go.Proofs Go.RowKit

theorem markP_app' (i m n : Nat) : markP i 0 m ++ markP i m n = markP i 0 (m + n) := by
  have := markP_app i 0 m n
  rw [Nat.zero_add] at this
  exact this

section
variable {W W' : World} {B B2 g : Nat} {pv wv : Value} {ms ws : List Value}

/-- The lists that have grown so far. -/
def GrI (W : World) (B : Nat) (ls : List (List Pair)) (gs : List Value) : Prop := ∀ (j : Nat) (v : Value) (l : List Pair), gs[j]? = some v → ls[j]? = some l → W.ownsRow B 44 2 v (l.length + 72) (pairsCs (markP j 0 (l.length + 72)))

theorem GrI.done {ls : List (List Pair)} {gs : List Value} (hl : gs.length = ls.length) (h : GrI W B ls gs) : SlL W gs (marksL ls 72) := by
  refine ⟨by rw [marksL_len, hl], fun j v l h1 h2 => ?_⟩
  obtain ⟨l0, h3, rfl⟩ := marksL_at h2
  have := Sl.of_own (h j v l0 h1 h3)
  rw [markP_len]
  exact this

theorem GrI.step {ls : List (List Pair)} {gs : List Value} {W1 W2 W3 : World} {v vo : Value} {l : List Pair} (h : GrI W B ls gs) (hB : B ≤ W.heap.size) (hb : Below W.heap.size W W1) (ho : W1.ownsRow W.heap.size 44 2 v (l.length + 72) (pairsCs (markP gs.length 0 (l.length + 72)))) (hl : ls[gs.length]? = some l)
    (hoo : W2.ownsRow B 26 1 vo gs.length gs) (hb2 : Below W1.heap.size W1 W2) (hg : W2.grownBy W3 vo.ownBlock) : GrI W3 B ls (gs ++ [v]) := by
  intro j v1 l1 h1 h2
  have hK : Keeps (fun k => vo.ownBlock = some k) W2 W3 := (Keeps.refl _ W2).grown hg fun k e _ => e
  rw [List.getElem?_append] at h1
  split at h1
  · have h3 := own_below (own_below (h j v1 l1 h1 h2) hb) hb2
    exact own_keeps h3 hK fun k e => own_apart h3 hoo (by decide) k e
  · have hj : j = gs.length := by
      have h4 : j - gs.length < 1 := (List.getElem?_eq_some_iff.1 h1).1
      omega
    subst hj
    rw [Nat.sub_self] at h1
    cases h1
    rw [hl] at h2
    cases h2
    have h3 := own_below (own_base ho hB) hb2
    exact own_keeps h3 hK fun k e => own_apart h3 hoo (by decide) k e

def GrowP (ls : List (List Pair)) (W : World) (e : Ending) (w' : World) : Prop := ∃ A n c gs, e = .returned (.slice A n c) ∧ Sl w' 1 (.slice A n c) n gs ∧ n = ls.length ∧ SlL w' gs (marksL ls 72) ∧ Below W.heap.size W w'

/-- One list while it grows: the elder one, whose capacity is its length, then a row of one's own. -/
def One (wo : World) (i nl k : Nat) (A : Option Addr) (v : Value) (wr : World) : Prop := (k = 0 ∧ v = .slice A nl nl ∧ Sl wr 2 v nl (pairsCs (markP i 0 nl)) ∧ Below wo.heap.size wo wr) ∨ (0 < k ∧ wr.ownsRow wo.heap.size 44 2 v (nl + k) (pairsCs (markP i 0 (nl + k))) ∧ Below wo.heap.size wo wr)

set_option maxHeartbeats 4000000 in
set_option maxRecDepth 100000 in
theorem growPairs_any (ls : List (List Pair)) (h : BookAt W B g pv wv ms ws) (hr : RowsAt W B2 ms (marksL ls 0)) (hb : ∀ (i : Nat) (l : List Pair), ls[i]? = some l → l.length ≤ 9000) (hn : ms.length ≤ 1000) :
    Calls Tryz.prog 78 #[ptrV g] W (GrowP ls W) := by
  obtain ⟨i0, hinf, q0, q1, q2⟩ := info_parts infoPair
  obtain ⟨j0, hinj, r0, r1, r2⟩ := info_parts infoPairs
  obtain ⟨n, hn1⟩ : ∃ n, ms.length = n := ⟨_, rfl⟩
  have hp := Sl.of_own h.pr
  rw [hn1] at hp hn
  obtain ⟨Ap, cp, rfl, -⟩ := Sl.of_own h.pr
  rw [hn1] at hp
  have HA := Lib.hid (And.intro hp (And.intro hr (And.intro h.blk hn1)))
  clear h hr hp hn1
  go_enter Tryz.func78, Tryz.ntmps78
  go_wp2_with (fail)
  go_loopg [3, 4, 5, 6] n (fun gk s3 s4 s5 s6 wr => ∃ (i : Nat) (gs : List Value), s4 = .int .i64 (i : Int) ∧ i + gk = n ∧ Hid (gs.length = i) ∧ Hid (wr.ownsRow W.heap.size 26 1 s3 i gs) ∧ Hid (GrI wr W.heap.size ls gs) ∧ Hid (Below W.heap.size W wr))
  case atStart => exact ⟨0, [], rfl, by omega, rfl, World.ownsRow_nil _ _ _ _, (fun j v l h1 _ => by simp at h1), Below.refl _ _⟩
  case round =>
    obtain ⟨i, gs, rfl, hi, hgs, hrow, hgr, hbw⟩ := hrel
    obtain ⟨wo, hwo⟩ : ∃ x, x = wr := ⟨_, rfl⟩
    subst hwo
    obtain ⟨Ao, co, rfl, -⟩ := Sl.of_own hrow.out
    have c8 : wo.cell? ⟨g, 8, none⟩ = some (.slice Ap ms.length cp) := (HA.out.2.2.1.below' hbw.out).cell 8
    rw [HA.out.2.2.2] at c8
    by_cases h1 : i < n
    · have h1' : (i : Int) < (n : Int) := by omega
      have hi0 : (0 : Int) ≤ (i : Int) := by omega
      have hw1 : IntKind.i64.wrap ((i : Int) + 1) = (i : Int) + 1 := IntWalk.i64_in _ (by omega)
      have him : i < ms.length := by rw [HA.out.2.2.2]; exact h1
      have hil : i < ls.length := by have := HA.out.2.1.1; rw [marksL_len] at this; omega
      obtain ⟨v, hv⟩ : ∃ v, ms[i]? = some v := ⟨_, List.getElem?_eq_getElem him⟩
      obtain ⟨l, hl⟩ : ∃ l, ls[i]? = some l := ⟨_, List.getElem?_eq_getElem hil⟩
      have hlm : (marksL ls 0)[i]? = some (markP i 0 l.length) := by simp [marksL, List.getElem?_mapIdx, hl]
      have hcl := (HA.out.2.1.2 i v _ hv hlm).below hbw.out
      obtain ⟨A, rfl, hAn, hsl⟩ := hcl.sl
      obtain ⟨_, _, e0, _, _, hc⟩ := HA.out.1.below hbw.out
      cases e0
      obtain ⟨ba, oa, rfl, hlt, hca⟩ := hc (by omega)
      have x1 : wo.cell? ⟨ba, oa + i, none⟩ = some (.slice A (markP i 0 l.length).length (markP i 0 l.length).length) := hca _ _ hv
      have hlb := hb i l hl
      rw [markP_len] at x1 hAn hsl
      obtain ⟨nl, hnl⟩ : ∃ m, l.length = m := ⟨_, rfl⟩
      rw [hnl] at x1 hAn hsl hlb
      have HU := Lib.hid (And.intro hl (And.intro hnl (And.intro hAn hsl)))
      clear hcl hlm hv hl hca hc hlt hnl him hil hAn hsl
      go_wp2_with (fail)
      clear c8 x1
      obtain ⟨gq, hgq⟩ : ∃ x, x = gk := ⟨_, rfl⟩
      subst hgq
      go_loopg [5, 6] 12 (fun gk s5 s6 wr => ∃ k : Nat, s6 = .int .i64 (k : Int) ∧ k + gk = 12 ∧ Hid (One wo i nl k A s5 wr))
      case atStart => exact ⟨0, rfl, by omega, .inl ⟨rfl, rfl, HU.out.2.2.2, Below.refl _ _⟩⟩
      case round =>
        obtain ⟨k, rfl, hk, hone⟩ := hrel
        by_cases h2 : k < 12
        · have h2' : (k : Int) < 12 := by omega
          have hw2 : IntKind.i64.wrap ((k : Int) + 1) = (k : Int) + 1 := IntWalk.i64_in _ (by omega)
          rcases hone.out with ⟨hk0, hv, hsl, hbo⟩ | ⟨hk0, hown, hbo⟩
          · subst hk0 hv
            have HO := Lib.hid (And.intro hsl hbo)
            have HM := Lib.hid (markPairs_any i nl 1 wr (by omega) (by omega))
            clear hone hsl hbo
            go_wp2_with (fail)
            go_must (refine HM.out.mono ?_)
            rintro e w3 ⟨y, rfl, hy, hb3⟩
            obtain ⟨_, _, e3, _, _, hc3⟩ := Sl.of_own hy
            subst e3
            obtain ⟨b3, o3, rfl, _, hc3⟩ := hc3 (by omega)
            have HY := Lib.hid (And.intro (HO.out.1.below hb3) (And.intro hb3 hc3))
            clear hy hb3 hc3
            go_wp2_with (at_builtin; go_must (refine wpList_append_full rfl _ _ 26 rfl 44 i0 _ 2 32 Tryz.underlying26 hinf q0 q1 q2 rfl (by decide) A nl (pairsCs (markP i 0 nl)) rfl HY.out.1 HU.out.2.2.1 ⟨b3, o3, none⟩ 1 _ (pairsCs (markP i nl 1)) rfl rfl (fun j u hu => by rw [addr_add]; exact HY.out.2.2 j u hu) (pairsCs_one _) (by decide) (by unfold maxLen; omega) (by omega) ?_))
            intro v5 w5 own5 hb5
            have HN : Hid (One wo i nl 1 A v5 w5) := .inr ⟨by omega, by
              rw [← pairsCs_app, markP_app' i nl 1] at own5
              exact own_base own5 (Nat.le_trans HO.out.2.size HY.out.2.1.size), HO.out.2.trans ((HY.out.2.1.trans (hb5.mono HY.out.2.1.size)).mono HO.out.2.size)⟩
            obtain ⟨A5, c5, rfl, -⟩ := Sl.of_own own5
            clear own5 hb5
            go_wp2_with (fail)
            go_roundg (gk - 1)
            case measure => omega
            case rel => exact ⟨1, by simp, by omega, HN⟩
          · obtain ⟨Av, cv, rfl, -⟩ := Sl.of_own hown
            have HO := Lib.hid (And.intro hown hbo)
            obtain ⟨m, hm⟩ : ∃ m, nl + k = m := ⟨_, rfl⟩
            rw [hm] at HO
            have HM := Lib.hid (markPairs_any i m 1 wr (by omega) (by omega))
            have HMe := Lib.hid hm
            rw [hm]
            clear hone hown hbo hm
            go_wp2_with (fail)
            go_must (refine HM.out.mono ?_)
            rintro e w3 ⟨y, rfl, hy, hb3⟩
            obtain ⟨_, _, e3, _, _, hc3⟩ := Sl.of_own hy
            subst e3
            obtain ⟨b3, o3, rfl, _, hc3⟩ := hc3 (by omega)
            have HY := Lib.hid (And.intro (own_below HO.out.1 hb3) (And.intro hb3 hc3))
            clear hy hb3 hc3
            go_wp2_with (at_builtin; go_must (refine wpList_append_at rfl _ _ 26 rfl wo.heap.size 44 i0 _ 2 32 Tryz.underlying26 hinf q0 q1 q2 rfl (by decide) _ m (pairsCs (markP i 0 m)) rfl HY.out.1 ⟨b3, o3, none⟩ 1 _ (pairsCs (markP i m 1)) rfl rfl (fun j u hu => by rw [addr_add]; exact HY.out.2.2 j u hu) (pairsCs_one _) (by have := HMe.out; unfold maxLen; omega) (by have := HMe.out; omega) (Nat.le_trans HO.out.2.size HY.out.2.1.size) ?_))
            intro v5 w5 own5 hg5 _
            have HN : Hid (One wo i nl (k + 1) A v5 w5) := .inr ⟨by omega, by
              rw [← pairsCs_app, markP_app' i m 1, ← HMe.out] at own5
              exact own5, (HO.out.2.trans (HY.out.2.1.mono HO.out.2.size)).grown hg5 (Nat.le_trans HO.out.2.size HY.out.2.1.size) (fun k hk => (HY.out.1.lt k hk).1)⟩
            obtain ⟨A5, c5, rfl, -⟩ := Sl.of_own own5
            clear own5 hg5
            go_wp2_with (fail)
            go_roundg (gk - 1)
            case measure => omega
            case rel => exact ⟨k + 1, by simp, by omega, HN⟩
        · have h2' : ¬ (k : Int) < 12 := by omega
          have hkn : k = 12 := by omega
          subst hkn
          rcases hone.out with ⟨hk0, hv, hsl, hbo⟩ | ⟨hk0, hown, hbo⟩
          · omega
          obtain ⟨Av, cv, rfl, -⟩ := Sl.of_own hown
          have HO := Lib.hid (And.intro hown hbo)
          have HM := Lib.hid (markPairs_any i (nl + 12) 60 wr (by omega) (by omega))
          obtain ⟨m, hm⟩ : ∃ m, nl + 12 = m := ⟨_, rfl⟩
          rw [hm] at HO HM
          have HMe := Lib.hid hm
          rw [hm]
          clear hone hown hbo hm
          go_wp2_with (fail)
          go_must (refine HM.out.mono ?_)
          rintro e w3 ⟨y, rfl, hy, hb3⟩
          obtain ⟨_, _, e3, _, _, hc3⟩ := Sl.of_own hy
          subst e3
          obtain ⟨b3, o3, rfl, _, hc3⟩ := hc3 (by omega)
          have HY := Lib.hid (And.intro (own_below HO.out.1 hb3) (And.intro hb3 hc3))
          clear hy hb3 hc3
          go_wp2_with (at_builtin; go_must (refine wpList_append_at rfl _ _ 26 rfl wo.heap.size 44 i0 _ 2 32 Tryz.underlying26 hinf q0 q1 q2 rfl (by decide) _ m (pairsCs (markP i 0 m)) rfl HY.out.1 ⟨b3, o3, none⟩ 60 _ (pairsCs (markP i m 60)) rfl (by rw [pairsCs_len, markP_len]) (fun j u hu => by rw [addr_add]; exact HY.out.2.2 j u hu) (pairsCs_one _) (by have := HMe.out; unfold maxLen; omega) (by have := HMe.out; omega) (Nat.le_trans HO.out.2.size HY.out.2.1.size) ?_))
          intro v5 w5 own5 hg5 _
          rw [← pairsCs_app, markP_app' i m 60] at own5
          have hb5 : Below wo.heap.size wo w5 := (HO.out.2.trans (HY.out.2.1.mono HO.out.2.size)).grown hg5 (Nat.le_trans HO.out.2.size HY.out.2.1.size) (fun k hk => (HY.out.1.lt k hk).1)
          obtain ⟨A5, c5, rfl, -⟩ := Sl.of_own own5
          have hrow5 := (own_below hrow.out hb5).alloc (.cells #[.slice A5 (m + 60) c5] 26)
          have HR := Lib.hid (And.intro own5 (And.intro hb5 hrow5))
          clear own5 hg5 hb5 hrow5
          go_wp2_with (at_builtin; go_must (refine wpList_append_at rfl _ _ 53 rfl W.heap.size 26 j0 _ 1 24 Tryz.underlying53 hinj r0 r1 r2 rfl (by decide) _ i gs rfl HR.out.2.2 ⟨w5.heap.size, 0, none⟩ 1 1 [.slice A5 (m + 60) c5] rfl rfl (row_val _ _ _ _ rfl) (by simp [Value.oneCell']) (by unfold maxLen; omega) (by omega) (by have := HR.out.2.1.size; have := hbw.out.size; simp; omega) ?_))
          intro v7 w7 own7 hg7 _
          have HF : Hid (w7.ownsRow W.heap.size 26 1 v7 (i + 1) (gs ++ [.slice A5 (m + 60) c5]) ∧ GrI w7 W.heap.size ls (gs ++ [.slice A5 (m + 60) c5]) ∧ Below W.heap.size W w7) := by
            refine ⟨own7, ?_, ?_⟩
            · refine hgr.out.step (W1 := w5) (W2 := w5.alloc (.cells #[.slice A5 (m + 60) c5] 26)) (l := l) hbw.out.size HR.out.2.1 ?_ (by rw [hgs.out]; exact HU.out.1) (by rw [hgs.out]; exact HR.out.2.2) ((Below.refl _ w5).alloc (Nat.le_refl _) _) hg7
              rw [HU.out.2.1, hgs.out, show nl + 72 = m + 60 by have := HMe.out; omega]
              exact HR.out.1
            · refine ((hbw.out.trans (HR.out.2.1.mono hbw.out.size)).alloc (Nat.le_trans hbw.out.size HR.out.2.1.size) _).grown hg7 (Nat.le_trans (Nat.le_trans hbw.out.size HR.out.2.1.size) (by simp)) (fun k hk => (HR.out.2.2.lt k hk).1)
          obtain ⟨A7, c7, rfl, -⟩ := Sl.of_own own7
          clear own7 hg7
          go_wp2_with (fail)
          go_roundg (gq - 1)
          case measure => omega
          case rel => exact ⟨i + 1, _, by simp, by omega, by show (gs ++ _).length = _; rw [List.length_append, hgs.out]; rfl, HF.out.1, HF.out.2.1, HF.out.2.2⟩
    · have h1' : ¬ (i : Int) < (n : Int) := by omega
      have hin : i = n := by omega
      have hln : i = ls.length := by have := HA.out.2.1.1; rw [marksL_len] at this; rw [hin, ← HA.out.2.2.2]; exact this
      have HF : Hid (GrowP ls W (.returned (.slice Ao i co)) wo) := ⟨_, _, _, gs, rfl, Sl.of_own hrow.out, hln, hgr.out.done (by rw [hgs.out, hln]), hbw.out⟩
      clear hln hin
      go_wp2_with (fail)
      go_ret
      exact HF.out
end
end Go.Ev
