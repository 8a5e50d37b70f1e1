/-
  The methods of a pile's numbers, through an interface. A heap of numbers: one more, and the least one taken, as far as what is in it. A heap of numbers: what goes down in it. A number is put onto a pile; one is taken. A number is put onto a heap; one is taken from it. Onto a heap, and from it; a pile's methods. Numbers are put onto a pile. A map with numbers as keys, as a row of entries: looked up, put into, deleted from. What a pager of a first transaction knows: its pages and its spare numbers. A region that draws its order, within a round: what is shown without a fence holds there, too. A range over a function whose rounds come in a known order and never leave: the law, directed by the list of what comes. What is read from a branch's bytes, whatever they are, is short.
-/
import Derived.Test.YtgfmhppkmogdhaaGreatDoorMRGvBranch
import Derived.Deep.LoopGhost
import Derived.Deep.DeepMust
import Derived.Test.YtgfmhppkmogdhaaGreatDoorMREvInsert
import Derived.Test.YtgfmhppkmogdhaaGreatDoorMREvBytes
import Derived.MapKept
import Derived.Test.YtgfmhppkmogdhaaGreatDoorMRGvTree
import Derived.RangeFuncNested
import Derived.RangeFuncCalls
import Derived.OrdersIn
import Derived.TacticsIn
import Derived.RangeFuncBound
import Derived.RangeFuncLeaves
import Derived.Test.YtgfmhppkmogdhaaGreatDoorMRGvGet
set_option linter.unusedVariables false
set_option linter.unusedSimpArgs false
set_option linter.unusedVariables false
set_option linter.unusedSimpArgs false
namespace Go.Ev
open Go.Proofs Go.RowKit

theorem load_nums (b : Nat) (v : Value) (w : World) (h : w.cell? ⟨b, 0, none⟩ = some v) : (loadVar 268 ⟨b, 0, none⟩).run Tryz.prog w = .ok v w := by
  simp [loadVar, Tryz.isAgg268, h, go_sem]

theorem run_wrap {P : Program} (ts : Array TypeId) (t : TypeId) (a : Addr) (x y : String) (w : World) : (Builtin.ssaWrapNilChk_ ts t #[.pointer (some a), strVal x, strVal y]).run P w = .ok (.pointer (some a)) w := rfl

theorem method_val {P : Program} {k : Nat} {t e : TypeId} {b : Nat} {name : String} {w : World} {i : TypeInfo} {m : Method} {f : FuncId} {v : Value} (hi : P.info? t = some i) (hm : i.methods.find? (·.name == name) = some m) (hp : m.path = #[]) (hf : m.func = some (f, false))
    (hu : P.underlying t = some (.pointer e)) (hl : (loadVar e ⟨b, 0, none⟩).run P w = .ok v w) : (method (k + 1) t (.pointer (some ⟨b, 0, none⟩)) name).run P w = .ok (f, v) w := by
  unfold method
  simp only [typeInfo, Sem.run_bind]
  simp [hi, hm, hp, hf, follow, receiverAt, run_underlying hu, Place.get, run_wrap, asAddr, go_sem]
  refine (congrArg (fun r => Result.andThen r (fun a w' => Result.ok (f, a) w')) (?_ : _ = Result.ok v w)).trans rfl
  simpa [loadVar, go_sem] using hl

theorem method_of {P : Program} {k : Nat} {t e : TypeId} {b : Nat} {name : String} {w : World} {f : FuncId} {v : Value} (h : (P.info? t).bind (fun i => (i.methods.find? (·.name == name)).map (fun m => (m.path, m.func))) = some (#[], some (f, false)))
    (hu : P.underlying t = some (.pointer e)) (hl : (loadVar e ⟨b, 0, none⟩).run P w = .ok v w) : (method (k + 1) t (.pointer (some ⟨b, 0, none⟩)) name).run P w = .ok (f, v) w := by
  cases hi : P.info? t with
  | none => simp [hi] at h
  | some i =>
    cases hm : i.methods.find? (·.name == name) with
    | none => simp [hi, hm] at h
    | some m =>
      simp only [hi, Option.bind_some, hm, Option.map_some, Option.some.injEq, Prod.mk.injEq] at h
      exact method_val hi hm h.1 h.2 hu hl

theorem m_less (b : Nat) (v : Value) (w : World) (h : w.cell? ⟨b, 0, none⟩ = some v) : (method 532 329 (.pointer (some ⟨b, 0, none⟩)) "Less").run Tryz.prog w = .ok (335, v) w :=
  method_of (by kernel_rfl) Tryz.underlying329 (load_nums b v w h)
theorem m_swap (b : Nat) (v : Value) (w : World) (h : w.cell? ⟨b, 0, none⟩ = some v) : (method 532 329 (.pointer (some ⟨b, 0, none⟩)) "Swap").run Tryz.prog w = .ok (336, v) w :=
  method_of (by kernel_rfl) Tryz.underlying329 (load_nums b v w h)
theorem m_len (b : Nat) (v : Value) (w : World) (h : w.cell? ⟨b, 0, none⟩ = some v) : (method 532 329 (.pointer (some ⟨b, 0, none⟩)) "Len").run Tryz.prog w = .ok (334, v) w :=
  method_of (by kernel_rfl) Tryz.underlying329 (load_nums b v w h)
theorem m_push (b : Nat) (w : World) : (method 532 329 (.pointer (some ⟨b, 0, none⟩)) "Push").run Tryz.prog w = .ok (339, .pointer (some ⟨b, 0, none⟩)) w := by kernel_rfl
theorem m_pop (b : Nat) (w : World) : (method 532 329 (.pointer (some ⟨b, 0, none⟩)) "Pop").run Tryz.prog w = .ok (338, .pointer (some ⟨b, 0, none⟩)) w := by kernel_rfl
end Go.Ev

set_option linter.unusedVariables false
set_option linter.unusedSimpArgs false
namespace Go.Ev
open Go.Proofs Go.RowKit

abbrev rowV (g n c : Nat) : Value := .slice (some ⟨g, 0, none⟩) n c

def Perms (g n c : Nat) (xs : List Int) (w : World) (keep : Nat) (wr : World) : Prop := ∃ ys : List Int, ys.Perm xs ∧ (∀ k, keep ≤ k → ys[k]? = xs[k]?) ∧ wr.ownsRow 0 3 1 (rowV g n c) n (intsV ys) ∧ Keeps (fun k => k = g) w wr

set_option maxHeartbeats 1000000 in
set_option maxRecDepth 100000 in
theorem up_any (b g n c j : Nat) (xs : List Int) (w : World) (hc : w.cell? ⟨b, 0, none⟩ = some (rowV g n c)) (hbg : b ≠ g) (hbl : b < w.heap.size) (hown : w.ownsRow 0 3 1 (rowV g n c) n (intsV xs)) (hj : j < n) (hn : n ≤ 1000000) :
    Calls Tryz.prog 298 #[.iface 329 (.pointer (some ⟨b, 0, none⟩)), .int .i64 j] w fun e w' => e = .returned (.tuple #[]) ∧ Perms g n c xs w n w' := by
  go_enter Tryz.func298, Tryz.ntmps298
  go_wp2
  go_loopg [1] j (fun gk s1 wr => ∃ j' : Nat, s1 = .int .i64 j' ∧ j' ≤ gk ∧ j' < n ∧ Perms g n c xs w n wr)
  case atStart => exact ⟨j, rfl, Nat.le_refl _, hj, xs, List.Perm.refl _, fun _ _ => rfl, hown, Keeps.refl _ _⟩
  case round =>
    obtain ⟨j', rfl, hg, hjn, ys, hp, hke, ho, hk⟩ := hrel
    have hz := hk.size
    have hc2 : wr.cell? ⟨b, 0, none⟩ = some (rowV g n c) := (hk.cell (p := ⟨b, 0, none⟩) hbl hbg).trans hc
    by_cases h0 : j' = 0
    · subst h0
      go_wp2
      refine bodyPost_end (results_none rfl _ _ _) rfl ?_
      exact ⟨rfl, ys, hp, hke, ho, hk⟩
    · obtain ⟨i, hi⟩ : ∃ i, i = (j' - 1) / 2 := ⟨_, rfl⟩
      have hi2 : ((j' : Int) - 1) / 2 = (i : Int) := by omega
      have hlt : i < j' := by omega
      have hj1 : (1 : Int) ≤ (j' : Int) := by omega
      have hne : ((i : Int) == (j' : Int)) = false := by simp; omega
      clear hi
      have hyl : ys.length = n := by have := ho.1; rw [intsV_len] at this; omega
      have hil : i < ys.length := by omega
      have hjl : j' < ys.length := by omega
      have hcx : wr.cell? ⟨g, j', none⟩ = some (.int .i64 ys[j']) := by rw [ho.cellAt j' (by omega), intsV_at, List.getElem?_eq_getElem hjl]; rfl
      have hcy : wr.cell? ⟨g, i, none⟩ = some (.int .i64 ys[i]) := by rw [ho.cellAt i (by omega), intsV_at, List.getElem?_eq_getElem hil]; rfl
      have fx := ho.frozenAt j'
      have fy := ho.frozenAt i
      have hml := m_less b _ wr hc2
      have hms := m_swap b _ wr.drew hc2
      have hL := Lib.hid (lessN_any g n c j' i ys[j'] ys[i] wr hcx hcy hjn (by omega) hn)
      have hS := Lib.hid (swapN_any g n c i j' ys[i] ys[j'] wr.drew hcy hcx (by omega) hjn hn fy fx)
      have hyp := Lib.hid (swapL_perm hil hjl)
      have ho1 := (ho.drew.stored i (.int .i64 ys[j'])).1
      have ho2 := (ho1.stored j' (.int .i64 ys[i])).1
      rw [intsV_set, intsV_set] at ho2
      have he : (ys.set i ys[j']).set j' ys[i] = swapL ys i j' := by simp [swapL, List.getD_eq_getElem?_getD, hil, hjl]
      rw [he] at ho2
      have HO := Lib.hid ho2
      have hkk : Hid (∀ k, n ≤ k → (swapL ys i j')[k]? = xs[k]?) := fun k hkn => by
        rw [swapL_at hil hjl, if_neg (by omega), if_neg (by omega)]
        exact hke k hkn
      have hK2 : Keeps (fun k => k = g) w (((wr.drew.setCell ⟨g, i, none⟩ (.int .i64 ys[j'])).setCell ⟨g, j', none⟩ (.int .i64 ys[i])).drew) := ((hk.drew.setCell (p := ⟨g, i, none⟩) (fun _ => rfl) _).setCell (p := ⟨g, j', none⟩) (fun _ => rfl) _).drew
      have HP := Lib.hid hp
      have HKE := Lib.hid hke
      clear ho1 ho2 he hyl hcx hcy fx fy hp hke
      generalize ys[j'] = x at *
      generalize ys[i] = y at *
      clear hjl hil
      generalize hq : decide (x < y) = q at hL
      clear hq
      cases q with
      | true =>
        go_wp2_with (first
          | (go_at_call 335; go_must (refine hL.out.mono ?_); rintro e w1 ⟨rfl, rfl⟩)
          | (go_at_call 336; go_must (refine hS.out.mono ?_); rintro e w2 ⟨rfl, rfl⟩))
        go_roundg i
        case measure => omega
        case rel => exact ⟨i, rfl, Nat.le_refl _, by omega, swapL ys i j', hyp.out.trans HP.out, hkk.out, HO.out.drew, hK2⟩
      | false =>
        go_wp2_with (first
          | (go_at_call 335; go_must (refine hL.out.mono ?_); rintro e w1 ⟨rfl, rfl⟩))
        refine bodyPost_end (results_none rfl _ _ _) rfl ?_
        exact ⟨rfl, ys, HP.out, HKE.out, ho.drew, hk.drew⟩
end Go.Ev

set_option linter.unusedVariables false
set_option linter.unusedSimpArgs false
namespace Go.Ev
open Go.Proofs Go.RowKit

/-- What is known of two places of a row. -/
theorem row_at {W : World} {g n c : Nat} {ys : List Int} (ho : W.ownsRow 0 3 1 (rowV g n c) n (intsV ys)) {k : Nat} (hk : k < n) : ∃ x, ys[k]? = some x ∧ W.cell? ⟨g, k, none⟩ = some (.int .i64 x) ∧ W.frozen? ⟨g, k, none⟩ = false := by
  have hyl : ys.length = n := by have := ho.1; rw [intsV_len] at this; omega
  have hkl : k < ys.length := by omega
  exact ⟨ys[k], List.getElem?_eq_getElem hkl, by rw [ho.cellAt k (by omega), intsV_at, List.getElem?_eq_getElem hkl]; rfl, ho.frozenAt k⟩

theorem swapped {w wr : World} {g n c i j keep : Nat} {xs ys : List Int} {x y : Int} (hp : ys.Perm xs) (hke : ∀ k, keep ≤ k → ys[k]? = xs[k]?) (ho : wr.ownsRow 0 3 1 (rowV g n c) n (intsV ys)) (hk : Keeps (fun k => k = g) w wr)
    (hx : ys[i]? = some x) (hy : ys[j]? = some y) (hi : i < keep) (hj : j < keep) : Perms g n c xs w keep (((wr.setCell ⟨g, i, none⟩ (.int .i64 y)).setCell ⟨g, j, none⟩ (.int .i64 x)).drew) := by
  have hil := (List.getElem?_eq_some_iff.1 hx).1
  have hjl := (List.getElem?_eq_some_iff.1 hy).1
  refine ⟨swapL ys i j, (swapL_perm hil hjl).trans hp, fun k hkn => ?_, ?_, ((hk.setCell (p := ⟨g, i, none⟩) (fun _ => rfl) _).setCell (p := ⟨g, j, none⟩) (fun _ => rfl) _).drew⟩
  · rw [swapL_at hil hjl, if_neg (by omega), if_neg (by omega)]
    exact hke k hkn
  · have ho1 := (ho.stored i (.int .i64 y)).1
    have ho2 := (ho1.stored j (.int .i64 x)).1
    rw [intsV_set, intsV_set] at ho2
    have he : (ys.set i y).set j x = swapL ys i j := by simp [swapL, List.getD_eq_getElem?_getD, hx, hy]
    rw [he] at ho2
    exact ho2.drew

set_option maxHeartbeats 1000000 in
set_option maxRecDepth 100000 in
theorem down_any (b g n c i0 m : Nat) (xs : List Int) (w : World) (hc : w.cell? ⟨b, 0, none⟩ = some (rowV g n c)) (hbg : b ≠ g) (hbl : b < w.heap.size) (hown : w.ownsRow 0 3 1 (rowV g n c) n (intsV xs)) (hm : m ≤ n) (hn : n ≤ 1000000) (hi0 : i0 ≤ n) :
    Calls Tryz.prog 270 #[.iface 329 (.pointer (some ⟨b, 0, none⟩)), .int .i64 i0, .int .i64 m] w fun e w' => (∃ q : Bool, e = .returned (.bool q)) ∧ Perms g n c xs w m w' := by
  go_enter Tryz.func270, Tryz.ntmps270
  go_wp2
  go_loopg [7, 8, 9, 10] (n - i0) (fun gk s7 s8 s9 s10 wr => ∃ i : Nat, s7 = .int .i64 i ∧ n - i ≤ gk ∧ i ≤ n ∧ Perms g n c xs w m wr)
  case atStart => exact ⟨i0, rfl, Nat.le_refl _, hi0, xs, List.Perm.refl _, fun _ _ => rfl, hown, Keeps.refl _ _⟩
  case round =>
    obtain ⟨i, rfl, hg, hin, ys, hp, hke, ho, hk⟩ := hrel
    have hz := hk.size
    have hc2 : wr.cell? ⟨b, 0, none⟩ = some (rowV g n c) := (hk.cell (p := ⟨b, 0, none⟩) hbl hbg).trans hc
    by_cases h1 : m ≤ 2 * i + 1
    · have h1' : (m : Int) ≤ 2 * (i : Int) + 1 := by omega
      have HP := Lib.hid hp
      have HKE := Lib.hid hke
      clear hp hke
      go_wp2
      go_ret
      exact ⟨⟨_, rfl⟩, ys, HP.out, HKE.out, ho, hk⟩
    · obtain ⟨j1, hj1a, hj1b⟩ : ∃ j1, j1 ≤ 2 * i + 1 ∧ 2 * i + 1 ≤ j1 := ⟨_, Nat.le_refl _, Nat.le_refl _⟩
      obtain ⟨j2, hj2a, hj2b⟩ : ∃ j2, j2 ≤ 2 * i + 2 ∧ 2 * i + 2 ≤ j2 := ⟨_, Nat.le_refl _, Nat.le_refl _⟩
      have h1' : ¬ (m : Int) ≤ (j1 : Int) := by omega
      obtain ⟨x, hx, cx, fx⟩ := row_at ho (show i < n by omega)
      obtain ⟨y1, hy1, cy1, fy1⟩ := row_at ho (show j1 < n by omega)
      have hml0 := m_less b _ wr hc2
      have hml1 := m_less b _ wr.drew hc2
      have hms1 := m_swap b _ wr.drew hc2
      have hms2 := m_swap b _ wr.drew.drew hc2
      have HP := Lib.hid hp
      have HKE := Lib.hid hke
      have HX := Lib.hid hx
      have HY1 := Lib.hid hy1
      clear hp hke hx hy1
      have e1 : 2 * (i : Int) + 1 = (j1 : Int) := by omega
      have e2 : (j1 : Int) + 1 = (j2 : Int) := by omega
      by_cases h2 : j2 < m
      · have h2' : (j2 : Int) < (m : Int) := by omega
        obtain ⟨y2, hy2, cy2, fy2⟩ := row_at ho (show j2 < n by omega)
        have HY2 := Lib.hid hy2
        clear hy2
        have hL := lessN_any g n c j2 j1 y2 y1 wr cy2 cy1 (by omega) (by omega) hn
        generalize hq : decide (y2 < y1) = q at hL
        have HL := Lib.hid hL
        clear hq hL
        cases q with
        | true =>
          have hL2 := lessN_any g n c j2 i y2 x wr.drew cy2 cx (by omega) (by omega) hn
          generalize hq2 : decide (y2 < x) = q2 at hL2
          have HL2 := Lib.hid hL2
          have HS := Lib.hid (swapN_any g n c i j2 x y2 wr.drew.drew cx cy2 (by omega) (by omega) hn fx fy2)
          have HR := Lib.hid (swapped (c := c) HP.out HKE.out (wr := wr.drew.drew) ho (hk.drew.drew) HX.out HY2.out (show i < m by omega) (show j2 < m by omega))
          clear hq2 hL2
          cases q2 with
          | true =>
            go_wp2_with (fail)
            go_must (refine HL.out.mono ?_)
            rintro e w1 ⟨rfl, rfl⟩
            go_wp2_with (fail)
            go_must (refine HL2.out.mono ?_)
            rintro e w1 ⟨rfl, rfl⟩
            go_wp2_with (fail)
            go_must (refine HS.out.mono ?_)
            rintro e w2 ⟨rfl, rfl⟩
            go_wp2_with (fail)
            go_roundg (n - j2)
            case measure => omega
            case rel => exact ⟨j2, rfl, Nat.le_refl _, by omega, HR.out⟩
          | false =>
            go_wp2_with (fail)
            go_must (refine HL.out.mono ?_)
            rintro e w1 ⟨rfl, rfl⟩
            go_wp2_with (fail)
            go_must (refine HL2.out.mono ?_)
            rintro e w1 ⟨rfl, rfl⟩
            go_wp2_with (fail)
            go_ret
            exact ⟨⟨_, rfl⟩, ys, HP.out, HKE.out, ho, hk.drew.drew⟩
        | false =>
          have hL2 := lessN_any g n c j1 i y1 x wr.drew cy1 cx (by omega) (by omega) hn
          generalize hq2 : decide (y1 < x) = q2 at hL2
          have HL2 := Lib.hid hL2
          have HS := Lib.hid (swapN_any g n c i j1 x y1 wr.drew.drew cx cy1 (by omega) (by omega) hn fx fy1)
          have HR := Lib.hid (swapped (c := c) HP.out HKE.out (wr := wr.drew.drew) ho (hk.drew.drew) HX.out HY1.out (show i < m by omega) (show j1 < m by omega))
          clear hq2 hL2
          cases q2 with
          | true =>
            go_wp2_with (fail)
            go_must (refine HL.out.mono ?_)
            rintro e w1 ⟨rfl, rfl⟩
            go_wp2_with (fail)
            go_must (refine HL2.out.mono ?_)
            rintro e w1 ⟨rfl, rfl⟩
            go_wp2_with (fail)
            go_must (refine HS.out.mono ?_)
            rintro e w2 ⟨rfl, rfl⟩
            go_wp2_with (fail)
            go_roundg (n - j1)
            case measure => omega
            case rel => exact ⟨j1, rfl, Nat.le_refl _, by omega, HR.out⟩
          | false =>
            go_wp2_with (fail)
            go_must (refine HL.out.mono ?_)
            rintro e w1 ⟨rfl, rfl⟩
            go_wp2_with (fail)
            go_must (refine HL2.out.mono ?_)
            rintro e w1 ⟨rfl, rfl⟩
            go_wp2_with (fail)
            go_ret
            exact ⟨⟨_, rfl⟩, ys, HP.out, HKE.out, ho, hk.drew.drew⟩
      · have h2' : ¬ (j2 : Int) < (m : Int) := by omega
        have hL2 := lessN_any g n c j1 i y1 x wr cy1 cx (by omega) (by omega) hn
        generalize hq2 : decide (y1 < x) = q2 at hL2
        have HL2 := Lib.hid hL2
        have HS := Lib.hid (swapN_any g n c i j1 x y1 wr.drew cx cy1 (by omega) (by omega) hn fx fy1)
        have HR := Lib.hid (swapped (c := c) HP.out HKE.out (wr := wr.drew) ho (hk.drew) HX.out HY1.out (show i < m by omega) (show j1 < m by omega))
        clear hq2 hL2
        cases q2 with
        | true =>
          go_wp2_with (fail)
          go_must (refine HL2.out.mono ?_)
          rintro e w1 ⟨rfl, rfl⟩
          go_wp2_with (fail)
          go_must (refine HS.out.mono ?_)
          rintro e w2 ⟨rfl, rfl⟩
          go_wp2_with (fail)
          go_roundg (n - j1)
          case measure => omega
          case rel => exact ⟨j1, rfl, Nat.le_refl _, by omega, HR.out⟩
        | false =>
          go_wp2_with (fail)
          go_must (refine HL2.out.mono ?_)
          rintro e w1 ⟨rfl, rfl⟩
          go_wp2_with (fail)
          go_ret
          exact ⟨⟨_, rfl⟩, ys, HP.out, HKE.out, ho, hk.drew⟩
end Go.Ev

set_option linter.unusedVariables false
set_option linter.unusedSimpArgs false
namespace Go.Ev
open Go.Proofs Go.RowKit

theorem infoInt : (Tryz.prog.info? 3).map (fun i => (i.zero, i.size, i.bytes)) = some (some (.int .i64 0), 1, 8) := by kernel_rfl

/-- A pile of these numbers, in whatever order it keeps them. -/
def Pl (w : World) (b : Nat) (v : Value) (xs : List Int) : Prop := w.cell? ⟨b, 0, none⟩ = some v ∧ w.frozen? ⟨b, 0, none⟩ = false ∧ b < w.heap.size ∧ w.ownsRow 0 3 1 v xs.length (intsV xs) ∧ v.ownBlock ≠ some b

/-- What a call may turn: the pile's block, and its row's. -/
def PlS (b : Nat) (v : Value) (k : Nat) : Prop := k = b ∨ v.ownBlock = some k

theorem row_new1 (w : World) (u : Value) (T : TypeId) (B : Nat) (hB : B = w.heap.size) : ∀ j v, [u][j]? = some v → ((w.alloc (.cells #[u] T)).drew).cell? ((⟨B, 0, none⟩ : Addr).add j) = some v := by
  intro j v h
  subst hB
  rw [addr_add]
  cases j with
  | zero => cases h; exact (Blk.new w T #[u]).cell 0
  | succ j => simp at h

theorem push_end {w w1 : World} {b : Nat} {v v' : Value} {xs : List Int} {x : Int} {o : Obj} (hbl : b < w.heap.size) (hne : v.ownBlock ≠ some b) (hown : w.ownsRow 0 3 1 v xs.length (intsV xs)) (hown1 : w1.ownsRow 0 3 1 v' (xs.length + 1) (intsV xs ++ [.int .i64 x]))
    (hgrow : (w.alloc o).drew.grownBy w1 v.ownBlock) (hc : w1.cell? ⟨b, 0, none⟩ = some v) (hf : w1.frozen? ⟨b, 0, none⟩ = false) (hat : ∀ k, v'.ownBlock = some k → v.ownBlock = some k ∨ (w.alloc o).drew.heap.size ≤ k) :
    Pl (w1.setCell ⟨b, 0, none⟩ v') b v' (xs ++ [x]) ∧ Keeps (PlS b v) w (w1.setCell ⟨b, 0, none⟩ v') ∧ (∀ k, v'.ownBlock = some k → v.ownBlock = some k ∨ w.heap.size ≤ k) := by
  have hK1 : Keeps (PlS b v) w w1 := (((Keeps.refl _ w).alloc o).drew).grown hgrow (fun k hk _ => .inr hk)
  have hv' : ∀ k, v'.ownBlock = some k → v.ownBlock = some k ∨ w.heap.size ≤ k := fun k hk => (hat k hk).imp id fun h => by
    have : (w.alloc o).drew.heap.size = w.heap.size + 1 := by show (w.alloc o).heap.size = _; simp
    omega
  have hne' : v'.ownBlock ≠ some b := fun hk => by
    rcases hv' b hk with h | h
    · exact hne h
    · omega
  refine ⟨⟨?_, ?_, ?_, ?_, hne'⟩, hK1.setCell (p := ⟨b, 0, none⟩) (fun _ => .inl rfl) _, hv'⟩
  · exact World.cell?_setCell_same _ _ _ hc
  · rw [World.frozen?_setCell]; exact hf
  · have := hK1.size; simp [World.setCell]; omega
  · rw [List.length_append, intsV_snoc]
    exact own_keeps hown1 ((Keeps.refl (fun k => k = b) w1).setCell (p := ⟨b, 0, none⟩) (fun _ => rfl) _) (fun k hk e => hne' (e ▸ hk))

set_option maxHeartbeats 1000000 in
set_option maxRecDepth 100000 in
theorem pushN_any (b : Nat) (v : Value) (xs : List Int) (x : Int) (w : World) (h : Pl w b v xs) (hn : xs.length ≤ 900000) :
    Calls Tryz.prog 339 #[.pointer (some ⟨b, 0, none⟩), .iface 3 (.int .i64 x)] w fun e w' => e = .returned (.tuple #[]) ∧ ∃ v', Pl w' b v' (xs ++ [x]) ∧ Keeps (PlS b v) w w' ∧ (∀ k, v'.ownBlock = some k → v.ownBlock = some k ∨ w.heap.size ≤ k) := by
  obtain ⟨i0, hi, hz0, hz1, hz2⟩ := info_parts infoInt
  obtain ⟨hc, hf, hbl, hown, hne⟩ := h
  obtain ⟨A, c, rfl, _⟩ := Sl.of_own hown
  have hta : ∀ w, (Instr.typeAssert (.iface 3 (.int .i64 x)) 20 3 false).run Tryz.prog w = .ok (.int .i64 x) w := fun _ => by kernel_rfl
  have HC : Hid (∀ {o : Obj} (w1 : World), (w.alloc o).drew.grownBy w1 (Value.ownBlock (.slice A xs.length c)) → w1.cell? ⟨b, 0, none⟩ = some (.slice A xs.length c)) := fun {o} w1 hg =>
    (World.cell?_of_block (a := ⟨b, 0, none⟩) (hg.block b (by show b < (w.alloc o).heap.size; simp; omega) (fun e => hne e.symm))).trans ((World.cell?_alloc_past _ _ _ hbl).trans hc)
  have HF : Hid (∀ {o : Obj} (w1 : World), (w.alloc o).drew.grownBy w1 (Value.ownBlock (.slice A xs.length c)) → w1.frozen? ⟨b, 0, none⟩ = false) := fun {o} w1 hg =>
    (World.frozen?_of_block (a := ⟨b, 0, none⟩) (hg.block b (by show b < (w.alloc o).heap.size; simp; omega) (fun e => hne e.symm))).trans ((Below.frozen ((Below.refl w.heap.size w).alloc (Nat.le_refl _) o) (p := ⟨b, 0, none⟩) hbl).trans hf)
  go_enter Tryz.func339, Tryz.ntmps339
  go_wp2
  refine wp_region_any (by kernel_rfl) ?_
  change wpAny _ _ _ _ _ _ _ (World.drew _)
  try simp only [Act.put, lT, l0, lS]
  refine tk 0 (v := ?_) rfl (by kernel_rfl) (fun _ _ _ h => h) (by rfl) ?hy ?_
  case hy => intro w; go_simp; try with_reducible rfl
  try simp only [Act.put, lT, l0, lS]
  refine tk 1 (v := ?_) rfl (by kernel_rfl) (fun _ _ _ h => h) (by rfl) ?hy ?_
  case hy => intro w; go_simp; try with_reducible rfl
  try simp only [Act.put, lT, l0, lS]
  refine tk 2 (v := ?_) rfl (by kernel_rfl) (fun _ _ _ h => h) (by rfl) ?hy ?_
  case hy => intro w; go_simp; try with_reducible rfl
  try simp only [Act.put, lT, l0, lS]
  refine tk 4 (v := ?_) rfl (by kernel_rfl) (fun _ _ _ h => h) (by rfl) ?hy ?_
  case hy => intro w; go_simp; try with_reducible rfl
  try simp only [Act.put, lT, l0, lS]
  refine tk 5 (v := ?_) rfl (by kernel_rfl) (fun _ _ _ h => h) (by rfl) ?hy ?_
  case hy => intro w; go_simp; try with_reducible rfl
  try simp only [Act.put, lT, l0, lS]
  refine wpAny_ready (rs := [3, 6]) (by kernel_rfl) (by simp) (AllReady.cons (o := { dst := _, op := _, type := _, pos := _, after := _, guard := _ }) rfl (fun K hK => ?_) (AllReady.cons (o := { dst := _, op := _, type := _, pos := _, after := _, guard := _ }) rfl (fun K hK => ?_) AllReady.nil))
  · go_simp
    refine hK _ _ ?_
    clear hK K
    refine rd 6 (by kernel_rfl) rfl (fun K hK => ?_)
    go_simp
    refine hK _ _ ?_
    clear hK K
    refine rd 7 (by kernel_rfl) rfl (fun K hK => ?_)
    refine if_on rfl ?_
    go_must (refine wp_append_at _ _ 268 rfl 0 3 i0 _ 1 8 Tryz.underlying268 hi hz0 hz1 hz2 rfl (by decide) _ xs.length (intsV xs) rfl (World.ownsRow.alloc hown _) ⟨w.heap.size, 0, none⟩ 1 1 [.int .i64 x] rfl rfl ?_ (by simp [Value.oneCell']) (by unfold maxLen; omega) (by omega) (Nat.zero_le _) ?_)
    · exact row_new1 _ _ _ _ rfl
    intro v' w1 hown1 hgrow hat
    obtain ⟨A', c', rfl, _⟩ := Sl.of_own hown1
    have hw1 : w1.cell? ⟨b, 0, none⟩ = some (.slice A xs.length c) := HC.out w1 hgrow
    have hf1 : w1.frozen? ⟨b, 0, none⟩ = false := HF.out w1 hgrow
    have HE := Lib.hid (push_end (x := x) hbl hne hown hown1 hgrow hw1 hf1 hat)
    go_simp
    refine hK _ _ ?_
    clear hK K
    refine rd 8 (by kernel_rfl) rfl (fun K hK => ?_)
    go_simp
    refine hK _ _ ?_
    clear hK K
    refine rd 9 (by kernel_rfl) rfl (fun K hK => ?_)
    go_simp
    refine hK _ _ ?_
    clear hK K
    refine wpAny_done (by kernel_rfl) ?_ _
    refine bodyPost_end (results_none rfl _ _ _) rfl ?_
    exact ⟨rfl, _, HE.out⟩
  · go_simp
    refine hK _ _ ?_
    clear hK K
    refine rd 3 (by kernel_rfl) rfl (fun K hK => ?_)
    go_simp
    refine hK _ _ ?_
    clear hK K
    refine rd 7 (by kernel_rfl) rfl (fun K hK => ?_)
    refine if_on rfl ?_
    go_must (refine wp_append_at _ _ 268 rfl 0 3 i0 _ 1 8 Tryz.underlying268 hi hz0 hz1 hz2 rfl (by decide) _ xs.length (intsV xs) rfl (World.ownsRow.alloc hown _) ⟨w.heap.size, 0, none⟩ 1 1 [.int .i64 x] rfl rfl ?_ (by simp [Value.oneCell']) (by unfold maxLen; omega) (by omega) (Nat.zero_le _) ?_)
    · exact row_new1 _ _ _ _ rfl
    intro v' w1 hown1 hgrow hat
    obtain ⟨A', c', rfl, _⟩ := Sl.of_own hown1
    have hw1 : w1.cell? ⟨b, 0, none⟩ = some (.slice A xs.length c) := HC.out w1 hgrow
    have hf1 : w1.frozen? ⟨b, 0, none⟩ = false := HF.out w1 hgrow
    have HE := Lib.hid (push_end (x := x) hbl hne hown hown1 hgrow hw1 hf1 hat)
    go_simp
    refine hK _ _ ?_
    clear hK K
    refine rd 8 (by kernel_rfl) rfl (fun K hK => ?_)
    go_simp
    refine hK _ _ ?_
    clear hK K
    refine rd 9 (by kernel_rfl) rfl (fun K hK => ?_)
    go_simp
    refine hK _ _ ?_
    clear hK K
    refine wpAny_done (by kernel_rfl) ?_ _
    refine bodyPost_end (results_none rfl _ _ _) rfl ?_
    exact ⟨rfl, _, HE.out⟩
end Go.Ev

set_option linter.unusedVariables false
set_option linter.unusedSimpArgs false
namespace Go.Ev
open Go.Proofs Go.RowKit

theorem Pl.row {w : World} {b : Nat} {v : Value} {xs : List Int} (h : Pl w b v xs) (hp : 0 < xs.length) : ∃ g c, v = rowV g xs.length c ∧ b ≠ g ∧ g < w.heap.size := by
  obtain ⟨hc, hf, hbl, hown, hne⟩ := h
  rcases hown.2 with ⟨_, h0⟩ | ⟨g, cap, cur, hv, hbb, hheap, _⟩
  · omega
  · exact ⟨g, cap, hv, fun e => hne (by rw [hv, e]; rfl), (Array.getElem?_eq_some_iff.1 hheap).1⟩

set_option maxHeartbeats 1000000 in
set_option maxRecDepth 100000 in
theorem popN_any (b g c : Nat) (xs : List Int) (x : Int) (w : World) (h : Pl w b (rowV g (xs.length + 1) c) (xs ++ [x])) (hn : xs.length ≤ 900000) :
    Calls Tryz.prog 338 #[.pointer (some ⟨b, 0, none⟩)] w fun e w' => e = .returned (.iface 3 (.int .i64 x)) ∧ Pl w' b (rowV g xs.length c) xs ∧ Keeps (fun k => k = b) w w' := by
  obtain ⟨hc, hf, hbl, hown, hne⟩ := h
  have hl : (xs ++ [x]).length = xs.length + 1 := by simp
  rw [hl] at hown
  have hcx : w.cell? ⟨g, xs.length, none⟩ = some (.int .i64 x) := by
    rw [hown.cellAt xs.length (by omega), intsV_at]; simp
  have hnc : xs.length + 1 ≤ c := by
    obtain ⟨_, _, e, h1, _⟩ := Sl.of_own hown
    cases e; exact h1
  have hle : xs.length ≤ c := by omega
  have hend : Pl (w.setCell ⟨b, 0, none⟩ (rowV g xs.length c)) b (rowV g xs.length c) xs ∧ Keeps (fun k => k = b) w (w.setCell ⟨b, 0, none⟩ (rowV g xs.length c)) := by
    have hK := (Keeps.refl (fun k => k = b) w).setCell (p := ⟨b, 0, none⟩) (fun _ => rfl) (rowV g xs.length c)
    refine ⟨⟨World.cell?_setCell_same _ _ _ hc, by rw [World.frozen?_setCell]; exact hf, by simpa [World.setCell] using hbl, ?_, hne⟩, hK⟩
    rcases hown.2 with ⟨_, h0⟩ | ⟨g', cap, cur, hv, hbb, hheap, hnc', hcm, hcs, hcx'⟩
    · omega
    · simp only [rowV, Value.slice.injEq, Option.some.injEq, Addr.mk.injEq, and_true, true_and] at hv
      obtain ⟨rfl, rfl⟩ := hv
      have hgb : g ≠ b := fun e => hne (by rw [e]; rfl)
      refine own_of ((hK.block g (Array.getElem?_eq_some_iff.1 hheap).1 hgb).trans hheap) hbb (by omega) hcm hcs (by simp [intsV]) fun j hj => ?_
      have := congrArg (fun l => l[j]?) hcx'
      simp only [List.getElem?_take, intsV_snoc] at this
      rw [if_pos (by omega), List.getElem?_append_left (by rw [intsV_len]; omega)] at this
      simpa using this
  have HE := Lib.hid hend
  clear hend hown hne hl
  generalize xs.length = n at *
  go_enter Tryz.func338, Tryz.ntmps338
  go_wp2
  go_ret
  exact ⟨rfl, HE.out⟩
end Go.Ev

set_option linter.unusedVariables false
set_option linter.unusedSimpArgs false
namespace Go.Ev
open Go.Proofs Go.RowKit

def PlK (b : Nat) (v v' : Value) (w w' : World) : Prop := Keeps (PlS b v) w w' ∧ ∀ k, v'.ownBlock = some k → v.ownBlock = some k ∨ w.heap.size ≤ k

theorem PlK.refl (b : Nat) (v : Value) (w : World) : PlK b v v w w := ⟨Keeps.refl _ _, fun _ h => .inl h⟩
theorem PlK.trans {b : Nat} {v v1 v2 : Value} {w w1 w2 : World} (h : PlK b v v1 w w1) (h2 : PlK b v1 v2 w1 w2) : PlK b v v2 w w2 := by
  refine ⟨h.1.trans h2.1 fun i hi hs => ?_, fun k hk => ?_⟩
  · rcases hs with hs | hs
    · exact .inl hs
    · rcases h.2 i hs with h | h
      · exact .inr h
      · omega
  · rcases h2.2 k hk with h' | h'
    · exact h.2 k h'
    · have := h.1.size; exact .inr (by omega)

theorem Pl.perms {w w' : World} {b g n c keep : Nat} {xs : List Int} (hl : xs.length = n) (h : Pl w b (rowV g n c) xs) (hp : Perms g n c xs w keep w') : ∃ ys, Pl w' b (rowV g n c) ys ∧ ys.Perm xs ∧ (∀ k, keep ≤ k → ys[k]? = xs[k]?) ∧ PlK b (rowV g n c) (rowV g n c) w w' := by
  obtain ⟨hc, hf, hbl, hown, hne⟩ := h
  obtain ⟨ys, h1, h2, h3, h4⟩ := hp
  have hbg : b ≠ g := fun e => hne (by rw [e]; rfl)
  have hyl : ys.length = n := h1.length_eq.trans hl
  refine ⟨ys, ⟨(h4.cell (p := ⟨b, 0, none⟩) hbl hbg).trans hc, (h4.frozen (p := ⟨b, 0, none⟩) hbl hbg).trans hf, Nat.lt_of_lt_of_le hbl h4.size, by rw [hyl]; exact h3, hne⟩, h1, h2, h4.mono fun i _ hi => .inr (by rw [hi]; rfl), fun k hk => .inl hk⟩

def PushPost (b : Nat) (v : Value) (xs : List Int) (x : Int) (w : World) (e : Ending) (w' : World) : Prop := e = .returned (.tuple #[]) ∧ ∃ v' ys, Pl w' b v' ys ∧ ys.Perm (x :: xs) ∧ PlK b v v' w w'

set_option maxHeartbeats 1000000 in
set_option maxRecDepth 100000 in
theorem hpush_any (b : Nat) (v : Value) (xs : List Int) (x : Int) (w : World) (h : Pl w b v xs) (hn : xs.length ≤ 800000) :
    Calls Tryz.prog 268 #[.iface 329 (.pointer (some ⟨b, 0, none⟩)), .iface 3 (.int .i64 x)] w (PushPost b v xs x w) := by
  have hP := Lib.hid (pushN_any b v xs x w h (by omega))
  have hm1 := m_push b
  have HH := Lib.hid h
  clear h
  go_enter Tryz.func268, Tryz.ntmps268
  go_wp2_with (fail)
  go_must (refine hP.out.mono ?_)
  rintro e w1 ⟨rfl, v1, hp1, hk1, hv1⟩
  obtain ⟨g, c, rfl, hbg, hgl⟩ := hp1.row (by simp)
  have hl : (xs ++ [x]).length = xs.length + 1 := by simp
  rw [hl] at hp1 hv1
  have hml := m_len b _ w1 hp1.1
  have hU := Lib.hid (up_any b g (xs.length + 1) c xs.length (xs ++ [x]) w1 hp1.1 hbg hp1.2.2.1 (by have := hp1.2.2.2.1; rw [hl] at this; exact this) (by omega) (by omega))
  have HP1 := Lib.hid hp1
  clear hp1 hm1 hl
  have hlx := Lib.hid (show (xs ++ [x]).length = xs.length + 1 by simp)
  generalize xs.length = n at *
  go_wp2_with (first
    | (go_at_call 334; go_must (refine (lenN_any _ _ _ _).mono ?_); rintro e w2 ⟨rfl, rfl⟩)
    | (go_at_call 298; go_must (refine hU.out.mono ?_); rintro e w2 ⟨rfl, hperm⟩))
  refine bodyPost_end (results_none rfl _ _ _) rfl ?_
  obtain ⟨ys, q1, q2, q3, q4⟩ := HP1.out.perms hlx.out hperm
  exact ⟨rfl, _, ys, q1, q2.trans (List.perm_append_singleton x xs), PlK.trans ⟨hk1, hv1⟩ q4⟩

def PopPost (b : Nat) (v : Value) (x : Int) (xs : List Int) (r : Value) (w : World) (e : Ending) (w' : World) : Prop := e = .returned r ∧ ∃ v' ys, Pl w' b v' ys ∧ ys.Perm xs ∧ PlK b v v' w w'

theorem last_of {ys xs : List Int} {x : Int} {n : Nat} (h : ys.Perm xs) (hl : xs.length = n + 1) (hk : ys[n]? = some x) : ∃ zs, ys = zs ++ [x] ∧ zs.length = n := by
  have hyl : ys.length = n + 1 := h.length_eq.trans hl
  refine ⟨ys.take n, ?_, by rw [List.length_take]; omega⟩
  have := List.take_append_drop n ys
  rw [← this]
  congr 1
  · rw [this]
  · apply List.ext_getElem?
    intro i
    rw [List.getElem?_drop]
    cases i with
    | zero => rw [Nat.add_zero, hk]; rfl
    | succ i => rw [List.getElem?_eq_none (by omega)]; rfl

set_option maxHeartbeats 1000000 in
set_option maxRecDepth 100000 in
theorem hpop_any (b : Nat) (v : Value) (x : Int) (xs : List Int) (w : World) (h : Pl w b v (x :: xs)) (hn : xs.length ≤ 800000) :
    Calls Tryz.prog 229 #[.iface 329 (.pointer (some ⟨b, 0, none⟩))] w (PopPost b v x xs (.iface 3 (.int .i64 x)) w) := by
  obtain ⟨g, c, rfl, hbg, hgl⟩ := h.row (by simp)
  have hl : (x :: xs).length = xs.length + 1 := rfl
  rw [hl] at h
  obtain ⟨hc, hf, hbl, hown, hne⟩ := id h
  rw [hl] at hown
  have hml := m_len b _ w hc
  have hms := m_swap b _ w hc
  have hmp := m_pop b
  obtain ⟨x0, hx0, cx, fx⟩ := row_at hown (show 0 < xs.length + 1 by omega)
  cases hx0
  obtain ⟨y, hy, cy, fy⟩ := row_at hown (show xs.length < xs.length + 1 by omega)
  have hS := Lib.hid (swapN_any g (xs.length + 1) c 0 xs.length x y w cx cy (by omega) (by omega) (by omega) fx fy)
  obtain ⟨ys, q1, q2, q3, q4⟩ := h.perms rfl (swapped (c := c) (keep := xs.length + 1) (List.Perm.refl _) (fun _ _ => rfl) hown (Keeps.refl _ w) (show (x :: xs)[0]? = some x from rfl) hy (by omega) (by omega))
  have hyn : ys[xs.length]? = some x := by
    have h1 := q1.2.2.2.1
    have h2 : (((w.setCell ⟨g, 0, none⟩ (.int .i64 y)).setCell ⟨g, xs.length, none⟩ (.int .i64 x)).drew).cell? ⟨g, xs.length, none⟩ = some (.int .i64 x) := by
      obtain ⟨u, hu⟩ := cell?_setCell_some (w := w) (p := ⟨g, 0, none⟩) (x := Value.int .i64 y) (q := ⟨g, xs.length, none⟩) (v := .int .i64 y) cy
      exact World.cell?_setCell_same _ _ _ hu
    have hyl := q2.length_eq
    rw [show ys.length = xs.length + 1 from hyl] at h1
    rw [h1.cellAt xs.length (by omega), intsV_at] at h2
    cases hq : ys[xs.length]? with
    | none => rw [hq] at h2; cases h2
    | some z => rw [hq] at h2; cases h2; rfl
  have hyl : ys.length = xs.length + 1 := q2.length_eq
  have hD := Lib.hid (fun W (hW : W = (((w.setCell ⟨g, 0, none⟩ (.int .i64 y)).setCell ⟨g, xs.length, none⟩ (.int .i64 x)).drew)) => down_any b g (xs.length + 1) c 0 xs.length ys W (by rw [hW]; exact q1.1) hbg (by rw [hW]; exact q1.2.2.1) (by rw [hW, ← hyl]; have := q1.2.2.2.1; rw [hyl] at this ⊢; exact this) (by omega) (by omega) (by omega))
  have hEnd : Hid (∀ w3, Perms g (xs.length + 1) c ys (((w.setCell ⟨g, 0, none⟩ (.int .i64 y)).setCell ⟨g, xs.length, none⟩ (.int .i64 x)).drew) xs.length w3 →
      Calls Tryz.prog 338 #[.pointer (some ⟨b, 0, none⟩)] w3 (PopPost b (rowV g (xs.length + 1) c) x xs (.iface 3 (.int .i64 x)) w)) := by
    intro w3 hp3
    obtain ⟨ys2, r1, r2, r3, r4⟩ := q1.perms hyl hp3
    obtain ⟨zs, rfl, hzl⟩ := last_of r2 hyl ((r3 _ (Nat.le_refl _)).trans hyn)
    rw [← hzl] at r1 r4
    refine (popN_any b g c zs x w3 r1 (by omega)).mono ?_
    rintro e w4 ⟨he, hp, hk⟩
    refine ⟨he, _, zs, hp, ?_, ?_⟩
    · have h1 : (zs ++ [x]).Perm (x :: xs) := r2.trans q2
      exact List.Perm.cons_inv ((List.perm_append_singleton x zs).symm.trans h1)
    · have h5 : PlK b (rowV g (zs.length + 1) c) (rowV g zs.length c) w3 w4 := ⟨hk.mono fun _ _ e => .inl e, fun k hk => .inl hk⟩
      rw [hzl] at r4 h5 ⊢
      exact (q4.trans r4).trans h5
  clear hyn hyl q1 q2 q3 q4 hy hown hne h
  go_enter Tryz.func229, Tryz.ntmps229
  go_wp2_with (first
    | (go_at_call 334; go_must (refine (lenN_any _ _ _ _).mono ?_); rintro e w2 ⟨rfl, rfl⟩)
    | (go_at_call 336; go_must (refine hS.out.mono ?_); rintro e w2 ⟨rfl, rfl⟩))
  go_must (refine (hD.out _ rfl).mono ?_)
  rintro e w3 ⟨⟨q, rfl⟩, hp3⟩
  go_wp2_with (fail)
  go_must (refine (hEnd.out _ hp3).mono ?_)
  rintro e w4 ⟨rfl, hrest⟩
  go_wp2_with (fail)
  go_ret
  exact ⟨rfl, hrest⟩

theorem pileLen_any (b : Nat) (v : Value) (xs : List Int) (w : World) (h : Pl w b v xs) (hn : xs.length ≤ 800000) :
    Calls Tryz.prog 228 #[.pointer (some ⟨b, 0, none⟩)] w fun e w' => e = .returned (.int .i64 xs.length) ∧ w' = w := by
  obtain ⟨hc, hf, hbl, hown, hne⟩ := h
  obtain ⟨A, c, rfl, _⟩ := Sl.of_own hown
  go_enter Tryz.func228, Tryz.ntmps228
  go_wp2
  go_ret
  exact ⟨rfl, rfl⟩

/-- What is first. -/
def firstV : List Int → Value
  | [] => .tuple #[.int .i64 0, .bool false]
  | x :: _ => .tuple #[.int .i64 x, .bool true]

set_option maxHeartbeats 1000000 in
theorem pileFirst_any (b : Nat) (v : Value) (xs : List Int) (w : World) (h : Pl w b v xs) (hn : xs.length ≤ 800000) :
    Calls Tryz.prog 185 #[.pointer (some ⟨b, 0, none⟩)] w fun e w' => e = .returned (firstV xs) ∧ w' = w := by
  have hL := Lib.hid (pileLen_any b v xs w h hn)
  cases xs with
  | nil =>
    go_enter Tryz.func185, Tryz.ntmps185
    go_wp2_with (fail)
    go_must (refine hL.out.mono ?_)
    rintro e w1 ⟨rfl, rfl⟩
    go_wp2_with (fail)
    go_ret2
    exact ⟨rfl, rfl⟩
  | cons x xs =>
    obtain ⟨g, c, rfl, hbg, hgl⟩ := h.row (by simp)
    obtain ⟨hc, hf, hbl, hown, hne⟩ := h
    obtain ⟨x0, hx0, cx, fx⟩ := row_at (n := (x :: xs).length) hown (show 0 < (x :: xs).length by simp)
    cases hx0
    have hpos : ((((x :: xs).length : Nat) : Int) == 0) = false := by simp <;> omega
    have hpos2 : (0 : Int) < (((x :: xs).length : Nat) : Int) := by simp <;> omega
    have hpos3 : 0 < (x :: xs).length := by simp
    clear hown
    have HF := Lib.hid (show firstV (x :: xs) = .tuple #[.int .i64 x, .bool true] from rfl)
    rw [HF.out]
    generalize (x :: xs).length = n at *
    go_enter Tryz.func185, Tryz.ntmps185
    go_wp2_with (fail)
    go_must (refine hL.out.mono ?_)
    rintro e w1 ⟨rfl, rfl⟩
    go_wp2_with (fail)
    go_ret2
    exact ⟨rfl, rfl⟩

def TakePost (b : Nat) (v : Value) (xs : List Int) (w : World) (e : Ending) (w' : World) : Prop := e = .returned (firstV xs) ∧ ∃ v' ys, Pl w' b v' ys ∧ ys.Perm xs.tail ∧ PlK b v v' w w'

set_option maxHeartbeats 1000000 in
theorem pileTake_any (b : Nat) (v : Value) (xs : List Int) (w : World) (h : Pl w b v xs) (hn : xs.length ≤ 800000) :
    Calls Tryz.prog 187 #[.pointer (some ⟨b, 0, none⟩)] w (TakePost b v xs w) := by
  have hL := Lib.hid (pileLen_any b v xs w h hn)
  cases xs with
  | nil =>
    have HH := Lib.hid h
    clear h
    go_enter Tryz.func187, Tryz.ntmps187
    go_wp2_with (fail)
    go_must (refine hL.out.mono ?_)
    rintro e w1 ⟨rfl, rfl⟩
    go_wp2_with (fail)
    go_ret2
    exact ⟨rfl, v, [], HH.out, List.Perm.refl _, PlK.refl _ _ _⟩
  | cons x xs =>
    have hP := Lib.hid (hpop_any b v x xs w h (by simp at hn; omega))
    have hta : ∀ w, (Instr.typeAssert (.iface 3 (.int .i64 x)) 20 3 false).run Tryz.prog w = .ok (.int .i64 x) w := fun _ => by kernel_rfl
    have hpos : ((((x :: xs).length : Nat) : Int) == 0) = false := by simp <;> omega
    clear h
    generalize (x :: xs).length = n at *
    go_enter Tryz.func187, Tryz.ntmps187
    go_wp2_with (fail)
    go_must (refine hL.out.mono ?_)
    rintro e w1 ⟨rfl, rfl⟩
    go_wp2_with (fail)
    go_must (refine hP.out.mono ?_)
    rintro e w2 ⟨rfl, hrest⟩
    go_wp2_with (fail)
    go_ret2
    exact ⟨rfl, hrest⟩
end Go.Ev

set_option linter.unusedVariables false
set_option linter.unusedSimpArgs false
namespace Go.Ev
open Go.Proofs Go.RowKit

def PutNPost (b : Nat) (v : Value) (l xs : List Int) (w : World) (e : Ending) (w' : World) : Prop := e = .returned (.tuple #[]) ∧ ∃ v' ys, Pl w' b v' ys ∧ ys.Perm (l ++ xs) ∧ PlK b v v' w w'

set_option maxHeartbeats 1000000 in
set_option maxRecDepth 100000 in
theorem pilePut_any (b : Nat) (v : Value) (xs l : List Int) (A : Option Addr) (m d : Nat) (w : World) (h : Pl w b v xs) (hl : Sl w 1 (.slice A m d) m (intsV l)) (hA : ∀ a, A = some a → ¬ PlS b v a.block) (hn : xs.length + m ≤ 800000) :
    Calls Tryz.prog 222 #[.pointer (some ⟨b, 0, none⟩), .slice A m d] w (PutNPost b v l xs w) := by
  have hlm : l.length = m := by obtain ⟨_, _, e, _, h1, _⟩ := hl; rw [intsV_len] at h1; cases e; omega
  subst hlm
  have HL := Lib.hid hl
  have HA := Lib.hid hA
  clear hl hA
  go_enter Tryz.func222, Tryz.ntmps222
  go_wp2
  go_loopg [10] l.length (fun gk s10 wr => ∃ k : Nat, k ≤ l.length ∧ l.length - k ≤ gk ∧ s10 = .int .i64 k ∧ ∃ v' ys, Pl wr b v' ys ∧ ys.Perm (l.take k ++ xs) ∧ PlK b v v' w wr)
  case atStart => exact ⟨0, by omega, by omega, rfl, v, xs, h, by simp, PlK.refl _ _ _⟩
  case round =>
    obtain ⟨k, hk, hgk, rfl, v', ys, hp, hperm, hkept⟩ := hrel
    have hz := hkept.1.size
    by_cases hlt : k < l.length
    · obtain ⟨_, _, e0, h0, h1, h2⟩ := HL.out
      cases e0
      obtain ⟨blk, off, rfl, hbl, hcell⟩ := h2 (by omega)
      have c0 := hcell k (.int .i64 l[k]) (by rw [intsV_at, List.getElem?_eq_getElem hlt]; rfl)
      have c1 : wr.cell? ⟨blk, off + k, none⟩ = some (.int .i64 l[k]) := (hkept.1.cell (p := ⟨blk, off + k, none⟩) hbl (HA.out ⟨blk, off, none⟩ rfl)).trans c0
      have hyl : ys.length = k + xs.length := by rw [hperm.length_eq, List.length_append, List.length_take]; omega
      have hP := Lib.hid (hpush_any b v' ys l[k] wr hp (by omega))
      have hpe : Hid (∀ zs : List Int, zs.Perm (l[k] :: ys) → zs.Perm (l.take (k + 1) ++ xs)) := fun zs hz => by
        refine hz.trans ((hperm.cons _).trans ?_)
        rw [List.take_succ_eq_append_getElem hlt, List.append_assoc]
        exact List.perm_middle.symm
      have hp2 := hp.2.2.1
      have HPl := Lib.hid hp
      have hPm := Lib.hid hperm
      clear hp hperm hcell h2 h1 c0 hyl h
      generalize l[k] = x at *
      go_wp2_with (fail)
      go_must (refine hP.out.mono ?_)
      rintro e w1 ⟨rfl, v2, zs, hp3, hpm3, hk3⟩
      go_wp2_with (fail)
      go_roundg (l.length - (k + 1))
      case measure => omega
      case rel => exact ⟨k + 1, by omega, by omega, by go_num, v2, zs, hp3, hpe.out zs hpm3, hkept.trans hk3⟩
    · obtain rfl : k = l.length := by omega
      rw [List.take_length] at hperm
      have hPm := Lib.hid hperm
      have HPl := Lib.hid hp
      clear hperm hp h
      go_wp2
      refine bodyPost_end (results_none rfl _ _ _) rfl ?_
      exact ⟨rfl, v', ys, HPl.out, hPm.out, hkept⟩
end Go.Ev

namespace Go.Ev
open Go.RowKit Go.ChangeMaps

/-- An entry: key, value, stamp. -/
abbrev Ent := Int × Value × Nat
def entA (e : Ent) : MapEntry := ⟨.int .i64 e.1, e.2.1, e.2.2⟩

def getE : List Ent → Int → Option Value
  | [], _ => none
  | e :: l, k => if e.1 = k then some e.2.1 else getE l k
def putE : List Ent → Int → Value → Nat → List Ent
  | [], k, v, c => [(k, v, c)]
  | e :: l, k, v, c => if e.1 = k then (k, v, e.2.2) :: l else e :: putE l k v c
def delE : List Ent → Int → List Ent
  | [], _ => []
  | e :: l, k => if e.1 = k then l else e :: delE l k
def posE : List Ent → Int → Nat
  | [], _ => 0
  | e :: l, k => if e.1 = k then 0 else posE l k + 1

/-- The clock behind a store. -/
def clockE (l : List Ent) (k : Int) (c : Nat) : Nat := if (getE l k).isSome then c else c + 1

theorem getE_none {l : List Ent} {k : Int} : getE l k = none ↔ ∀ e ∈ l, e.1 ≠ k := by
  induction l with
  | nil => simp [getE]
  | cons e l ih =>
    simp only [getE]
    split
    · rename_i h; simp [h]
    · rename_i h; rw [ih]; simp [h]

theorem findNow_E : ∀ (l : List Ent) (k : Int) (i : Nat), Instr.findNow (.int .i64) (.int .i64 k) (l.map entA) i = some ((getE l k).map fun v => (i + posE l k, v))
  | [], _, _ => rfl
  | e :: l, k, i => by
    simp only [List.map_cons, Instr.findNow, entA, Instr.sameNow, if_true, getE, posE]
    by_cases h : e.1 = k
    · simp [h]
    · have h2 : (k == e.1) = false := by simpa using fun e' => h e'.symm
      rw [h2, if_neg h, if_neg h, findNow_E l k (i + 1)]
      congr 1
      cases getE l k <;> simp <;> omega

theorem posE_at : ∀ {l : List Ent} {k : Int} {v : Value}, getE l k = some v → ∃ e, l[posE l k]? = some e ∧ e.1 = k ∧ e.2.1 = v
  | e :: l, k, v, h => by
    simp only [getE] at h
    simp only [posE]
    split at h
    · rename_i he; cases h; rw [if_pos he]; exact ⟨e, rfl, he, rfl⟩
    · rename_i he; rw [if_neg he]; exact posE_at (l := l) h

theorem putE_new : ∀ {l : List Ent} {k : Int} {v : Value} {c : Nat}, getE l k = none → putE l k v c = l ++ [(k, v, c)]
  | [], _, _, _, _ => rfl
  | e :: l, k, v, c, h => by
    simp only [getE] at h
    split at h
    · cases h
    · rename_i he; simp only [putE]; rw [if_neg he, putE_new h]; rfl
theorem putE_old : ∀ {l : List Ent} {k : Int} {v v0 : Value} {c : Nat} {e : Ent}, getE l k = some v0 → l[posE l k]? = some e → putE l k v c = l.set (posE l k) (k, v, e.2.2)
  | e :: l, k, v, v0, c, e', h, hp => by
    simp only [getE] at h
    simp only [putE, posE] at hp ⊢
    split at h
    · rename_i he; rw [if_pos he] at hp ⊢; rw [if_pos he]; cases hp; rfl
    · rename_i he; rw [if_neg he] at hp ⊢; rw [if_neg he]; rw [List.set_cons_succ, putE_old h (by simpa using hp)]
theorem delE_old : ∀ {l : List Ent} {k : Int} {v0 : Value}, getE l k = some v0 → delE l k = l.eraseIdx (posE l k)
  | e :: l, k, v0, h => by
    simp only [getE] at h
    simp only [delE, posE]
    split at h
    · rename_i he; rw [if_pos he, if_pos he]; rfl
    · rename_i he; rw [if_neg he, if_neg he, List.eraseIdx_cons_succ, delE_old h]
theorem delE_new : ∀ {l : List Ent} {k : Int}, getE l k = none → delE l k = l
  | [], _, _ => rfl
  | e :: l, k, h => by
    simp only [getE] at h
    split at h
    · cases h
    · rename_i he; simp only [delE]; rw [if_neg he, delE_new h]

theorem erase_map {α β : Type} (f : α → β) : ∀ (l : List α) (k : Nat), (l.map f).eraseIdx k = (l.eraseIdx k).map f
  | [], _ => by simp
  | _ :: _, 0 => by simp
  | a :: l, k + 1 => by simp [erase_map f l k]

/-- A map's block. -/
def MapI (w : World) (b : Nat) (l : List Ent) (c : Nat) : Prop := w.heap[b]? = some (.map (l.map entA).toArray c)

section
variable {P : Program} {w : World} {b c : Nat} {l : List Ent} {t kt et : TypeId}

theorem MapI.lt (h : MapI w b l c) : b < w.heap.size := (Array.getElem?_eq_some_iff.1 h).1
theorem MapI.keeps {S : Nat → Prop} {w' : World} (h : MapI w b l c) (hk : Keeps S w w') (hb : ¬ S b) : MapI w' b l c := (hk.block b h.lt hb).trans h
theorem MapI.ne {g : Nat} {T : TypeId} {cs : Array Value} (h : MapI w b l c) (hg : Blk w g T cs) : b ≠ g := by
  rintro rfl
  unfold MapI at h
  unfold Blk at hg
  rw [h] at hg
  cases hg
theorem MapI.ne_own {base n z : Nat} {e : TypeId} {v : Value} {xs : List Value} (h : MapI w b l c) (ho : w.ownsRow base e z v n xs) : ∀ k, v.ownBlock = some k → k ≠ b := by
  rintro k hk rfl
  rcases ho.2 with ⟨rfl, _⟩ | ⟨g, cap, cur, rfl, _, hg, _⟩
  · cases hk
  · simp only [Value.ownBlock, Option.some.injEq] at hk
    subst hk
    unfold MapI at h
    rw [hg] at h
    cases h

theorem run_get (h : MapI w b l c) : (getObj b).run P w = .ok (.map (l.map entA).toArray c) w := by
  unfold MapI at h
  simp [getObj, Sem.run, h]

theorem run_key (hk : P.underlying kt = some (.int .i64)) (em : Bool) (k : Int) (W : World) : (Instr.checkKey em 10000 kt (.int .i64 k)).run P W = .ok () W := by
  rw [Instr.checkKey]
  simp only [Sem.run_bind, run_underlying hk, Result.andThen_ok]
  rfl

theorem run_find (hk : P.underlying kt = some (.int .i64)) (k : Int) (W : World) : (Instr.findKey kt (.int .i64 k) (l.map entA)).run P W = .ok ((getE l k).map fun v => (posE l k, v)) W := by
  simp [Instr.findKey, run_underlying hk, findNow_E]

theorem run_lookup_I (h : MapI w b l c) (ht : P.underlying t = some (.map kt et)) (hk : P.underlying kt = some (.int .i64)) {z : Value} (hz : ∀ W, (zeroValue et).run P W = .ok z W) (k : Int) :
    (Instr.lookup t (.map (some b)) (.int .i64 k) true).run P w = .ok (.tuple #[(getE l k).getD z, .bool (getE l k).isSome]) w := by
  have hf := run_find (l := l) hk k w
  generalize getE l k = q at *
  cases q with
  | none =>
    simp only [Option.map_none] at hf
    simp [Instr.lookup, run_underlying ht, run_get h, run_key hk, hf, hz]
  | some v =>
    simp only [Option.map_some] at hf
    simp [Instr.lookup, run_underlying ht, run_get h, run_key hk, hf]

/-- The map's block anew. -/
def turn (w : World) (b : Nat) (l : List Ent) (c : Nat) : World := { w with heap := w.heap.setIfInBounds b (.map (l.map entA).toArray c) }

theorem turn_size (l' : List Ent) (c' : Nat) : (turn w b l' c').heap.size = w.heap.size := by simp [turn]
theorem MapI.turned (h : MapI w b l c) (l' : List Ent) (c' : Nat) : MapI (turn w b l' c') b l' c' := by
  have := h.lt
  unfold MapI turn
  simp [this]
theorem turn_keeps {S : Nat → Prop} {w0 : World} (hk : Keeps S w0 w) (hb : b < w0.heap.size → S b) (l' : List Ent) (c' : Nat) : Keeps S w0 (turn w b l' c') := by
  refine ⟨hk.os, hk.tape, hk.output, by rw [turn_size]; exact hk.size, fun i hi hn => ?_⟩
  rw [← hk.block i hi hn]
  exact Array.getElem?_setIfInBounds_ne (fun e => by subst e; exact hn (hb hi))
theorem MapI.cell_turn (h : MapI w b l c) (l' : List Ent) (c' : Nat) (a : Addr) : (turn w b l' c').cell? a = w.cell? a := by
  by_cases e : a.block = b
  · have h1 := h.turned l' c'
    unfold MapI at h h1
    simp only [World.cell?, e, h, h1]
  · exact World.cell?_of_block (Array.getElem?_setIfInBounds_ne (fun e' => e e'.symm))
theorem MapI.frozen_turn (h : MapI w b l c) (l' : List Ent) (c' : Nat) (a : Addr) : (turn w b l' c').frozen? a = w.frozen? a := by
  by_cases e : a.block = b
  · have h1 := h.turned l' c'
    unfold MapI at h h1
    simp only [World.frozen?, e, h, h1]
  · exact World.frozen?_of_block (Array.getElem?_setIfInBounds_ne (fun e' => e e'.symm))

theorem run_set (h : MapI w b l c) (l' : List Ent) (c' : Nat) : (setObj b (.map (l'.map entA).toArray c')).run P w = .ok () (turn w b l' c') := by
  unfold MapI at h
  simp [setObj, Sem.run, h, turn]

theorem run_update_I (h : MapI w b l c) (ht : P.underlying t = some (.map kt et)) (hk : P.underlying kt = some (.int .i64)) (k : Int) (v : Value) :
    (Instr.mapUpdate t (.map (some b)) (.int .i64 k) v).run P w = .ok () (turn w b (putE l k v c) (clockE l k c)) := by
  have hf := run_find (l := l) hk k w
  have hs := run_set (P := P) h (putE l k v c) (clockE l k c)
  cases hq : getE l k with
  | none =>
    rw [hq] at hf
    simp only [Option.map_none] at hf
    have e : ((l.map entA).toArray.push ⟨.int .i64 k, v, c⟩) = ((putE l k v c).map entA).toArray := by rw [putE_new hq]; simp [entA]
    have ec : clockE l k c = c + 1 := by simp [clockE, hq]
    rw [ec] at hs ⊢
    simp only [Instr.mapUpdate, Sem.run_bind, run_underlying ht, Result.andThen_ok, run_get h, run_key hk, List.toList_toArray, hf, e, hs]
  | some v0 =>
    rw [hq] at hf
    simp only [Option.map_some] at hf
    obtain ⟨e0, he0, hk0, _⟩ := posE_at hq
    have hold : (l.map entA).toArray[posE l k]? = some (entA e0) := by simp [he0]
    have hbits : Instr.sameBits 10000 (entA e0).key (.int .i64 k) = true := by simp [Instr.sameBits, entA, hk0]
    have e : ((l.map entA).toArray.modify (posE l k) fun x => { x with key := .int .i64 k, val := v }) = ((putE l k v c).map entA).toArray := by
      rw [putE_old hq he0]
      apply Array.toList_inj.1
      rw [Array.toList_modify]
      apply List.ext_getElem?
      intro i
      simp only [List.getElem?_modify, List.getElem?_map, List.getElem?_set, List.toList_toArray]
      by_cases hi : posE l k = i
      · subst hi
        obtain ⟨hlt, hge⟩ := List.getElem?_eq_some_iff.1 he0
        simp [hlt, entA, hge]
      · simp [hi]
    have ec : clockE l k c = c := by simp [clockE, hq]
    rw [ec] at hs ⊢
    simp only [Instr.mapUpdate, Sem.run_bind, run_underlying ht, Result.andThen_ok, run_get h, run_key hk, List.toList_toArray, hf, hold, Option.map_some, Option.getD_some, Instr.keyThatStays, hbits, if_true, Sem.run_pure, e, hs]

theorem run_delete_I (h : MapI w b l c) (ht : P.underlying t = some (.map kt et)) (hk : P.underlying kt = some (.int .i64)) (ty : TypeId) (k : Int) :
    (Builtin.delete_ #[t, kt] ty #[.map (some b), .int .i64 k]).run P w = .ok (.tuple #[]) (turn w b (delE l k) c) := by
  have hf := run_find (l := l) hk k w
  have hs := run_set (P := P) h (delE l k) c
  cases hq : getE l k with
  | none =>
    rw [hq] at hf
    simp only [Option.map_none] at hf
    rw [delE_new hq] at hs ⊢
    simp [Builtin.delete_, run_underlying ht, run_get h, run_key hk, hf, hs]
  | some v0 =>
    rw [hq] at hf
    simp only [Option.map_some] at hf
    have e : (l.map entA).eraseIdx (posE l k) = (delE l k).map entA := by rw [delE_old hq, erase_map]
    simp [Builtin.delete_, run_underlying ht, run_get h, run_key hk, hf, e, hs]
end

/-- Each key once. -/
def keysE (l : List Ent) : List Int := l.map (·.1)

theorem getE_put : ∀ (l : List Ent) (k : Int) (v : Value) (c : Nat) (j : Int), getE (putE l k v c) j = if j = k then some v else getE l j
  | [], k, v, c, j => by
    simp only [putE, getE]
    by_cases h : k = j
    · rw [if_pos h, if_pos h.symm]
    · rw [if_neg h, if_neg (fun e => h e.symm)]
  | e :: l, k, v, c, j => by
    simp only [putE]
    split
    · rename_i h
      simp only [getE]
      by_cases h2 : k = j
      · rw [if_pos h2, if_pos h2.symm]
      · rw [if_neg h2, if_neg (fun e => h2 e.symm), if_neg (fun e' => h2 (h.symm.trans e'))]
    · rename_i h
      simp only [getE, getE_put l k v c j]
      by_cases h2 : e.1 = j
      · rw [if_pos h2, if_pos h2, if_neg (fun e' => h (h2.trans e'))]
      · rw [if_neg h2, if_neg h2]

theorem keys_put_mem {l : List Ent} {k : Int} {v : Value} {c : Nat} {j : Int} : j ∈ keysE (putE l k v c) ↔ j = k ∨ j ∈ keysE l := by
  induction l with
  | nil => simp [putE, keysE]
  | cons e l ih =>
    simp only [putE]
    split
    · rename_i h
      subst h
      simp [keysE]
    · simp only [keysE, List.map_cons, List.mem_cons] at ih ⊢
      rw [ih]
      constructor
      · rintro (h | h | h)
        · exact .inr (.inl h)
        · exact .inl h
        · exact .inr (.inr h)
      · rintro (h | h | h)
        · exact .inr (.inl h)
        · exact .inl h
        · exact .inr (.inr h)

theorem nodup_put {l : List Ent} {k : Int} {v : Value} {c : Nat} (h : (keysE l).Nodup) : (keysE (putE l k v c)).Nodup := by
  induction l with
  | nil => simp [putE, keysE]
  | cons e l ih =>
    have h' := List.nodup_cons.1 (show (e.1 :: keysE l).Nodup from h)
    simp only [putE]
    split
    · rename_i he
      show (k :: keysE l).Nodup
      rw [← he]
      exact h
    · rename_i he
      show (e.1 :: keysE (putE l k v c)).Nodup
      refine List.nodup_cons.2 ⟨fun hm => ?_, ih h'.2⟩
      rcases keys_put_mem.1 hm with h2 | h2
      · exact he h2
      · exact h'.1 h2

theorem getE_mem {l : List Ent} {k : Int} : (getE l k).isSome = true ↔ k ∈ keysE l := by
  induction l with
  | nil => simp [getE, keysE]
  | cons e l ih =>
    simp only [getE, keysE, List.map_cons, List.mem_cons] at ih ⊢
    split
    · rename_i h; simp [h]
    · rename_i h
      rw [ih]
      constructor
      · exact .inr
      · rintro (h2 | h2)
        · exact absurd h2.symm h
        · exact h2

theorem getE_del {l : List Ent} (hn : (keysE l).Nodup) (k j : Int) : getE (delE l k) j = if j = k then none else getE l j := by
  induction l with
  | nil => simp [delE, getE]
  | cons e l ih =>
    have h' := List.nodup_cons.1 (show (e.1 :: keysE l).Nodup from hn)
    simp only [delE]
    split
    · rename_i he
      by_cases hj : j = k
      · rw [if_pos hj, hj]
        cases hq : getE l k with
        | none => rfl
        | some v => exact absurd (getE_mem.1 (by rw [hq]; rfl)) (he ▸ h'.1)
      · simp only [getE]
        rw [if_neg hj, if_neg (fun e' => hj (e'.symm.trans he))]
    · rename_i he
      simp only [getE]
      rw [ih h'.2]
      by_cases h2 : e.1 = j
      · rw [if_pos h2, if_pos h2, if_neg (fun e' => he (h2.trans e'))]
      · rw [if_neg h2, if_neg h2]

theorem keys_del_mem {l : List Ent} (hn : (keysE l).Nodup) {k j : Int} : j ∈ keysE (delE l k) ↔ j ≠ k ∧ j ∈ keysE l := by
  rw [← getE_mem, ← getE_mem, getE_del hn]
  by_cases h : j = k <;> simp [h]

theorem nodup_del {l : List Ent} {k : Int} (h : (keysE l).Nodup) : (keysE (delE l k)).Nodup := by
  induction l with
  | nil => simp [delE, keysE]
  | cons e l ih =>
    have h' := List.nodup_cons.1 (show (e.1 :: keysE l).Nodup from h)
    simp only [delE]
    split
    · exact h'.2
    · show (e.1 :: keysE (delE l k)).Nodup
      exact List.nodup_cons.2 ⟨fun hm => h'.1 ((keys_del_mem h'.2).1 hm).2, ih h'.2⟩

theorem len_put {l : List Ent} {k : Int} {v : Value} {c : Nat} (h : getE l k = none) : (putE l k v c).length = l.length + 1 := by rw [putE_new h]; simp
theorem len_del {l : List Ent} {k : Int} {v : Value} (h : getE l k = some v) : (delE l k).length + 1 = l.length := by
  induction l with
  | nil => cases h
  | cons e l ih =>
    simp only [getE] at h
    simp only [delE]
    split
    · simp
    · rename_i he
      rw [if_neg he] at h
      simp [ih h]
end Go.Ev

namespace Go.Ev

def strB (s : Bytes) : Value := .string ⟨s.toArray⟩
def pgV (x : Pg) : Value := .agg #[.int .i64 x.kind, .int .i64 x.next, strB x.body]

theorem pgV_inj {x y : Pg} (h : pgV x = pgV y) : x = y := by
  obtain ⟨a, b, c⟩ := x
  obtain ⟨a', b', c'⟩ := y
  simp only [pgV, strB, Value.agg.injEq, Array.mk.injEq, List.cons.injEq, Value.int.injEq, true_and, Value.string.injEq, ByteArray.mk.injEq, and_true] at h
  obtain ⟨rfl, rfl, h⟩ := h
  simp only [Pg.mk.injEq, true_and]
  simpa using h

structure PgInv (n : Nat) (made was : List Ent) (spare : List Int) : Prop where
  nodM : (keysE made).Nodup
  nodW : (keysE was).Nodup
  nodS : spare.Nodup
  wasS : ∀ k, k ∈ keysE was ↔ k ∈ spare
  cover : ∀ k, (2 ≤ k ∧ k < (n : Int)) ↔ (k ∈ keysE made ∨ k ∈ spare)
  disj : ∀ k, k ∈ keysE made → k ∉ spare
  pages : ∀ k v, getE made k = some v → ∃ x, v = pgV x
  two : 2 ≤ n
  wasV : ∀ k v, getE was k = some v → v = .agg #[]

/-- The pages, by their numbers. -/
def Pages (made : List Ent) (M : Store) : Prop := ∀ k, getE made k = (M k).map pgV

def updS (M : Store) (k : Int) (x : Option Pg) : Store := fun i => if i = k then x else M i

section
variable {n : Nat} {made was : List Ent} {spare : List Int} {M : Store}

theorem PgInv.of (h : PgInv n made was spare) : ∃ M, Pages made M := by
  refine ⟨fun k => if hk : (getE made k).isSome then some (h.pages k _ (Option.get_mem hk)).choose else none, fun k => ?_⟩
  dsimp only
  split
  · rename_i hk
    have := (h.pages k _ (Option.get_mem hk)).choose_spec
    rw [Option.map_some, ← this]
    exact (Option.some_get hk).symm
  · rename_i hk
    simpa using hk

theorem Pages.key (h : Pages made M) (k : Int) : k ∈ keysE made ↔ (M k).isSome = true := by
  rw [← getE_mem, h k]
  simp

theorem range_len : ∀ (m : Nat) (l : List Int) (a : Int), l.Nodup → (∀ k, (a ≤ k ∧ k < a + m) ↔ k ∈ l) → l.length = m
  | 0, l, a, _, h => by
    cases l with
    | nil => rfl
    | cons x l => have := (h x).2 (List.mem_cons_self ..); omega
  | m + 1, l, a, hn, h => by
    have ha : a ∈ l := (h a).1 (by omega)
    have hp := List.perm_cons_erase ha
    have hn2 : (l.erase a).Nodup := hn.erase a
    have := range_len m (l.erase a) (a + 1) hn2 fun k => by
      rw [hn.mem_erase_iff]
      constructor
      · intro hk
        exact ⟨by omega, (h k).1 (by omega)⟩
      · rintro ⟨h1, h2⟩
        have := (h k).2 h2
        omega
    rw [hp.length_eq, List.length_cons, this]

theorem keysE_len (l : List Ent) : (keysE l).length = l.length := by simp [keysE]

theorem PgInv.count (h : PgInv n made was spare) : made.length + spare.length + 2 = n := by
  have hn : (keysE made ++ spare).Nodup := List.nodup_append.2 ⟨h.nodM, h.nodS, fun a ha b hb e => h.disj a ha (e ▸ hb)⟩
  have := range_len (n - 2) (keysE made ++ spare) 2 hn fun k => by
    rw [List.mem_append, ← h.cover]
    have := h.two
    constructor <;> intro hk <;> omega
  rw [List.length_append, keysE_len] at this
  have := h.two
  omega

/-- A page is made with a spare number. -/
theorem PgInv.make_spare {x : Int} {spare' : List Int} (h : PgInv n made was (x :: spare)) (hp : spare'.Perm spare) (v : Pg) (c : Nat) : PgInv n (putE made x (pgV v) c) (delE was x) spare' ∧ getE made x = none := by
  have hx : x ∉ keysE made := fun hm => h.disj x hm (List.mem_cons_self ..)
  have hn := List.nodup_cons.1 h.nodS
  have hg : getE made x = none := by
    cases hq : getE made x with
    | none => rfl
    | some v => exact absurd (getE_mem.1 (by rw [hq]; rfl)) hx
  refine ⟨⟨nodup_put h.nodM, nodup_del h.nodW, hp.nodup_iff.2 hn.2, fun k => ?_, fun k => ?_, fun k hk => ?_, fun k u hu => ?_, h.two, fun k v hv => ?_⟩, hg⟩
  · rw [keys_del_mem h.nodW, h.wasS, hp.mem_iff, List.mem_cons]
    constructor
    · rintro ⟨h1, h2 | h2⟩
      · exact absurd h2 h1
      · exact h2
    · intro h2
      exact ⟨fun e => hn.1 (e ▸ h2), .inr h2⟩
  · rw [h.cover, keys_put_mem, hp.mem_iff, List.mem_cons]
    constructor
    · rintro (h1 | h1 | h1)
      · exact .inl (.inr h1)
      · exact .inl (.inl h1)
      · exact .inr h1
    · rintro ((h1 | h1) | h1)
      · exact .inr (.inl h1)
      · exact .inl h1
      · exact .inr (.inr h1)
  · rw [hp.mem_iff]
    rcases keys_put_mem.1 hk with rfl | hk
    · exact hn.1
    · exact fun hs => h.disj k hk (List.mem_cons_of_mem _ hs)
  · rw [getE_put] at hu
    split at hu
    · cases hu; exact ⟨_, rfl⟩
    · exact h.pages k u hu
  · rw [getE_del h.nodW] at hv
    split at hv
    · cases hv
    · exact h.wasV k v hv

/-- .. with a new number. -/
theorem PgInv.make_new (h : PgInv n made was []) (v : Pg) (c : Nat) : PgInv (n + 1) (putE made n (pgV v) c) (delE was n) [] ∧ getE made n = none := by
  have hx : (n : Int) ∉ keysE made := fun hm => by
    have := (h.cover n).2 (.inl hm)
    omega
  have hg : getE made n = none := by
    cases hq : getE made n with
    | none => rfl
    | some v => exact absurd (getE_mem.1 (by rw [hq]; rfl)) hx
  have hw : delE was n = was := delE_new (by
    cases hq : getE was n with
    | none => rfl
    | some v => have := (h.wasS n).1 (getE_mem.1 (by rw [hq]; rfl)); cases this)
  rw [hw]
  refine ⟨⟨nodup_put h.nodM, h.nodW, List.nodup_nil, h.wasS, fun k => ?_, fun k _ => by simp, fun k u hu => ?_, by have := h.two; omega, h.wasV⟩, hg⟩
  · rw [keys_put_mem]
    have := h.cover k
    have h2 := h.two
    simp only [List.not_mem_nil, or_false] at this ⊢
    constructor
    · intro hk
      by_cases e : k = n
      · exact .inl e
      · exact .inr (this.1 (by omega))
    · rintro (rfl | hk)
      · omega
      · have := this.2 hk; omega
  · rw [getE_put] at hu
    split at hu
    · cases hu; exact ⟨_, rfl⟩
    · exact h.pages k u hu

/-- A page is dropped. -/
theorem PgInv.drop {x : Int} {spare' : List Int} {v : Value} (h : PgInv n made was spare) (hx : getE made x = some v) (hp : spare'.Perm (x :: spare)) (c : Nat) : PgInv n (delE made x) (putE was x (.agg #[]) c) spare' := by
  have hk : x ∈ keysE made := getE_mem.1 (by rw [hx]; rfl)
  have hs := h.disj x hk
  refine ⟨nodup_del h.nodM, nodup_put h.nodW, hp.nodup_iff.2 (List.nodup_cons.2 ⟨hs, h.nodS⟩), fun k => ?_, fun k => ?_, fun k hm => ?_, fun k u hu => ?_, h.two, fun k v hv => ?_⟩
  · rw [keys_put_mem, hp.mem_iff, List.mem_cons, h.wasS]
  · rw [h.cover, keys_del_mem h.nodM, hp.mem_iff, List.mem_cons]
    constructor
    · rintro (h1 | h1)
      · by_cases e : k = x
        · exact .inr (.inl e)
        · exact .inl ⟨e, h1⟩
      · exact .inr (.inr h1)
    · rintro (⟨_, h1⟩ | h1 | h1)
      · exact .inl h1
      · exact .inl (h1 ▸ hk)
      · exact .inr h1
  · rw [hp.mem_iff, List.mem_cons]
    have := (keys_del_mem h.nodM).1 hm
    rintro (h1 | h1)
    · exact this.1 h1
    · exact h.disj k this.2 h1
  · rw [getE_del h.nodM] at hu
    split at hu
    · cases hu
    · exact h.pages k u hu
  · rw [getE_put] at hv
    split at hv
    · cases hv; rfl
    · exact h.wasV k v hv

theorem Pages.put (h : Pages made M) (x : Int) (v : Pg) (c : Nat) : Pages (putE made x (pgV v) c) (updS M x (some v)) := fun k => by
  rw [getE_put, h k]
  unfold updS
  split <;> rfl
theorem Pages.del (h : Pages made M) (hn : (keysE made).Nodup) (x : Int) : Pages (delE made x) (updS M x none) := fun k => by
  rw [getE_del hn, h k]
  unfold updS
  split <;> rfl
end
end Go.Ev

namespace Go.Ev
open Go.RowKit

variable {P : Program} {l n : Nat}

abbrev wideR (l : Nat) : Fence := Fence.wide.inRound l

theorem calls_round {f : FuncId} {args : Array Value} {w : World} {R : Ending → World → Prop} (h : Calls P f args w R) : CallsIn (wideR l) n P f args w R := CallsIn.inRound l (callsIn_wide.2 h)

theorem rows_round {row : String} {args : Array Value} {w : World} {R : Value → World → Prop} (h : Rows P row args w R) : RowsIn (wideR l) n P row args w R := fun c cs _ =>
  let ⟨v, w', r, s⟩ := h c cs
  ⟨v, w', r, stepsIn_wide.2 s⟩

theorem oper_round {o : Oper} {a : Act} {w : World} {K : Act → World → Prop} {Q : Exit → Act → World → Prop} (hd : ∀ c, o.op ≠ .defer c) (h : o.wp P a w K Q) : o.wpIn (wideR l) n P a w K Q := by
  refine ⟨fun _ _ => trivial, ?_⟩
  rw [Oper.semAt_eq _ _ _ hd]
  unfold Oper.wp at h
  generalize (execOp a.eval o).run P w = r at *
  cases r with
  | ok x w' =>
    cases x <;> simp only [Oper.upon, Oper.uponIn] at h ⊢
    case value v => exact h
    case skip => exact h
    case defer d => exact h
    case enter f args => exact ⟨(fun e => (by cases e)), calls_round h⟩
    case row row args => exact ⟨(fun e => (by cases e)), rows_round h⟩
  | halt x w' => cases x <;> simp only [Oper.upon, Oper.uponIn] at h ⊢; exact h

theorem op_round {ops : Array Oper} {Q : Exit → Act → World → Prop} {i : Nat} {K K' : Act → World → Prop} {a : Act} {w : World} (hd : ∀ (i : Nat) (o : Oper) c, ops[i]? = some o → o.op ≠ .defer c) (hQ : ¬ LetsOut Q) (hK : ∀ a w, K a w → K' a w) (h : wpOp P ops Q i K a w) : wpOpIn (wideR l) n P ops Q i K' a w := by
  unfold wpOp at h
  unfold wpOpIn
  split
  · rename_i ho
    simp only [ho] at h
    exact hK _ _ h
  · rename_i o ho
    simp only [ho] at h
    split
    · rename_i hw
      simp only [hw, if_true] at h
      rcases h with h | h
      · exact Oper.wpIn_mono hK (oper_round (fun c => hd i o c ho) h)
      · exact absurd h.2 hQ
    · rename_i hw
      simp only [hw] at h
      exact ⟨fun _ _ => trivial, hK _ _ h⟩

theorem any_round {ops : Array Oper} {Q : Exit → Act → World → Prop} {md : Region.Mode} (hd : ∀ (i : Nat) (o : Oper) c, ops[i]? = some o → o.op ≠ .defer c) (hQ : ¬ LetsOut Q) : ∀ (fuel : Nat) (listed : Array Bool) (a : Act) (w : World), wpAny P md ops Q fuel listed a w → wpAnyIn (wideR l) n P md ops Q fuel listed a w
  | 0, _, _, _, h => h
  | fuel + 1, listed, a, w, h => ⟨h.1, fun i hi => op_round hd hQ (fun a w => any_round hd hQ fuel _ a w) (h.2 i hi)⟩

/-- No operation defers. -/
def noDefer (ops : Array Oper) : Bool := ops.all fun o => match o.op with | .defer _ => false | _ => true
theorem noDefer_spec {ops : Array Oper} (h : noDefer ops = true) : ∀ (i : Nat) (o : Oper) c, ops[i]? = some o → o.op ≠ .defer c := by
  intro i o c ho e
  unfold noDefer at h
  rw [Array.all_eq_true'] at h
  have := h o (Array.mem_of_getElem? ho)
  rw [e] at this
  cases this

theorem region_round {id : Nat} {ops : Array Oper} {Q : Exit → Act → World → Prop} {a : Act} {w : World} (hm : P.follows .mixedOrders = true) (hd : noDefer ops = true) (hQ : ¬ LetsOut Q)
    (h : wpAny P .any ops Q ops.size (Array.replicate ops.size false) a w.drew) : (Code.region id ops true).wpIn (wideR l) n P Q a w :=
  wpIn_region_any hm (any_round (noDefer_spec hd) hQ _ _ _ _ h)
end Go.Ev

namespace Go.Ev
open Go.RowKit

variable {F : Fence} {n : Nat} {P : Program}

/-- The iterator hands over just these, one by one, where every round goes on. -/
def Each {α : Type} (F : Fence) (n : Nat) (P : Program) (g : Nat) (lb : Array Value) (encs : α → Array Value) (Kp : World → World → Prop) (xs : List α) (w : World) : Prop :=
  ∀ (l : Nat) (J : Nat → World → Prop) (W : World), Below w.heap.size w W →
    (∀ (k : Nat) (x : α) (W1 : World), xs[k]? = some x → J k W1 → YieldAt F (n - 1) P l (encs x) W1 fun e W' => e = .returned (.bool true) ∧ J (k + 1) W' ∧ Kp W1 W') →
    J 0 W → CallsIn F n P g (#[.func (.yield l) #[] #[]] ++ lb) W fun e W' => (∃ v, e = .returned v) ∧ J xs.length W'

/-- A round goes on. -/
def goesOn (B : Nat) (Kp : World → World → Prop) (I : World → Prop) (W : World) : Exit → Act → World → Prop
  | .normal, _, W' => KeepsFrom B W W' ∧ Kp W W' ∧ I W'
  | _, _, _ => False

theorem rangeFunc_each {α : Type} {g : Operand} {ps : Array Tmp} {assign body : Code} {Q : Exit → Act → World → Prop} {a : Act} {w : World} {gf : Nat} {lb : Array Value} {encs : α → Array Value} {Kp : World → World → Prop} {xs : List α}
    (hro : F.round = none) (h1 : 1 ≤ n) (hg : a.eval g = .func (.func gf) #[] lb) (hF : F.fn gf) (eg : ∀ args w, (callFunc gf args).run P w = .ok (.enter gf args) w) (hseq : Each F (n - 1) P gf lb encs Kp xs w)
    (hKt : ∀ {A B C : World}, Kp A B → Kp B C → Kp A C) (hKb : ∀ (W : World) (l : Nat) (o o' : Obj), w.heap.size ≤ l → W.heap[l]? = some o → o.isCells = false → o.isWalk = false → Kp W (W.putObj l o')) (hps : ∀ x, (encs x).size = ps.size)
    (I : Nat → World → Prop) (hI : OwnFrom w.heap.size I) (h0 : I 0 w) (Ax : α → Act → World → Prop) (hAx : ∀ x a', OwnFrom w.heap.size (fun (_ : Unit) W => Ax x a' W))
    (hassign : ∀ (l k : Nat) (x : α) (W : World) (K : Act → World → Prop), xs[k]? = some x → I k W → (∀ a' W', KeepsFrom w.heap.size W W' → Kp W W' → I k W' → Ax x a' W' → K a' W') →
      assign.wpIn (F.inRound l) (n - 1 - 1) P (Exit.then K (fun _ _ _ => False)) { tmps := (ps.zip (encs x)).foldl (fun t (p, v) => t.setIfInBounds p v) a.tmps, defers := [] } W)
    (hbody : ∀ (l k : Nat) (x : α) (a' : Act) (W : World), xs[k]? = some x → I k W → Ax x a' W → body.wpIn (F.inRound l) (n - 1 - 1) P (goesOn w.heap.size Kp (I (k + 1)) W) a' W)
    (hdone : ∀ (D : Nat) (W : World), w.heap.size ≤ D → I xs.length W → W.heap[D]? = some (.deferred (some [])) → Q .normal { a with defers := { target := .collected D, args := #[] } :: a.defers } W) :
    (Code.rangeFunc g ps assign body).wpIn F n P Q a w := by
  refine wpIn_rangeFunc fun fn hfn => ?_
  rw [hro]
  -- the loop's record in its states; the block of the deferred calls is D, the record's is D + 1
  obtain ⟨D, hD⟩ : ∃ D, D = w.heap.size := ⟨_, rfl⟩
  obtain ⟨R, hR⟩ : ∃ R : LoopState → Loop, R = fun st => { state := st, pending := none, fn, tmps := a.tmps, params := ps, assign, body, defers := D } := ⟨_, rfl⟩
  obtain ⟨W1, hW1⟩ : ∃ W1, (w.alloc (.deferred (some []))).alloc (.loop (R .ready)) = W1 := ⟨_, rfl⟩
  have hl1 : W1.heap[D + 1]? = some (.loop (R .ready)) := by
    have := World.alloc_heap_new (w.alloc (.deferred (some []))) (.loop (R .ready))
    rw [World.size_alloc, hW1] at this
    rw [hD]; exact this
  have hd1 : W1.heap[D]? = some (.deferred (some [])) := by
    rw [← hW1, hD]; exact (Below.heap_alloc _ _ _ (by simp)).trans (World.alloc_heap_new w _)
  have hi1 : I 0 W1 := by rw [← hW1]; exact hI.alloc _ (hI.alloc _ h0)
  have hb1 : Below w.heap.size w W1 := by rw [← hW1]; exact ((Below.refl _ w).alloc (Nat.le_refl _) _).alloc (by simp) _
  refine ⟨D + 1, [{ target := .collected D, args := #[] }], W1, { target := .fn (.func gf) lb, args := #[.func (.yield (D + 1)) #[] #[]] }, W1, gf, #[.func (.yield (D + 1)) #[] #[]] ++ lb, W1, ?_, ?_, ?_, ?_, fun _ => h1, ?_⟩
  · rw [← hW1, hR, hD]; exact run_enterLoop_outer _ _ _ _ _
  · simp only [resolve, hg]
    simp [go_sem]
  · intro f' hf'; simp [Target.leads] at hf'; subst hf'; exact hF
  · simp [invoke, go_sem, eg]
  refine (hseq (D + 1) (fun k W => I k W ∧ W.heap[D + 1]? = some (.loop (R .ready)) ∧ W.heap[D]? = some (.deferred (some []))) W1 hb1 ?_ ⟨hi1, hl1, hd1⟩).mono ?_
  · -- a round
    rintro k x W hx ⟨hi, hl, hd⟩
    have hy := run_yield (P := P) (args := encs x) hl (by rw [hR]; exact hps x)
    rw [hR] at hy
    refine ⟨fn, _, assign, body, hy, roundIn_of_wpIn hfn (hassign _ k x W _ hx hi ?_)⟩
    intro a' Wa hka hpa hia hax
    have hla := hka.same _ _ (by omega) hl rfl
    have hda := hka.same _ _ (by omega) hd rfl
    have hlta : D + 1 < Wa.heap.size := (Array.getElem?_eq_some_iff.1 hla).1
    refine ⟨_, run_beginRound hla (by rw [hR]), ?_⟩
    have hlb : (Wa.putObj (D + 1) (.loop { R .ready with state := .busy })).heap[D + 1]? = some (.loop { R .ready with state := .busy }) := World.putObj_heap_same hlta
    have hdb : (Wa.putObj (D + 1) (.loop { R .ready with state := .busy })).heap[D]? = some (.deferred (some [])) := (World.putObj_heap_other (by omega)).trans hda
    have hpb : Kp Wa (Wa.putObj (D + 1) (.loop { R .ready with state := .busy })) := hKb _ _ _ _ (by omega) hla rfl rfl
    refine wpIn_mono (hbody _ k x a' _ hx (hI.putObj _ hia (by omega) hla rfl) ((hAx x a').putObj (s := ()) _ hax (by omega) hla rfl)) ?_
    rintro e a3 W3 hp
    cases e with
    | normal =>
      obtain ⟨hk3, hp3, hi3⟩ := hp
      have hl3 := hk3.same _ _ (by omega) hlb rfl
      have hd3 := hk3.same _ _ (by omega) hdb rfl
      have hr := run_endRound (P := P) none hl3
      rw [hR] at hr hl3
      refine ⟨_, _, hr, rfl, ⟨hI.putObj _ hi3 (by omega) hl3 rfl, ?_, (World.putObj_heap_other (by omega)).trans hd3⟩, hKt hpa (hKt (hKt hpb hp3) (hKb _ _ _ _ (by omega) hl3 rfl rfl))⟩
      rw [World.putObj_heap_same (Array.getElem?_eq_some_iff.1 hl3).1, hR]
      rfl
    | ret => exact hp.elim
    | exit id => exact hp.elim
    | goto t => exact hp.elim
    | panic ch => exact hp.elim
    | outgrown => exact hp.elim
  · -- behind the iterator
    rintro e W2 ⟨⟨v, rfl⟩, hi, hl, hd⟩
    have hr := run_endLoop (P := P) hl (by rw [hR]; simp)
    rw [hR] at hr
    exact ⟨none, _, hr, hdone D _ (by omega) (hI.putObj _ hi (by omega) hl rfl) ((World.putObj_heap_other (by omega)).trans hd)⟩
end Go.Ev

namespace Go.Ev
open Go.Lib

def Child.short (x : Child) : Prop := x.key.length ≤ 40 ∧ I64 x.page

theorem Rd.child_ok (r : Rd) : r.child.1.short := ⟨r.text_len (m := 40), Rd.var_i64 _⟩

theorem Child.lay_short {x : Child} (h : x.short) : x.lay.length ≤ 60 := by
  obtain ⟨h1, h2⟩ := h
  have k1 := (varB_len (x.key.length : Int) ⟨by omega, by omega⟩).2
  have k3 := (varB_len x.page h2).2
  unfold Child.lay textB
  simp only [List.length_append]
  omega

theorem layC_short : ∀ {l : List Child}, (∀ x ∈ l, x.short) → (layC l).length ≤ 60 * l.length
  | [], _ => by simp [layC]
  | x :: l, h => by
    have h1 := Child.lay_short (h x (List.mem_cons_self ..))
    have h2 := layC_short fun y hy => h y (List.mem_cons_of_mem _ hy)
    simp only [layC, List.length_append, List.length_cons]
    omega

theorem Rd.child_le (r : Rd) : r.child.2.b.length ≤ r.b.length := by
  unfold Rd.child
  have h1 := r.text_le 40
  have h2 := (r.text 40).2.var_le
  dsimp only
  omega

/-- One step of the reading. -/
theorem Rd.children_step {r : Rd} (h : r.e = 0 ∧ r.b ≠ []) : r.children = (r.child.1 :: r.child.2.children.1, r.child.2.children.2) := by
  rw [Rd.children, dif_pos h]
  by_cases h2 : r.child.2.e = 0
  · rw [dif_pos h2]
  · rw [dif_neg h2]
    have : r.child.2.children = ([], r.child.2) := by
      rw [Rd.children, dif_neg (fun hc => h2 hc.1)]
    rw [this]
theorem Rd.children_end {r : Rd} (h : ¬ (r.e = 0 ∧ r.b ≠ [])) : r.children = ([], r) := by rw [Rd.children, dif_neg h]

theorem rightC_cons {c : Child} {L : List Child} : rightC (c :: L) = true ↔ c.fit = true ∧ c.key = [] ∧ riseC [] L = true := by
  simp only [rightC, Bool.and_eq_true, List.isEmpty_iff, and_assoc]
  constructor
  · rintro ⟨h1, h2, h3⟩; rw [h2] at h3; exact ⟨h1, h2, h3⟩
  · rintro ⟨h1, h2, h3⟩; rw [h2]; exact ⟨h1, rfl, h3⟩

theorem below_right {k : Bytes} {l : List Child} (h : rightC l = true) : below k l = findC k l + 1 := by
  cases l with
  | nil => cases h
  | cons c L =>
    obtain ⟨_, h2, _⟩ := rightC_cons.1 h
    simp only [below, findC, List.tail_cons, h2, lessB_nil]
    simp

theorem below_ge' {k : Bytes} {l : List Child} {i : Nat} {x : Child} (hr : rightC l = true) (h : below k l ≤ i) (hx : l[i]? = some x) : lessB k x.key = true := by
  have hb := below_right (k := k) hr
  cases l with
  | nil => cases hr
  | cons c L =>
    obtain ⟨_, h2, h3⟩ := rightC_cons.1 hr
    cases i with
    | zero => omega
    | succ i => exact below_ge h3 (by unfold findC at hb; simp only [List.tail_cons] at hb; omega) hx
end Go.Ev
