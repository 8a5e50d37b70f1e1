/-
  A message by value, of this program's type.
-/
import Derived.Test.YtjmneomkkcbleaaGreatDoorEvMsg
namespace Go.Ev
open Go.Proofs Go.Joins Go.ChangeShapes Go.WideShapes Go.RowKit Go.Deep

theorem array14 {α : Type} {cs : Array α} (h : cs.size = 14) : ∃ c0 c1 c2 c3 c4 c5 c6 c7 c8 c9 c10 c11 c12 c13, cs = #[c0, c1, c2, c3, c4, c5, c6, c7, c8, c9, c10, c11, c12, c13] := by
  obtain ⟨l⟩ := cs
  match l, h with
  | [c0, c1, c2, c3, c4, c5, c6, c7, c8, c9, c10, c11, c12, c13], _ => exact ⟨c0, c1, c2, c3, c4, c5, c6, c7, c8, c9, c10, c11, c12, c13, rfl⟩

section
variable {H : Type} {enc : TypeId × Value → H} {w : World} {base : Nat} {spare : Nat → Bool} {held : Bool}

set_option maxRecDepth 100000 in
theorem open_msg {r : Reach} {b0 : Nat} {v : Value} {d : DataW H} {p : List MemPlace} (hv : Value.okWide Tryz.prog w r b0 111 v) (h : DataW.Trod enc Tryz.prog w base spare held 111 v d p) :
    ∃ (c0 c1 c2 c3 c4 c5 c6 c7 c8 c9 c12 : Value) (pe pm pp : Option Addr) (le ce lm cm lp cp : Nat), v = .agg #[c0, c1, c2, c3, c4, c5, c6, c7, c8, c9, .slice pe le ce, .slice pm lm cm, c12, .slice pp lp cp] ∧
      TextsAt w 4 3 pe le ∧ TextsAt w 2 0 pp lp ∧ TextsAt w 2 1 pp lp ∧ le ≤ maxLen ∧ lm ≤ maxLen ∧ lp ≤ maxLen := by
  obtain ⟨cs, n, rfl, hsz, hf⟩ := open_cells Tryz.underlying111 (by kernel_rfl) (by kernel_rfl) hv h
  obtain ⟨c0, c1, c2, c3, c4, c5, c6, c7, c8, c9, c10, c11, c12, c13, rfl⟩ := array14 hsz
  obtain ⟨x, y, hx, hy⟩ := hf 10 _ rfl
  cases Option.some.inj hx
  obtain ⟨pe, le, ce, rfl, hle, hE⟩ := slice_texts Tryz.underlying67 Tryz.underlying212 (by kernel_rfl) (z := 4) (by kernel_rfl) rfl (by decide) hy
  obtain ⟨x, y, hx, hy⟩ := hf 11 _ rfl
  cases Option.some.inj hx
  obtain ⟨pm, lm, cm, rfl, hlm⟩ := slice_any Tryz.underlying24 hy
  obtain ⟨x, y, hx, hy⟩ := hf 13 _ rfl
  cases Option.some.inj hx
  obtain ⟨pp, lp, cp, rfl, hlp, hP⟩ := slice_texts Tryz.underlying109 Tryz.underlying203 (by kernel_rfl) (z := 2) (by kernel_rfl) rfl (by decide) hy
  exact ⟨c0, c1, c2, c3, c4, c5, c6, c7, c8, c9, c12, pe, pm, pp, le, ce, lm, cm, lp, cp, rfl, hE 3 _ rfl Tryz.underlying9, hP 0 _ rfl Tryz.underlying9, hP 1 _ rfl Tryz.underlying9, hle, hlm, hlp⟩
end
end Go.Ev
