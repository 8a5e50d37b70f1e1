/-
  The runs for the law arboretumlaw19.KeepNone; a batch by value, of this program's type.
-/
import Derived.Test.YtjmneomkkcbleaaGreatDoorEvClosed
import Derived.Test.YtjmneomkkcbleaaGreatDoorEvKeepWalk
import Derived.Test.YtjmneomkkcbleaaGreatDoorEvMsg
import Derived.Test.YtjmneomkkcbleaaGreatDoorEvKeepMemo
namespace Go.Ev
open Go.Proofs Go.Joins Go.ChangeShapes Go.WideShapes Go.RowKit Go.Deep

theorem array11 {α : Type} {cs : Array α} (h : cs.size = 11) : ∃ c0 c1 c2 c3 c4 c5 c6 c7 c8 c9 c10, cs = #[c0, c1, c2, c3, c4, c5, c6, c7, c8, c9, c10] := by
  obtain ⟨l⟩ := cs
  match l, h with
  | [c0, c1, c2, c3, c4, c5, c6, c7, c8, c9, c10], _ => exact ⟨c0, c1, c2, c3, c4, c5, c6, c7, c8, c9, c10, rfl⟩

section
variable {H : Type} {enc : TypeId × Value → H} {w : World} {base : Nat} {spare : Nat → Bool} {held : Bool}

set_option maxRecDepth 100000 in
theorem open_batch {r : Reach} {b0 : Nat} {v : Value} {d : DataW H} {p : List MemPlace} (hv : Value.okWide Tryz.prog w r b0 71 v) (h : DataW.Trod enc Tryz.prog w base spare held 71 v d p) :
    ∃ (h0 h1 h2 hh fr s0 s1 hs ap : Value) (pe pm : Option Addr) (le ce lm cm : Nat), v = .agg #[h0, h1, h2, hh, fr, .slice pe le ce, s0, s1, .slice pm lm cm, hs, ap] ∧ TextsAt w 4 3 pe le ∧ le ≤ maxLen ∧ lm ≤ maxLen := by
  obtain ⟨cs, rfl, hsz⟩ := okWide_struct Tryz.underlying71 hv
  have hC : Tryz.prog.cellsOf 71 = 11 := by kernel_rfl
  obtain ⟨c0, c1, c2, c3, c4, c5, c6, c7, c8, c9, c10, rfl⟩ := array11 (hsz.trans hC)
  obtain ⟨fuel, hf⟩ := h
  obtain ⟨xs, n, _, _, _, hlen, hg⟩ := DataW.trod_struct Tryz.underlying71 hf
  have hlen' : xs.length = 7 := hlen
  have k1 : Tryz.prog.cellsOf 67 = 1 := by kernel_rfl
  have k2 : Tryz.prog.cellsOf 69 = 3 := by kernel_rfl
  have k3 : Tryz.prog.cellsOf 24 = 1 := by kernel_rfl
  have e3 : DataW.trod enc Tryz.prog w base spare held n 67 (List.take (Tryz.prog.cellsOf 67) [c5, c6, c7, c8, c9, c10]) = xs[3]? := hg 3 _ rfl
  rw [k1, List.getElem?_eq_getElem (by omega)] at e3
  have e3' : DataW.trod enc Tryz.prog w base spare held n 67 [c5] = some xs[3] := e3
  have e4 : DataW.trod enc Tryz.prog w base spare held n 69 (List.take (Tryz.prog.cellsOf 69) [c6, c7, c8, c9, c10]) = xs[4]? := hg 4 _ rfl
  rw [k2, List.getElem?_eq_getElem (by omega)] at e4
  have e4' : DataW.trod enc Tryz.prog w base spare held n 69 [c6, c7, c8] = some xs[4] := e4
  obtain ⟨ys, m, _, _, _, hyl, hy⟩ := DataW.trod_struct Tryz.underlying69 e4'
  have hyl' : ys.length = 3 := hyl
  have e5 : DataW.trod enc Tryz.prog w base spare held m 24 (List.take (Tryz.prog.cellsOf 24) [c8]) = ys[2]? := hy 2 _ rfl
  rw [k3, List.getElem?_eq_getElem (by omega)] at e5
  have e5' : DataW.trod enc Tryz.prog w base spare held m 24 [c8] = some ys[2] := e5
  obtain ⟨pe, le, ce, rfl, hle, hE⟩ := slice_texts Tryz.underlying67 Tryz.underlying212 (by kernel_rfl) (z := 4) (by kernel_rfl) rfl (by decide) e3'
  obtain ⟨pm, lm, cm, rfl, hlm⟩ := slice_any Tryz.underlying24 e5'
  exact ⟨c0, c1, c2, c3, c4, c6, c7, c9, c10, pe, pm, le, ce, lm, cm, rfl, hE 3 _ rfl Tryz.underlying9, hle, hlm⟩
end
end Go.Ev
namespace Go.Proofs.YtjmneomkkcbleaaGreatDoor
open Go.Ev Go.RowKit
theorem alive19 : okB ((fns (prims K0 [] msKeep) 100000).call 33 [] ⟨.nil, 0⟩) = true := by kernel_rfl
theorem keepLoad : valB ((fns (prims K0 [] []) 100000).call 34 [.nilp] ⟨.nil, 0⟩) (.tup [.agg [.int .i64 0, .int .i64 0, .int .i64 0, .int .i64 0, .int .i64 0, .nils, .nils, .int .i64 0], .int .i64 1]) = true := by kernel_rfl

theorem call_keepNone (h0 h1 h2 hh fr s0 s1 hs ap : Value) (pe pm : Option Addr) (le ce lm cm : Nat) (w : World) (he : TextsAt w 4 3 pe le) (hle : le ≤ 9223372036854775807) (hlm : lm ≤ 9223372036854775807) :
    Calls Tryz.prog 6 #[.agg #[h0, h1, h2, hh, fr, .slice pe le ce, s0, s1, .slice pm lm cm, hs, ap]] w (TrueB w) :=
  keep_walk (closed_true (soundAll aloneNil memosKeep 100000) alive19)
    (fun W => by simpa [concL, conc] using closed_val (soundAll aloneNil memosNil 100000) keepLoad (by simp [OnL, On]) (by simp [OnL, On]) W)
    h0 h1 h2 hh fr s0 s1 hs ap pe pm le ce lm cm w he hle hlm
end Go.Proofs.YtjmneomkkcbleaaGreatDoor
