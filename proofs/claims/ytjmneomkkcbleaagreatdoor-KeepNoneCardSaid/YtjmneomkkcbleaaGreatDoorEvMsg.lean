/-
  A message by value: what its reading says of the texts that it leads to.
-/
import Derived.Test.YtjmneomkkcbleaaGreatDoorEvRoom
import Derived.Lib.SmallJoins
import Derived.Deep.Slices
namespace Go.Ev
open Go.Joins Go.ChangeShapes Go.WideShapes Go.RowKit Go.Deep

section
variable {H : Type} {enc : TypeId × Value → H} {P : Program} {w : World} {base : Nat} {spare : Nat → Bool} {held : Bool}

theorem slice_any {t e : TypeId} {fuel : Nat} {v : Value} {y : DataW H × List MemPlace} (ht : P.underlying t = some (.slice e)) (h : DataW.trod enc P w base spare held fuel t [v] = some y) : ∃ p l c, v = .slice p l c ∧ l ≤ maxLen := by
  rcases open_slice ht h with ⟨h0, _⟩ | ⟨a, len, cap, m, n, D, Pl, h0, hb, hl, hm, hmm, hx, hi⟩
  · simp only [List.cons.injEq, and_true] at h0
    exact ⟨_, _, _, h0, Nat.zero_le _⟩
  · simp only [List.cons.injEq, and_true] at h0
    exact ⟨_, _, _, h0, Nat.le_trans hl hm⟩

theorem slice_texts {t e : TypeId} {gs : Array Field} {z fuel : Nat} {v : Value} {y : DataW H × List MemPlace} (ht : P.underlying t = some (.slice e)) (he : P.underlying e = some (.struct gs)) (hone : oneCellFields P gs = true) (hC : P.cellsOf e = z) (hz : gs.size = z) (hpos : 0 < z)
    (h : DataW.trod enc P w base spare held fuel t [v] = some y) :
    ∃ p l c, v = .slice p l c ∧ l ≤ maxLen ∧ ∀ (off : Nat) (g : Field), gs[off]? = some g → P.underlying g.type = some .string → TextsAt w z off p l := by
  rcases open_slice ht h with ⟨h0, _⟩ | ⟨a, len, cap, m, n, D, Pl, h0, hb, hl, hm, hmm, hx, hi⟩
  · simp only [List.cons.injEq, and_true] at h0
    exact ⟨_, _, _, h0, Nat.zero_le _, fun _ _ _ _ => .inl rfl⟩
  · simp only [List.cons.injEq, and_true] at h0
    refine ⟨_, _, _, h0, Nat.le_trans hl hm, fun off g hg hs => ?_⟩
    have hlm : len ≤ m := by rw [hmm]; split <;> omega
    rcases Nat.eq_zero_or_pos len with hz0 | hz0
    · exact .inl hz0
    refine .inr ?_
    rw [hC] at hi
    have hsp : a.spot = none ∧ a.block < w.heap.size := by
      obtain ⟨cs', h1, h2⟩ := hi 0 (by omega)
      obtain ⟨_, hlen, hat⟩ := World.cells?_some h1
      have h3 := hat 0 hpos
      rw [List.getElem?_eq_getElem (by omega)] at h3
      simp [Addr.add] at h3
      unfold World.cell? at h3
      split at h3
      · rename_i c e' fz hq
        split at h3
        · cases h3
        · rename_i hs'
          exact ⟨by simpa using hs', (Array.getElem?_eq_some_iff.1 hq).1⟩
      · cases h3
    obtain ⟨bl, of, sp⟩ := a
    obtain ⟨hsp, hbl⟩ := hsp
    simp only at hsp
    subst hsp
    refine ⟨bl, of, rfl, hbl, fun j hj => ?_⟩
    obtain ⟨cs', h1, h2⟩ := hi j (by omega)
    obtain ⟨_, hlen, hat⟩ := World.cells?_some h1
    obtain ⟨xs, n', _, _, _, hxl, hf⟩ := DataW.trod_struct he h2
    have hoff : off < z := by rw [← hz]; exact (Array.getElem?_eq_some_iff.1 hg).1
    obtain ⟨ho, hk⟩ := hone_of hone off g hg
    have h3 := hf off g hg
    rw [ho, hk, List.getElem?_eq_getElem (by omega)] at h3
    have h4 : (cs'.drop off).take 1 = [cs'[off]'(by omega)] := by rw [List.drop_eq_getElem_cons (by omega)]; rfl
    rw [h4] at h3
    obtain ⟨s, h5, _, h6⟩ := DataW.trod_string hs h3
    simp only [List.cons.injEq, and_true] at h5
    refine ⟨s, ?_, h6⟩
    have h7 := hat off hoff
    rw [List.getElem?_eq_getElem (by omega), h5] at h7
    rw [← h7]
    congr 1
    simp only [Addr.add]
    split <;> split <;> simp_all

/-- A struct of one-cell fields by value: its cells, each with its field's reading. -/
theorem open_cells {r : Reach} {b0 : Nat} {t : TypeId} {fs : Array Field} {v : Value} {d : DataW H} {p : List MemPlace} (hs : P.underlying t = some (.struct fs)) (hone : oneCellFields P fs = true) (hC : P.cellsOf t = fs.size)
    (hv : Value.okWide P w r b0 t v) (h : DataW.Trod enc P w base spare held t v d p) :
    ∃ (cs : Array Value) (n : Nat), v = .agg cs ∧ cs.size = fs.size ∧ ∀ (j : Nat) (f : Field), fs[j]? = some f → ∃ c y, cs[j]? = some c ∧ DataW.trod enc P w base spare held n f.type [c] = some y := by
  obtain ⟨cs, rfl, hsz⟩ := okWide_struct hs hv
  obtain ⟨fuel, hf⟩ := h
  obtain ⟨xs, n, _, _, _, hlen, hg⟩ := DataW.trod_struct hs hf
  refine ⟨cs, n, rfl, hsz.trans hC, fun j f hj => ?_⟩
  obtain ⟨ho, hk⟩ := hone_of hone j f hj
  have hjl : j < fs.size := (Array.getElem?_eq_some_iff.1 hj).1
  have hjc : j < cs.size := by omega
  have h3 := hg j f hj
  rw [ho, hk, List.getElem?_eq_getElem (by omega)] at h3
  have h4 : (((Value.agg cs).cells.toList).drop j).take 1 = [cs[j]] := by
    show ((cs.toList).drop j).take 1 = _
    rw [List.drop_eq_getElem_cons (by simpa using hjc)]
    simp
  rw [h4] at h3
  exact ⟨cs[j], _, by simp [hjc], h3⟩
end
end Go.Ev
