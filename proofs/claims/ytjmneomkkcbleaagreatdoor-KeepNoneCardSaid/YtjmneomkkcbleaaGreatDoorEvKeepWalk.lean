/-
  The law arboretumlaw19.KeepNone, walked over what it calls.
-/
import Derived.Test.YtjmneomkkcbleaaGreatDoorEvRoom
namespace Go.Ev
open Go.Proofs Go.RowKit

theorem room1n (x left : Int) (T : TypeId) (n : Nat) (W : World) (hn : n = W.heap.size) : Calls Tryz.prog 164 #[.int .i64 left, .slice (some ⟨n, 0, none⟩) 1 1] (W.alloc (.cells #[.int .i64 x] T)) fun e w' => (∃ r, e = .returned (.int .i64 r)) ∧ w' = W.alloc (.cells #[.int .i64 x] T) := by
  subst hn
  exact room1 x left T W

theorem room1nd (x left : Int) (T : TypeId) (n : Nat) (W : World) (hn : n = W.heap.size) : Calls Tryz.prog 164 #[.int .i64 left, .slice (some ⟨n, 0, none⟩) 1 1] (W.alloc (.cells #[.int .i64 x] T)).drew fun e w' => (∃ r, e = .returned (.int .i64 r)) ∧ w' = (W.alloc (.cells #[.int .i64 x] T)).drew := by
  subst hn
  exact room1d x left T W

set_option maxRecDepth 100000 in
set_option maxHeartbeats 1000000 in
theorem light13_one (g c : Nat) (w : World) (h : w.rangeAt g 0 [.int .i64 0, .int .i64 0, .string ⟨#[]⟩, .string ⟨#[]⟩, .string ⟨#[]⟩, .string ⟨#[]⟩, .slice none 0 0]) (hg : g < w.heap.size) :
    Calls Tryz.prog 106 #[.slice (some ⟨g, 0, none⟩) 1 c] w (SomeBool w) := by
  go_enter Tryz.func106, Tryz.ntmps106
  go_wp2
  go_loopw [3, 4, 5] (fun u v i wr => ∃ (r s : Int) (k : Nat), k ≤ 1 ∧ u = .int .i64 r ∧ v = .int .i64 s ∧ i = .int .i64 (k : Int) ∧ Below w.heap.size w wr) (fun _ _ i _ => 1 - (intOf i).toNat)
  case atStart => exact ⟨_, _, 0, by omega, rfl, rfl, rfl, Below.refl _ _⟩
  case round =>
    obtain ⟨r, s, k, hk, rfl, rfl, rfl, hbel⟩ := hrel
    by_cases hlt : k < 1
    · obtain rfl : k = 0 := by omega
      have q2 : wr.cell? ⟨g, 2, none⟩ = some (.string ⟨#[]⟩) := ((bcell hbel).1 _ _ hg).trans (h 2 _ rfl)
      have q3 : wr.cell? ⟨g, 3, none⟩ = some (.string ⟨#[]⟩) := ((bcell hbel).1 _ _ hg).trans (h 3 _ rfl)
      have q4 : wr.cell? ⟨g, 4, none⟩ = some (.string ⟨#[]⟩) := ((bcell hbel).1 _ _ hg).trans (h 4 _ rfl)
      have q5 : wr.cell? ⟨g, 5, none⟩ = some (.string ⟨#[]⟩) := ((bcell hbel).1 _ _ hg).trans (h 5 _ rfl)
      have q6 : wr.cell? ⟨g, 6, none⟩ = some (.slice none 0 0) := ((bcell hbel).1 _ _ hg).trans (h 6 _ rfl)
      have hgr : g < wr.heap.size := Nat.lt_of_lt_of_le hg hbel.size
      go_wp2
      case' _ => go_region_held3 (fun w' => w'.cell? ⟨g, 2, none⟩ = some (.string ⟨#[]⟩) ∧ w'.cell? ⟨g, 3, none⟩ = some (.string ⟨#[]⟩) ∧ w'.cell? ⟨g, 4, none⟩ = some (.string ⟨#[]⟩) ∧ w'.cell? ⟨g, 5, none⟩ = some (.string ⟨#[]⟩) ∧ w'.cell? ⟨g, 6, none⟩ = some (.slice none 0 0)) (go_keep) (first | (go_at_call 164; refine (room5d _ _ _ _ _ _ _ _).mono ?_; rintro e w2 ⟨⟨r', rfl⟩, rfl⟩))
      case' _ => go_wp2_with (first | (go_at_call 164; refine (room1nd _ _ _ _ _ (by simp)).mono ?_; rintro e w3 ⟨⟨r'', rfl⟩, rfl⟩))
      all_goals (try (go_loopw [3, 6] (fun u3 u wr' => (∃ x, u3 = .int .i64 x) ∧ u = .int .i64 0 ∧ wr' = ((wr.alloc (Obj.cells #[Value.int IntKind.i64 0, Value.int IntKind.i64 0, Value.int IntKind.i64 0, Value.int IntKind.i64 0, Value.int IntKind.i64 0] 3)).alloc (Obj.cells #[Value.int IntKind.i64 0] 3)).drew) (fun _ _ _ => 0)))
      case atStart => exact ⟨⟨_, rfl⟩, rfl, rfl⟩
      case round =>
        obtain ⟨⟨x, rfl⟩, rfl, rfl⟩ := hrel
        go_wp2
        all_goals (try (exact ⟨⟨_, _, 1, by omega, rfl, rfl, by simp, (bel_alloc (bel_alloc hbel _) _).drew⟩, by simp only [intOf]; omega⟩))
        all_goals (trace_state; sorry)
      all_goals (go_ret; exact ⟨⟨_, rfl⟩, hbel⟩)
    · obtain rfl : k = 1 := by omega
      go_wp2
      all_goals (go_ret; exact ⟨⟨_, rfl⟩, hbel⟩)

def zOp13 : List Value := [.int .i64 0, .int .i64 0, .string ⟨#[]⟩, .string ⟨#[]⟩, .string ⟨#[]⟩, .string ⟨#[]⟩, .slice none 0 0]

theorem range_below0 {W W' : World} {b : Nat} {cs : List Value} (h : W.rangeAt b 0 cs) (hb : Below W.heap.size W W') (hlt : b < W.heap.size) : W'.rangeAt b 0 cs :=
  fun j v hj => ((bcell hb).1 _ _ hlt).trans (h j v hj)

theorem range_app (W : World) (cs X : Array Value) (T : TypeId) (n : Nat) (hn : n = W.heap.size) : (W.alloc (.cells (cs ++ X) T)).drew.rangeAt n 0 cs.toList := by
  subst hn
  intro j v hj
  show (W.alloc (.cells (cs ++ X) T)).cell? _ = _
  rw [World.cell?_alloc_at _ _ _ _ rfl, Nat.zero_add]
  have hj' : cs[j]? = some v := by simpa using hj
  have hlt : j < cs.size := (Array.getElem?_eq_some_iff.1 hj').1
  rw [Array.getElem?_append_left hlt, hj']

set_option maxRecDepth 100000 in
set_option maxHeartbeats 2000000 in
theorem light19_one (k0 h0 h1 h2 hh fr s0 s1 hs ap : Value) (pe pm : Option Addr) (le ce lm cm g : Nat) (w : World)
    (h : w.rangeAt g 0 [k0, h0, h1, h2, hh, fr, .slice pe le ce, s0, s1, .slice pm lm cm, hs, ap, .slice none 0 0, .int .i64 0, .int .i64 0, .string ⟨#[]⟩, .string ⟨#[]⟩, .string ⟨#[]⟩, .string ⟨#[]⟩, .slice none 0 0]) (hg : g < w.heap.size)
    (he : TextsAt w 4 3 pe le) (hle : le ≤ 9223372036854775807) (hlm : lm ≤ 9223372036854775807) :
    Calls Tryz.prog 32 #[.slice (some ⟨g, 0, none⟩) 1 1] w (SomeBool w) := by
  go_enter Tryz.func32, Tryz.ntmps32
  go_wp2
  go_loopw [3, 4] (fun x i wr => Below w.heap.size w wr ∧ ((i = .int .i64 0 ∧ x = .slice none 0 0) ∨ (i = .int .i64 1 ∧ ∃ gb cap, x = .slice (some ⟨gb, 0, none⟩) 1 cap ∧ gb < wr.heap.size ∧ wr.rangeAt gb 0 zOp13))) (fun _ i _ => 1 - (intOf i).toNat)
  case atStart => exact ⟨Below.refl _ _, .inl ⟨rfl, rfl⟩⟩
  case round =>
    obtain ⟨hbel, hrel⟩ := hrel
    rcases hrel with ⟨rfl, rfl⟩ | ⟨rfl, gb, cap, rfl, hgb, hrg⟩
    · have hr := range_below0 h hbel hg
      have hgr : g < wr.heap.size := Nat.lt_of_lt_of_le hg hbel.size
      have q6 : wr.cell? ⟨g, 6, none⟩ = some (.slice pe le ce) := hr 6 _ rfl
      go_wp2_with (go_at_call 105; refine (small16_at _ _ _ _ (he.below hbel) hle).mono ?_; rintro e w1 ⟨⟨t, rfl⟩, hb1⟩; have hr1 := range_below0 hr hb1 hgr; have q6' : w1.cell? ⟨g, 6, none⟩ = some (.slice pe le ce) := hr1 6 _ rfl; have q9' : w1.cell? ⟨g, 9, none⟩ = some (.slice pm lm cm) := hr1 9 _ rfl; have q12' : w1.cell? ⟨g, 12, none⟩ = some (.slice none 0 0) := hr1 12 _ rfl)
      all_goals (try (go_ret; exact ⟨⟨_, rfl⟩, by first | exact bel_then hbel hb1 | exact hbel⟩))
      all_goals (try go_loopw [5] (fun u wr' => ∃ k : Nat, k ≤ le ∧ u = .int .i64 (k : Int) ∧ wr' = w1) (fun u _ => le - (intOf u).toNat))
      case atStart => exact ⟨0, by omega, rfl, rfl⟩
      case round =>
        obtain ⟨k, hk, rfl, rfl⟩ := hrel
        by_cases hlt : k < le
        · have hlt' : (k : Int) < (le : Int) := by omega
          rcases he.below (bel_then hbel hb1) with h00 | ⟨b, o, rfl, hb, hT⟩
          · omega
          obtain ⟨s, hs, hsz⟩ := hT k hlt
          go_wp2
          case roundEnd => exact ⟨⟨k + 1, by omega, by simp, trivial⟩, by simp only [intOf]; omega⟩
          all_goals (go_ret; exact ⟨⟨_, rfl⟩, bel_then hbel hb1⟩)
        · have hlt' : ¬ (k : Int) < (le : Int) := by omega
          have q13 := hr1 13 _ rfl
          have q14 := hr1 14 _ rfl
          have q15 := hr1 15 _ rfl
          have q16 := hr1 16 _ rfl
          have q17 := hr1 17 _ rfl
          have q18 := hr1 18 _ rfl
          have q19 := hr1 19 _ rfl
          simp only [Nat.zero_add] at q13 q14 q15 q16 q17 q18 q19
          go_wp2
          case roundEnd => exact ⟨⟨(bel_alloc (bel_alloc (bel_then hbel hb1) _) _).drew, .inr ⟨rfl, _, _, rfl, by simp, range_app _ #[Value.int IntKind.i64 0, Value.int IntKind.i64 0, Value.string ⟨#[]⟩, Value.string ⟨#[]⟩, Value.string ⟨#[]⟩, Value.string ⟨#[]⟩, Value.slice none 0 0] _ _ _ (by simp)⟩⟩, by simp [intOf]⟩
    · go_wp2_with (go_at_call 106; refine (light13_one _ _ _ hrg hgb).mono ?_; rintro e w1 ⟨⟨t, rfl⟩, hb1⟩)
      go_ret
      exact ⟨⟨_, rfl⟩, bel_then hbel hb1⟩

theorem range_allocn (w : World) (cs : Array Value) (T : TypeId) (n : Nat) (hn : n = w.heap.size) : (w.alloc (.cells cs T)).rangeAt n 0 cs.toList := by
  subst hn
  intro j v hj
  rw [World.cell?_alloc_at _ _ _ _ rfl, Nat.zero_add]
  simpa using hj
theorem range_past0 {W : World} {b : Nat} {cs : List Value} (h : W.rangeAt b 0 cs) (hlt : b < W.heap.size) (o : Obj) : (W.alloc o).rangeAt b 0 cs :=
  fun j v hj => (World.cell?_alloc_past _ _ _ hlt).trans (h j v hj)
theorem range_set {W : World} {b : Nat} {cs : List Value} (h : W.rangeAt b 0 cs) (i : Nat) (v : Value) (hi : i < cs.length) : (W.setCell ⟨b, i, none⟩ v).rangeAt b 0 (cs.set i v) := by
  intro j x hj
  rw [Nat.zero_add]
  by_cases hij : i = j
  · subst hij
    have h2 := h i _ (List.getElem?_eq_getElem hi)
    rw [Nat.zero_add] at h2
    rw [World.cell?_setCell_same' _ _ _ (by rw [h2]; rfl)]
    rw [List.getElem?_set_self hi] at hj
    exact hj
  · have hne : (⟨b, i, none⟩ : Addr) ≠ ⟨b, j, none⟩ := fun e => hij (congrArg Addr.off e)
    refine (World.cell?_setCell_other _ _ _ _ hne).trans ?_
    rw [List.getElem?_set_ne hij] at hj
    have := h j x hj
    rwa [Nat.zero_add] at this

set_option maxHeartbeats 1000000 in
theorem init_nil (p : Option Addr) (l c : Nat) (w : World) : Calls Tryz.prog 35 #[.pointer none, .slice p l c] w (Gives0 (.int .i64 1) w) := by
  go_enter Tryz.func35, Tryz.ntmps35
  go_wp2
  go_ret
  exact ⟨rfl, bel_alloc (bel_alloc (Below.refl _ _) _) _⟩

set_option maxHeartbeats 1000000 in
theorem save_nil (cs : Array Value) (w : World) : Calls Tryz.prog 36 #[.pointer none, .agg cs] w (Gives0 (.int .i64 1) w) := by
  go_enter Tryz.func36, Tryz.ntmps36
  go_wp2
  go_ret
  exact ⟨rfl, bel_alloc (Below.refl _ _) _⟩

def zSt : Array Value := #[.int .i64 0, .int .i64 0, .int .i64 0, .int .i64 0, .int .i64 0, .slice none 0 0, .slice none 0 0, .int .i64 0]

theorem after_load {W w2 : World} {b i : Nat} {v : Value} {cs : List Value} (hb : Below (W.setCell ⟨b, i, none⟩ v).heap.size (W.setCell ⟨b, i, none⟩ v) w2) (R : W.rangeAt b 0 cs) (hz : b < W.heap.size) (hi : i < cs.length) :
    b < w2.heap.size ∧ w2.rangeAt b 0 (cs.set i v) := by
  have e : (W.setCell ⟨b, i, none⟩ v).heap.size = W.heap.size := by simp [World.setCell]
  have h := hb.size
  exact ⟨by omega, range_below0 (range_set R i v hi) hb (by omega)⟩
theorem past_below {W w2 : World} {b : Nat} {o : Obj} {cs : List Value} (hb : Below (W.alloc o).heap.size (W.alloc o) w2) (R : W.rangeAt b 0 cs) (hz : b < W.heap.size) : b < w2.heap.size ∧ w2.rangeAt b 0 cs := by
  have e : (W.alloc o).heap.size = W.heap.size + 1 := by simp
  have h := hb.size
  exact ⟨by omega, range_below0 (range_past0 R hz o) hb (by omega)⟩
theorem new_below {W w2 : World} {cs : Array Value} {T : TypeId} (hb : Below (W.alloc (.cells cs T)).heap.size (W.alloc (.cells cs T)) w2) : W.heap.size < w2.heap.size ∧ w2.rangeAt W.heap.size 0 cs.toList := by
  have e : (W.alloc (.cells cs T)).heap.size = W.heap.size + 1 := by simp
  have h := hb.size
  exact ⟨by omega, range_below0 (range_allocn W cs T _ rfl) hb (by omega)⟩

theorem after_light {w w1 : World} {cs : Array Value} {T : TypeId} {o : Obj} (hb : Below ((w.alloc (.cells cs T)).alloc o).heap.size ((w.alloc (.cells cs T)).alloc o) w1) :
    w.heap.size < w1.heap.size ∧ w1.rangeAt w.heap.size 0 cs.toList ∧ w1.frozen? ⟨w.heap.size, 3, none⟩ = false := by
  have hz := hb.size
  have e1 : (w.alloc (.cells cs T)).heap.size = w.heap.size + 1 := by simp
  have e2 : ((w.alloc (.cells cs T)).alloc o).heap.size = w.heap.size + 2 := by simp
  refine ⟨by omega, range_below0 (range_past0 (range_allocn w cs T _ rfl) (by omega) _) hb (by omega), ?_⟩
  rw [(bcell hb).2 _ _ (by omega), World.frozen?_alloc_past _ _ _ (by omega), World.frozen?_alloc_at _ _ _ _ rfl]

set_option maxRecDepth 100000 in
set_option maxHeartbeats 1000000 in
theorem keep_walk (hAl : ∀ W, Calls Tryz.prog 33 #[] W (TrueB W))
    (hLoad : ∀ W, Calls Tryz.prog 34 #[.pointer none] W (Gives0 (.tuple #[.agg #[.int .i64 0, .int .i64 0, .int .i64 0, .int .i64 0, .int .i64 0, .slice none 0 0, .slice none 0 0, .int .i64 0], .int .i64 1]) W))
    (h0 h1 h2 hh fr s0 s1 hs ap : Value) (pe pm : Option Addr) (le ce lm cm : Nat) (w : World) (he : TextsAt w 4 3 pe le) (hle : le ≤ 9223372036854775807) (hlm : lm ≤ 9223372036854775807) :
    Calls Tryz.prog 6 #[.agg #[h0, h1, h2, hh, fr, .slice pe le ce, s0, s1, .slice pm lm cm, hs, ap]] w (TrueB w) := by
  have hA := bel_alloc (bel_alloc (Below.refl w.heap.size w) (.cells #[h0, h1, h2, hh, fr, .slice pe le ce, s0, s1, .slice pm lm cm, hs, ap] 71))
  go_enter Tryz.func6, Tryz.ntmps6
  go_wp2_with (first
    | (go_at_call 32; refine (light19_one _ _ _ _ _ _ _ _ _ _ pe pm le ce lm cm _ _ (range_allocn _ #[.int .i64 0, h0, h1, h2, hh, fr, .slice pe le ce, s0, s1, .slice pm lm cm, hs, ap, .slice none 0 0, .int .i64 0, .int .i64 0, .string ⟨#[]⟩, .string ⟨#[]⟩, .string ⟨#[]⟩, .string ⟨#[]⟩, .slice none 0 0] _ _ (by simp)) (by simp) (he.below (hA _)) hle hlm).mono ?_; rintro e w1 ⟨⟨t, rfl⟩, hb1⟩; obtain ⟨hz1, R1, f3⟩ := after_light hb1; have q3 : w1.cell? ⟨w.heap.size, 3, none⟩ = some hh := R1 3 _ rfl)
    | (go_at_call 34; refine (hLoad _).mono ?_; rintro e w2 ⟨rfl, hb2⟩; obtain ⟨hz2, R2⟩ := after_load hb2 R1 hz1 (by simp))
    | (go_at_call 33; refine ((fun (_ : w.heap.size < w2.heap.size) => hAl _) hz2).mono ?_; rintro e w3 ⟨rfl, hb3⟩; obtain ⟨hz3, R3⟩ := past_below hb3 R2 hz2; obtain ⟨hs3, S3⟩ := new_below hb3)
    | (go_at_call 33; refine (hAl _).mono ?_; rintro e w3 ⟨rfl, hb3⟩)
    | (go_at_call 35; refine (init_nil _ _ _ _).mono ?_; rintro e w4 ⟨rfl, hb4⟩; obtain ⟨hz4, R4⟩ := past_below hb4 R3 hz3; obtain ⟨hs4, S4⟩ := past_below hb4 S3 hs3; have q0 : w4.cell? ⟨w.heap.size, 0, none⟩ = some (h0) := R4 0 _ rfl; have q1 : w4.cell? ⟨w.heap.size, 1, none⟩ = some (h1) := R4 1 _ rfl; have q2 : w4.cell? ⟨w.heap.size, 2, none⟩ = some (h2) := R4 2 _ rfl; have q3 : w4.cell? ⟨w.heap.size, 3, none⟩ = some (.bool true) := R4 3 _ rfl; have q4 : w4.cell? ⟨w.heap.size, 4, none⟩ = some (fr) := R4 4 _ rfl; have q5 : w4.cell? ⟨w.heap.size, 5, none⟩ = some (.slice pe le ce) := R4 5 _ rfl; have q6 : w4.cell? ⟨w.heap.size, 6, none⟩ = some (s0) := R4 6 _ rfl; have q7 : w4.cell? ⟨w.heap.size, 7, none⟩ = some (s1) := R4 7 _ rfl; have q8 : w4.cell? ⟨w.heap.size, 8, none⟩ = some (.slice pm lm cm) := R4 8 _ rfl; have q9 : w4.cell? ⟨w.heap.size, 9, none⟩ = some (hs) := R4 9 _ rfl; have q10 : w4.cell? ⟨w.heap.size, 10, none⟩ = some (ap) := R4 10 _ rfl)
    | (go_at_call 36; refine (save_nil _ _).mono ?_; rintro e w5 ⟨rfl, hb5⟩; have z5 : w5.cell? ⟨w2.heap.size, 7, none⟩ = some (.int .i64 0) := range_below0 S4 hb5 hs4 7 _ rfl))
  · go_ret
    exact ⟨rfl, bel_then (bel_then (hA _) hb1) hb3⟩
  · go_ret
    exact ⟨rfl, bel_then (bel_then (bel_alloc (bel_then (bel_alloc (bel_then ((bel_then (hA _) hb1).setCell (Nat.le_refl _) _) hb2) _) hb3) _) hb4) hb5⟩
end Go.Ev
