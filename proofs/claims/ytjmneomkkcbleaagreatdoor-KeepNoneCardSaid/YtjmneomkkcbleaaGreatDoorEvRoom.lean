/-
  Are messages, entries, batches small enough: some truth, whatever they are.
-/
import Derived.Test.YtjmneomkkcbleaaGreatDoorEvKvWalk
import Derived.Deep.RegionHeld3
namespace Go.Ev
open Go.Proofs Go.RowKit

set_option maxHeartbeats 1000000 in
theorem room_any (b o n c : Nat) (left : Int) (W : World) (h : ∀ j, j < n → ∃ x, W.cell? ⟨b, o + j, none⟩ = some (.int .i64 x)) (hn : n ≤ 1000) :
    Calls Tryz.prog 164 #[.int .i64 left, .slice (some ⟨b, o, none⟩) n c] W fun e w' => (∃ r, e = .returned (.int .i64 r)) ∧ w' = W := by
  go_enter Tryz.func164, Tryz.ntmps164
  go_wp2
  go_loopw [0, 5] (fun u i wr => ∃ (r : Int) (k : Nat), k ≤ n ∧ u = .int .i64 r ∧ i = .int .i64 (k : Int) ∧ wr = W) (fun _ i _ => n - (intOf i).toNat)
  case atStart => exact ⟨left, 0, by omega, rfl, rfl, rfl⟩
  case round =>
    obtain ⟨r, k, hk, rfl, rfl, rfl⟩ := hrel
    by_cases hlt : k < n
    · obtain ⟨x, hx⟩ := h k hlt
      have hlt' : (k : Int) < (n : Int) := by omega
      go_wp2
      case roundEnd => exact ⟨⟨_, k + 1, by omega, rfl, by simp, trivial⟩, by simp only [intOf]; omega⟩
      all_goals (go_ret; exact ⟨⟨_, rfl⟩, rfl⟩)
    · have hlt' : ¬ (k : Int) < (n : Int) := by omega
      go_wp2
      all_goals (go_ret; exact ⟨⟨_, rfl⟩, rfl⟩)

theorem room1 (x0 left : Int) (T : TypeId) (W : World) : Calls Tryz.prog 164 #[.int .i64 left, .slice (some ⟨W.heap.size, 0, none⟩) 1 1] (W.alloc (.cells #[.int .i64 x0] T)) fun e w' => (∃ r, e = .returned (.int .i64 r)) ∧ w' = W.alloc (.cells #[.int .i64 x0] T) :=
  room_any _ _ _ _ _ _ (fun j hj => by
    have : j = 0 := by omega
    rcases this with rfl <;> exact ⟨_, World.cell?_alloc_at _ _ _ _ rfl⟩) (by omega)
theorem room2 (x0 x1 left : Int) (T : TypeId) (W : World) : Calls Tryz.prog 164 #[.int .i64 left, .slice (some ⟨W.heap.size, 0, none⟩) 2 2] (W.alloc (.cells #[.int .i64 x0, .int .i64 x1] T)) fun e w' => (∃ r, e = .returned (.int .i64 r)) ∧ w' = W.alloc (.cells #[.int .i64 x0, .int .i64 x1] T) :=
  room_any _ _ _ _ _ _ (fun j hj => by
    have : j = 0 ∨ j = 1 := by omega
    rcases this with rfl | rfl <;> exact ⟨_, World.cell?_alloc_at _ _ _ _ rfl⟩) (by omega)
theorem room5 (x0 x1 x2 x3 x4 left : Int) (T : TypeId) (W : World) : Calls Tryz.prog 164 #[.int .i64 left, .slice (some ⟨W.heap.size, 0, none⟩) 5 5] (W.alloc (.cells #[.int .i64 x0, .int .i64 x1, .int .i64 x2, .int .i64 x3, .int .i64 x4] T)) fun e w' => (∃ r, e = .returned (.int .i64 r)) ∧ w' = W.alloc (.cells #[.int .i64 x0, .int .i64 x1, .int .i64 x2, .int .i64 x3, .int .i64 x4] T) :=
  room_any _ _ _ _ _ _ (fun j hj => by
    have : j = 0 ∨ j = 1 ∨ j = 2 ∨ j = 3 ∨ j = 4 := by omega
    rcases this with rfl | rfl | rfl | rfl | rfl <;> exact ⟨_, World.cell?_alloc_at _ _ _ _ rfl⟩) (by omega)

set_option maxRecDepth 100000 in
set_option maxHeartbeats 1000000 in
theorem small16_any (b o l c : Nat) (w : World) (h : ∀ j, j < l → ∃ s : ByteArray, w.cell? ⟨b, o + j * 4 + 3, none⟩ = some (.string s) ∧ s.size ≤ maxLen) (hb : b < w.heap.size) (hl : l ≤ maxLen) :
    Calls Tryz.prog 105 #[.slice (some ⟨b, o, none⟩) l c] w (SomeBool w) := by
  replace hl : l ≤ 9223372036854775807 := by unfold maxLen at hl; omega
  go_enter Tryz.func105, Tryz.ntmps105
  go_wp2
  go_loopw [3, 4] (fun u i wr => ∃ (r : Int) (k : Nat), k ≤ l ∧ u = .int .i64 r ∧ i = .int .i64 (k : Int) ∧ Below w.heap.size w wr) (fun _ i _ => l - (intOf i).toNat)
  case atStart => exact ⟨_, 0, by omega, rfl, rfl, Below.refl _ _⟩
  case round =>
    obtain ⟨r, k, hk, rfl, rfl, hbel⟩ := hrel
    by_cases hlt : k < l
    · obtain ⟨s, hs, hsz⟩ := h k hlt
      have hs' : wr.cell? ⟨b, o + k * 4 + 3, none⟩ = some (.string s) := ((bcell hbel).1 _ _ hb).trans hs
      have hlt' : (k : Int) < (l : Int) := by omega
      go_wp2_with (go_at_call 164; refine (room1 _ _ _ _).mono ?_; rintro e w1 ⟨⟨r', rfl⟩, rfl⟩)
      case roundEnd => exact ⟨⟨_, k + 1, by omega, rfl, by simp, bel_alloc hbel _⟩, by simp only [intOf]; omega⟩
      all_goals (go_ret; exact ⟨⟨_, rfl⟩, hbel⟩)
    · have hlt' : ¬ (k : Int) < (l : Int) := by omega
      go_wp2
      all_goals (go_ret; exact ⟨⟨_, rfl⟩, hbel⟩)

theorem room1d (x0 left : Int) (T : TypeId) (W : World) : Calls Tryz.prog 164 #[.int .i64 left, .slice (some ⟨W.heap.size, 0, none⟩) 1 1] (W.alloc (.cells #[.int .i64 x0] T)).drew fun e w' => (∃ r, e = .returned (.int .i64 r)) ∧ w' = (W.alloc (.cells #[.int .i64 x0] T)).drew :=
  room_any _ _ _ _ _ _ (fun j hj => by
    have : j = 0 := by omega
    rcases this with rfl <;> exact ⟨_, World.cell?_alloc_at _ _ _ _ rfl⟩) (by omega)
theorem room2d (x0 x1 left : Int) (T : TypeId) (W : World) : Calls Tryz.prog 164 #[.int .i64 left, .slice (some ⟨W.heap.size, 0, none⟩) 2 2] (W.alloc (.cells #[.int .i64 x0, .int .i64 x1] T)).drew fun e w' => (∃ r, e = .returned (.int .i64 r)) ∧ w' = (W.alloc (.cells #[.int .i64 x0, .int .i64 x1] T)).drew :=
  room_any _ _ _ _ _ _ (fun j hj => by
    have : j = 0 ∨ j = 1 := by omega
    rcases this with rfl | rfl <;> exact ⟨_, World.cell?_alloc_at _ _ _ _ rfl⟩) (by omega)
theorem room5d (x0 x1 x2 x3 x4 left : Int) (T : TypeId) (W : World) : Calls Tryz.prog 164 #[.int .i64 left, .slice (some ⟨W.heap.size, 0, none⟩) 5 5] (W.alloc (.cells #[.int .i64 x0, .int .i64 x1, .int .i64 x2, .int .i64 x3, .int .i64 x4] T)).drew fun e w' => (∃ r, e = .returned (.int .i64 r)) ∧ w' = (W.alloc (.cells #[.int .i64 x0, .int .i64 x1, .int .i64 x2, .int .i64 x3, .int .i64 x4] T)).drew :=
  room_any _ _ _ _ _ _ (fun j hj => by
    have : j = 0 ∨ j = 1 ∨ j = 2 ∨ j = 3 ∨ j = 4 := by omega
    rcases this with rfl | rfl | rfl | rfl | rfl <;> exact ⟨_, World.cell?_alloc_at _ _ _ _ rfl⟩) (by omega)
theorem kept_cell0 {w w1 : World} {vs : Array Value} {T : TypeId} (h : Below (w.alloc (.cells vs T)).heap.size (w.alloc (.cells vs T)) w1) (j : Nat) (v : Value) (hv : vs[j]? = some v) :
    w1.cell? ⟨w.heap.size, j, none⟩ = some v ∧ w1.frozen? ⟨w.heap.size, j, none⟩ = false :=
  ⟨((bcell h).1 _ _ (by simp)).trans ((World.cell?_alloc_at _ _ _ j rfl).trans hv), ((bcell h).2 _ _ (by simp)).trans (World.frozen?_alloc_at _ _ _ j rfl)⟩

theorem lt_of_below0 {w w1 : World} {o : Obj} {n : Nat} (h : Below n (w.alloc o) w1) : w.heap.size < w1.heap.size := by
  have := h.size
  simp at this
  omega

theorem kept_more0 {w1 w2 : World} {b j : Nat} {v : Value} (h : Below w1.heap.size w1 w2) (hb : b < w1.heap.size) (q : w1.cell? ⟨b, j, none⟩ = some v ∧ w1.frozen? ⟨b, j, none⟩ = false) :
    w2.cell? ⟨b, j, none⟩ = some v ∧ w2.frozen? ⟨b, j, none⟩ = false :=
  ⟨((bcell h).1 _ _ hb).trans q.1, ((bcell h).2 _ _ hb).trans q.2⟩

/-- So many elements of a size lie there; at that place in each of them a text. -/
def TextsAt (w : World) (z off : Nat) (p : Option Addr) (l : Nat) : Prop := l = 0 ∨ ∃ b o, p = some ⟨b, o, none⟩ ∧ b < w.heap.size ∧ ∀ j, j < l → ∃ s : ByteArray, w.cell? ⟨b, o + j * z + off, none⟩ = some (.string s) ∧ s.size ≤ maxLen

theorem TextsAt.below {w w' : World} {z off l : Nat} {p : Option Addr} (h : TextsAt w z off p l) (hb : Below w.heap.size w w') : TextsAt w' z off p l := by
  rcases h with h | ⟨b, o, h1, h2, h3⟩
  · exact .inl h
  · refine .inr ⟨b, o, h1, Nat.lt_of_lt_of_le h2 hb.size, fun j hj => ?_⟩
    obtain ⟨s, hs, hz⟩ := h3 j hj
    exact ⟨s, ((bcell hb).1 _ _ h2).trans hs, hz⟩

set_option maxRecDepth 100000 in
set_option maxHeartbeats 1000000 in
theorem small16_at (p : Option Addr) (l c : Nat) (w : World) (h : TextsAt w 4 3 p l) (hl : l ≤ 9223372036854775807) :
    Calls Tryz.prog 105 #[.slice p l c] w (SomeBool w) := by
  rcases h with rfl | ⟨b, o, rfl, hb, h⟩
  · go_enter Tryz.func105, Tryz.ntmps105
    go_wp2
    go_loopw [3, 4] (fun u i wr => u = .int .i64 12000 ∧ i = .int .i64 0 ∧ wr = w) (fun _ i _ => 0)
    case atStart => exact ⟨rfl, rfl, rfl⟩
    case round =>
      obtain ⟨rfl, rfl, rfl⟩ := hrel
      go_wp2
      all_goals (go_ret; exact ⟨⟨_, rfl⟩, Below.refl _ _⟩)
  · exact small16_any b o l c w h hb (by unfold maxLen; omega)

set_option maxRecDepth 100000 in
set_option maxHeartbeats 4000000 in
theorem smallMsg_any (c0 c1 c2 c3 c4 c5 c6 c7 c8 c9 c12 : Value) (pe pm pp : Option Addr) (le ce lm cm lp cp : Nat) (w : World) (he : TextsAt w 4 3 pe le) (hp : TextsAt w 2 0 pp lp) (hp1 : TextsAt w 2 1 pp lp) (hle : le ≤ 9223372036854775807) (hlm : lm ≤ 9223372036854775807) (hlp : lp ≤ 9223372036854775807) :
    Calls Tryz.prog 54 #[.agg #[c0, c1, c2, c3, c4, c5, c6, c7, c8, c9, .slice pe le ce, .slice pm lm cm, c12, .slice pp lp cp]] w (SomeBool w) := by
  go_enter Tryz.func54, Tryz.ntmps54
  go_wp2_with (go_at_call 105; refine (small16_at _ _ _ _ (he.below (bel_alloc (Below.refl _ _) _)) hle).mono ?_; rintro e w1 ⟨⟨t, rfl⟩, hb1⟩; obtain ⟨q10, f10⟩ := kept_cell0 hb1 10 (.slice pe le ce) rfl; obtain ⟨q11, f11⟩ := kept_cell0 hb1 11 (.slice pm lm cm) rfl; obtain ⟨q13, f13⟩ := kept_cell0 hb1 13 (.slice pp lp cp) rfl)
  all_goals (try (go_ret; exact ⟨⟨_, rfl⟩, by first | exact bel_then (bel_alloc (Below.refl _ _) _) hb1 | exact bel_alloc (Below.refl _ _) _⟩))
  all_goals (try go_loopw [3, 4] (fun u i wr => ∃ (r : Int) (k : Nat), k ≤ lp ∧ u = .int .i64 r ∧ i = .int .i64 (k : Int) ∧ Below w1.heap.size w1 wr) (fun _ i _ => lp - (intOf i).toNat))
  case atStart => exact ⟨_, 0, by omega, rfl, rfl, Below.refl _ _⟩
  case round =>
    obtain ⟨r, k, hk, rfl, rfl, hbel⟩ := hrel
    have hz1 := lt_of_below0 hb1
    obtain ⟨Q13, F13⟩ := kept_more0 hbel hz1 ⟨q13, f13⟩
    have hbw : Below w.heap.size w wr := bel_then (bel_then (bel_alloc (Below.refl _ _) _) hb1) hbel
    by_cases hlt : k < lp
    · have hlt' : (k : Int) < (lp : Int) := by omega
      rcases hp.below hbw with h0 | ⟨b, o, rfl, hb, hp⟩
      · omega
      rcases hp1.below hbw with h0 | ⟨b', o', hh, hb', hp1⟩
      · omega
      cases hh
      obtain ⟨s, hs, hsz⟩ := hp k hlt
      obtain ⟨s', hs', hsz'⟩ := hp1 k hlt
      clear q10 f10 q11 f11 q13 f13 hp hp1
      have hk0 : (0 : Int) ≤ (k : Int) := by omega
      have hs0 : wr.cell? ⟨b, o + k * 2, none⟩ = some (.string s) := hs
      clear hs
      go_wp2
      case' _ => go_region_held3 (fun w' => w'.cell? ⟨w.heap.size, 13, none⟩ = some (.slice (some ⟨b, o, none⟩) lp cp) ∧ w'.cell? ⟨b, o + k * 2, none⟩ = some (.string s) ∧ w'.cell? ⟨b, o + k * 2 + 1, none⟩ = some (.string s')) (go_keep) (first | (go_at_call 164; refine (room2d _ _ _ _ _).mono ?_; rintro e w2 ⟨⟨r', rfl⟩, rfl⟩))
      all_goals (try go_wp2)
      case roundEnd => exact ⟨⟨_, k + 1, by omega, rfl, by simp, (bel_alloc hbel _).drew⟩, by simp only [intOf]; omega⟩
      all_goals (go_ret; exact ⟨⟨_, rfl⟩, hbw⟩)
    · have hlt' : ¬ (k : Int) < (lp : Int) := by omega
      go_wp2
      all_goals (go_ret; exact ⟨⟨_, rfl⟩, hbw⟩)
end Go.Ev
