/-
  Two cursors over one tree, and rows of pairs that grow beside them.
-/
import Derived.Test.YtgfmhppkmogdhaaGreatDoorMGwRange
import Derived.Test.YtgfmhppkmogdhaaGreatDoorMGwGetLaw
set_option linter.unusedVariables false
set_option linter.unusedSimpArgs false
set_option linter.unusedVariables false
set_option linter.unusedSimpArgs false
namespace Go.Ev
open Go.Proofs Go.RowKit

theorem own_fresh (w : World) (q : Pair) : (w.alloc (.cells #[strV q.1, strV q.2] 44)).ownsRow w.heap.size 44 2 (.slice (some ⟨w.heap.size, 0, none⟩) 1 1) 1 (pairsCs [q]) :=
  ⟨rfl, .inr ⟨_, 1, _, rfl, Nat.le_refl _, heap_alloc_new w _, Nat.le_refl _, by unfold maxLen; omega, rfl, rfl⟩⟩

theorem own_nilcap {w : World} {base z n : Nat} {e : TypeId} {v : Value} {xs : List Value} (h : w.ownsRow base e z v n xs) : ∃ A c, v = .slice A n c ∧ (A = none → c = 0) ∧ Sl w z v n xs := by
  have hs := Sl.of_own h
  rcases h.2 with ⟨rfl, rfl⟩ | ⟨g, cap, cur, rfl, _⟩
  · exact ⟨none, 0, rfl, fun _ => rfl, hs⟩
  · exact ⟨_, cap, rfl, (fun e => by cases e), hs⟩

section
variable {p mst cnt B b : Nat} {c : Pc} {M : Store} {all : List Pair} {root : Int} {w w' W W0 W' w3 w4 : World} {o o' : Option Nat} {F G : Nat → Prop}

def curCs (p : Nat) (root : Int) : Array Value := #[ptrV p, .int .i64 root, .slice none 0 0, .slice none 0 0, .int .i64 0, .bool false, .int .i64 0]

theorem new_is (root : Int) (w : World) : Calls Tryz.prog 13 #[ptrV p, .int .i64 root] w fun e w' => e = .returned (ptrV w.heap.size) ∧ w.alloc (.cells (curCs p root) 99) = w' := by
  go_enter Tryz.func13, Tryz.ntmps13
  go_wp2_with (fail)
  go_ret
  exact ⟨rfl, rfl⟩

/-- A cursor just made. -/
theorem CSt.new (h : PgOk w p c mst M cnt) (hb : Blk w b 99 (curCs p root)) (hB : B ≤ b) (hF : ∀ k, F k → k < w.heap.size ∧ k ≠ b) (hc : ∀ j, c.S p j → j ≠ b) : CSt B F p b c mst cnt M root all none w := by
  refine ⟨h, Nat.le_trans hB (Nat.le_of_lt hb.lt), fun k hk => (hF k hk).1, ⟨b, .slice none 0 0, .slice none 0 0⟩, rfl, ⟨[], [], 0, hb, World.ownsRow_nil _ _ _ _, fun s hs => absurd hs (by simp), World.ownsRow_nil _ _ _ _, fun j hj => by cases hj⟩, ?_, ?_⟩
  · rintro j hj (rfl | hk)
    · exact hc _ hj rfl
    · cases hk
  · rintro k (rfl | hk)
    · exact ⟨hB, fun hf => (hF _ hf).2 rfl⟩
    · cases hk

/-- Another cursor's block is turned beside a cursor. -/
theorem CSt.beside {S : Nat → Prop} (h : CSt B F p b c mst cnt M root all o w) (hk : Keeps S w w') (hS : ∀ k, S k → k < w.heap.size → F k ∧ B ≤ k ∧ ∃ cs fr, w.heap[k]? = some (.cells cs 99 fr)) (hcB : ∀ k, c.S p k → k < B) : CSt B F p b c mst cnt M root all o w' := by
  obtain ⟨x, h1, h2, h3, h4⟩ := h.cur
  have hlt := h.pg.lt
  have key : ∀ {st items j on}, CurAt w p x root st items j on → CurAt w' p x root st items j on := fun {st items j on} hc => by
    refine hc.keeps hk ?_ ?_ ?_
    · intro k hx hs
      exact (h4 k hx).2 (hS k hs (hc.lt k hx)).1
    · intro s hm j hj hs
      have hO := (hc.kids s hm).1
      unfold OwnsC at hO
      obtain ⟨cur, hr⟩ := own_row hO j hj
      obtain ⟨_, _, cs, fr, hp⟩ := hS _ hs (hO.lt j hj).2
      rw [hr] at hp
      cases hp
    · intro j hj hs
      have hO := hc.its
      unfold OwnsI at hO
      obtain ⟨cur, hr⟩ := own_row hO j hj
      obtain ⟨_, _, cs, fr, hp⟩ := hS _ hs (hO.lt j hj).2
      rw [hr] at hp
      cases hp
  refine ⟨h.pg.keeps hk fun k hk1 hk2 => ?_, Nat.le_trans h.size hk.size, fun k hk' => Nat.lt_of_lt_of_le (h.old k hk') hk.size, x, h1, ?_, h3, h4⟩
  · have := hcB k hk1
    have := (hS k hk2 (hlt k hk1)).2.1
    omega
  · cases o with
    | some i => obtain ⟨st, its, lo, hi, ps, off, lid, j, hc, hr⟩ := h2; exact ⟨st, its, lo, hi, ps, off, lid, j, key hc, hr⟩
    | none => obtain ⟨st, its, j, hc⟩ := h2; exact ⟨st, its, j, key hc⟩

/-- A cursor that goes, and a row that is laid beside it: what was there at W0 is kept but the cursor's own. -/
structure WkI (B : Nat) (G : Nat → Prop) (W0 : World) (p b : Nat) (c : Pc) (mst cnt : Nat) (M : Store) (root : Int) (all : List Pair) (o : Option Nat) (n : Nat) (acc : List Pair) (v : Value) (W : World) : Prop where
  st : CSt B (fun k => G k ∨ v.ownBlock = some k) p b c mst cnt M root all o W
  own : W.ownsRow W0.heap.size 44 2 v n (pairsCs acc)
  kp : Keeps (Frm B G) W0 W
  le : B ≤ W0.heap.size

variable {n n' : Nat} {acc acc' : List Pair} {v v' : Value} {r : Option Nat}

theorem WkI.below (h : WkI B G W0 p b c mst cnt M root all o n acc v W) (hb : Below W.heap.size W W') : WkI B G W0 p b c mst cnt M root all o n acc v W' :=
  ⟨h.st.below hb, own_below h.own hb, h.kp.trans (Keeps.of_below (S := fun _ => False) hb) fun _ _ e => e.elim, h.le⟩

theorem WkI.row (h : WkI B G W0 p b c mst cnt M root all o n acc v W) (hcB : ∀ k, c.S p k → k < B) (hb : Below W.heap.size W w3) (hg : w3.grownBy w4 r) (hr : ∀ k, r = some k → v.ownBlock = some k ∨ W.heap.size ≤ k) (hat : ∀ k, v'.ownBlock = some k → v.ownBlock = some k ∨ W.heap.size ≤ k)
    (hown : w4.ownsRow W0.heap.size 44 2 v' n' (pairsCs acc')) : WkI B G W0 p b c mst cnt M root all o n' acc' v' w4 := by
  have hk : Keeps (fun k => v.ownBlock = some k) W w4 := (Keeps.of_below hb).grown hg fun k e hk => by
    rcases hr k e with e | e
    · exact e
    · omega
  have hle := h.le
  refine ⟨h.st.turnP hk (fun k e hl => ?_) (fun k e => ?_) hcB fun k hk' => ?_, hown, h.kp.trans hk fun i hi e => ?_, h.le⟩
  · obtain ⟨cur, hr⟩ := own_row h.own k e
    exact ⟨cur, _, hr⟩
  · have := (h.own.lt k e).1
    omega
  · rcases hk' with hk' | hk'
    · exact .inl (.inl hk')
    · rcases hat k hk' with e | e
      · exact .inl (.inr e)
      · exact .inr (.inr ⟨e, (hown.lt k hk').2⟩)
  · have := (h.own.lt i e).1
    omega

theorem WkI.go {e : Ending} (h : WkI B G W0 p b c mst cnt M root all o n acc v W) (hs : CStP B (fun k => G k ∨ v.ownBlock = some k) p b c mst cnt M root all o' W e W') : e = .returned (.bool o'.isSome) ∧ WkI B G W0 p b c mst cnt M root all o' n acc v W' := by
  obtain ⟨rfl, s1, s2⟩ := hs
  exact ⟨rfl, s1, own_keeps h.own s2 (fun k hk hf => hf.2 (.inr hk)), h.kp.trans s2 fun i hi e => ⟨e.1, fun g => e.2 (.inl g)⟩, h.le⟩
end
end Go.Ev
