/-
  An item whose chain is none. tree.walk.leaf: a leaf's keys are told, its chains are met.
-/
import Derived.Test.YtgfmhppkmogdhaaGreatDoorMBGvAny2
import Derived.Test.YtgfmhppkmogdhaaGreatDoorMBGwBeg2
import Derived.Test.YtgfmhppkmogdhaaGreatDoorMBGwKey
import Derived.Test.YtgfmhppkmogdhaaGreatDoorMBGvGrow
import Derived.Test.YtgfmhppkmogdhaaGreatDoorMBGwOver
import Derived.Test.YtgfmhppkmogdhaaGreatDoorMBGwLoad
import Derived.Test.YtgfmhppkmogdhaaGreatDoorMBGvCurs
set_option linter.unusedVariables false
set_option linter.unusedSimpArgs false
set_option linter.unusedVariables false
set_option linter.unusedSimpArgs false
namespace Go.Ev
open Go.Proofs Go.RowKit

section
variable {p : Nat} {c : Pc} {most cnt : Nat} {M : Store}

def NoChain (M : Store) (id : Int) : Prop := M id = none ∨ ∃ y, M id = some y ∧ y.kind ≠ 4

set_option maxHeartbeats 2000000 in
set_option maxRecDepth 100000 in
theorem walk_bad (id size : Int) (w : World) (h : PgOk w p c most M cnt) (hm : NoChain M id) (h1 : 61 ≤ size) (h2 : size ≤ 2000) :
    Calls Tryz.prog 196 #[ptrV p, .int .i64 id, .int .i64 size] w (ErrP [.slice none 0 0, strV []] w) := by
  have hnl : ¬ (size < 1) := by omega
  have hnm : ¬ (2000 < size) := by omega
  have HH := Lib.hid (And.intro h hm)
  clear h hm
  go_enter Tryz.func196, Tryz.ntmps196
  go_wp2
  go_loopg [9, 11] 0 (fun gk s9 s11 wr => s9 = .slice none 0 0 ∧ s11 = .int .i64 id ∧ Hid (Bd wr w.heap.size w.heap.size none []) ∧ Hid (Below w.heap.size w wr))
  case atStart => exact ⟨rfl, rfl, Bd.new w, (Below.refl _ _).alloc (Nat.le_refl _) _⟩
  case round =>
    obtain ⟨rfl, rfl, hB, hb⟩ := hrel
    have hz := hb.out.size
    rcases HH.out.2 with hmn | ⟨y, hmy, hyk⟩
    · have HRd := Lib.hid (read_none id wr (HH.out.1.below hb.out) hmn)
      go_wp2_with (fail)
      go_must (refine HRd.out.mono ?_)
      rintro e w1 ⟨k, hk, rfl, hb1⟩
      have hk2 : (k != 0) = true := by simpa using hk
      have HB := Lib.hid ((hb.out.trans (hb1.mono hz)).alloc (Nat.le_trans hz hb1.size) (.cells #[.int .i64 0, .int .i64 0, .string ⟨#[]⟩] 81))
      clear hb1
      simp only [pgZ]
      go_wp2_with (fail)
      refine bodyPost_ret (v := .tuple #[.slice none 0 0, strV [], .int .i64 k]) (by simp [results, Tryz.results196, go_sem]) rfl ?_
      exact ⟨k, hk, rfl, HB.out⟩
    · have HRd := Lib.hid (read_some id y wr (HH.out.1.below hb.out) hmy)
      obtain ⟨kind, next, body⟩ := y
      simp only at hyk HRd
      have hk4 : (kind != (4 : Int)) = true := by simpa using hyk
      clear hmy hyk
      go_wp2_with (fail)
      go_must (refine HRd.out.mono ?_)
      rintro e w1 ⟨rfl, hb1⟩
      have hB1 := Lib.hid ((hB.out.below hb1).alloc (.cells #[.int .i64 kind, .int .i64 next, strV body] 81))
      have bx1 : Blk (w1.alloc (.cells #[.int .i64 kind, .int .i64 next, strV body] 81)) w1.heap.size 81 #[.int .i64 kind, .int .i64 next, strV body] := Blk.new _ _ _
      have x0 : (w1.alloc (.cells #[.int .i64 kind, .int .i64 next, strV body] 81)).cell? ⟨w1.heap.size, 0, none⟩ = some (.int .i64 kind) := bx1.cell 0
      have HB := Lib.hid ((hb.out.trans (hb1.mono hz)).alloc (Nat.le_trans hz hb1.size) (.cells #[.int .i64 kind, .int .i64 next, strV body] 81))
      have hw0 : IntKind.i64.wrap (size - 0) = size := by rw [Int.sub_zero]; exact IntWalk.i64_in _ (by omega)
      clear hb1
      go_wp2_with (fail)
      go_must (refine (bd_len hB1.out).mono ?_)
      rintro e w2 ⟨rfl, rfl⟩
      go_wp2_with (fail)
      refine bodyPost_ret (v := .tuple #[.slice none 0 0, strV [], .int .i64 15]) (by simp [results, Tryz.results196, go_sem]) rfl ?_
      exact ⟨15, by decide, rfl, HB.out⟩

theorem overPages_bad (id size : Int) (w : World) (h : PgOk w p c most M cnt) (hm : NoChain M id) (h1 : 61 ≤ size) (h2 : size ≤ 2000) :
    Calls Tryz.prog 155 #[ptrV p, .int .i64 id, .int .i64 size] w (ErrP [.slice none 0 0] w) := by
  have HW := Lib.hid (walk_bad id size w h hm h1 h2)
  clear h hm
  go_enter Tryz.func155, Tryz.ntmps155
  go_wp2_with (fail)
  go_must (refine HW.out.mono ?_)
  rintro e w1 ⟨k, hk, rfl, hb⟩
  simp only [List.cons_append, List.nil_append]
  have HB := Lib.hid hb
  clear hb
  go_wp2_with (fail)
  go_ret2
  exact ⟨k, hk, rfl, HB.out⟩

variable {x : Wc} {made dropped : List Int}

set_option maxHeartbeats 2000000 in
set_option maxRecDepth 100000 in
theorem old_bad (A : Option Addr) (n cc : Nat) (l : List Item) (k : Bytes) (it : Item) (w : World) (h : WkOk w p x most M cnt made dropped) (hv : Sl w 4 (.slice A n cc) n (itemsCs l)) (hn : n ≤ 100000) (hr : riseI l = true) (hk : isAt k l = true) (hit : l[ahead k l]? = some it) (ho : it.over ≠ 0)
    (hM : NoChain M it.over) (hs1 : 61 ≤ it.size) (hs2 : it.size ≤ 2000) (hdl : dropped.length ≤ 100000) :
    Calls Tryz.prog 102 #[ptrV x.b, .slice A n cc, strV k] w fun e w' => ∃ k : Int, k ≠ 0 ∧ e = .returned (.int .i64 k) ∧ Keeps (fun j => j = x.b ∨ x.dv.ownBlock = some j) w w' := by
  obtain ⟨i0, hi, hz0, hz1, hz2⟩ := info_parts infoInt
  have hl := hv.len4
  subst hl
  have HF := Lib.hid (findI_any A l.length cc l k w hv hn hr)
  rw [hk] at HF
  have ho1 : (it.over == 0) = false := by simpa using ho
  have hlt := (List.getElem?_eq_some_iff.1 hit).1
  have hHV := Lib.hid (fun W (hb : Below w.heap.size w W) => hv.below hb)
  have HP := Lib.hid (fun W (hb : Below w.heap.size w W) => overPages_bad it.over it.size W (h.pg.below hb) hM hs1 hs2)
  have HH := Lib.hid h
  clear hv hr hk h hM ho
  go_enter Tryz.func102, Tryz.ntmps102
  go_wp2_with (fail)
  go_must (refine HF.out.mono ?_)
  rintro e w1 ⟨rfl, hb1⟩
  obtain ⟨_, _, e0, _, _, hcl⟩ := hHV.out w1 hb1
  cases e0
  obtain ⟨blk, off, rfl, hbl, hcell⟩ := hcl (by omega)
  obtain ⟨_, _, q2, q3⟩ := item_4 (w := w1) fun i u hu => item_cells (n := l.length) hcell hlt i u hu
  rw [List.getElem?_eq_getElem hlt, Option.some.injEq] at hit
  rw [hit] at q2 q3
  have hi0 : (0 : Int) ≤ (ahead k l : Int) := by omega
  have hil : (ahead k l : Int) < (l.length : Int) := by omega
  have g0 : w1.cell? ⟨x.b, 0, none⟩ = some (ptrV p) := (HH.out.below hb1).blk.cell 0
  have HP1 := Lib.hid (HP.out w1.drew hb1.drew)
  have HH1 := Lib.hid (HH.out.below hb1)
  have HB1 := Lib.hid hb1
  clear hcell hcl hit hb1
  go_wp2_with (fail)
  refine wp_region_any (by kernel_rfl) ?_
  change wpAny _ _ _ _ _ _ _ (World.drew _)
  try simp only [Act.put, lT, l0, lS]
  refine tA 0 ?_; try simp only [Act.put, lT, l0, lS]
  refine tA 1 ?_; try simp only [Act.put, lT, l0, lS]
  refine tA 2 ?_; try simp only [Act.put, lT, l0, lS]
  refine tA 4 ?_; try simp only [Act.put, lT, l0, lS]
  refine tA 5 ?_; try simp only [Act.put, lT, l0, lS]
  refine tA 6 ?_; try simp only [Act.put, lT, l0, lS]
  refine tA 7 ?_; try simp only [Act.put, lT, l0, lS]
  refine tA 9 ?_; try simp only [Act.put, lT, l0, lS]
  refine tA 10 ?_; try simp only [Act.put, lT, l0, lS]
  refine tA 11 ?_; try simp only [Act.put, lT, l0, lS]
  refine tA 12 ?_; try simp only [Act.put, lT, l0, lS]
  try simp only [Act.put, lT, l0, lS]
  refine rA 3 (v := ?_) (hy := ?hy) ?_; case hy => (intro w hE; have q0 := hE.cell g0; go_simp; try with_reducible rfl)
  try simp only [Act.put, lT, l0, lS]
  try simp only [Act.put, lT, l0, lS]
  refine rA 8 (v := ?_) (hy := ?hy) ?_; case hy => (intro w hE; have q0 := hE.cell q2; go_simp; try with_reducible rfl)
  try simp only [Act.put, lT, l0, lS]
  try simp only [Act.put, lT, l0, lS]
  refine rA 13 (v := ?_) (hy := ?hy) ?_; case hy => (intro w hE; have q0 := hE.cell q3; go_simp; try with_reducible rfl)
  try simp only [Act.put, lT, l0, lS]
  refine rd 14 (by kernel_rfl) rfl (fun K hK => ?_); go_simp
  (go_must (refine HP1.out.mono ?_); rintro e w2 ⟨k2, hk2, rfl, hb2⟩)
  simp only [List.cons_append, List.nil_append]
  have hW2 := (HH1.out.drew).below hb2
  have g2 : w2.cell? ⟨x.b, 2, none⟩ = some x.dv := hW2.blk.cell 2
  have HW2 := Lib.hid hW2
  have HBB := Lib.hid (HB1.out.drew.trans (hb2.mono HB1.out.size))
  clear hW2 hb2
  go_simp
  refine hK _ _ ?_
  clear hK K
  refine rd 15 (by kernel_rfl) rfl (fun K hK => ?_); go_simp; refine hK _ _ ?_; clear hK K
  try simp only [Act.put, lT, l0, lS]
  refine tA 16 ?_; try simp only [Act.put, lT, l0, lS]
  refine tA 17 ?_; try simp only [Act.put, lT, l0, lS]
  refine rd 18 (by kernel_rfl) rfl (fun K hK => ?_); go_simp; refine hK _ _ ?_; clear hK K
  refine rd 19 (by kernel_rfl) rfl (fun K hK => ?_); go_simp; refine hK _ _ ?_; clear hK K
  refine wpAny_done (by kernel_rfl) ?_ _
  go_wp2_with (at_builtin; go_must (refine wpList_append_sl rfl _ _ 89 rfl 0 3 i0 _ 1 8 Tryz.underlying89 hi hz0 hz1 hz2 rfl (by decide) _ dropped.length (intsV dropped) rfl HW2.out.dr none 0 0 [] rfl (Sl.nil ..) (fun _ => rfl) (fun u hu => by cases hu) (by unfold maxLen; omega) (by omega) (by omega) ?_))
  intro v4 w4 own4 hg4
  have K4 : Keeps (fun j => x.dv.ownBlock = some j) w2 w4 := (Keeps.refl _ w2).grown hg4 fun j e _ => e
  have b4 := HW2.out.blk.keeps K4 (fun e => own_ne HW2.out.dr HW2.out.blk (by decide) _ e rfl)
  have z1 : w4.cell? ⟨x.b, 2, none⟩ = some x.dv := b4.cell 2
  have z2 : w4.frozen? ⟨x.b, 2, none⟩ = false := b4.frozen 2
  have HE : Hid (Keeps (fun j => j = x.b ∨ x.dv.ownBlock = some j) w (w4.setCell ⟨x.b, 2, none⟩ v4)) :=
    ((Keeps.of_below HBB.out).trans (K4.mono fun j _ e => .inr e) fun j _ e => e).setCell (p := ⟨x.b, 2, none⟩) (fun _ => .inl rfl) _
  obtain ⟨A4, c4, rfl, -⟩ := Sl.of_own own4
  clear own4 hg4 K4 b4
  go_wp2_with (fail)
  go_ret
  exact ⟨k2, hk2, rfl, HE.out⟩
end
end Go.Ev

set_option linter.unusedVariables false
set_option linter.unusedSimpArgs false
namespace Go.Ev
open Go.Proofs Go.RowKit

section
variable {w w' : World} {p b sb cc most cnt : Nat} {c : Pc} {M : Store} {iv : Value} {ids : List Int} {l : List Ent} {ht ks : Int}

/-- A walk has met pages, from W on. -/
structure SeeK (p b sb : Nat) (iv : Value) (ids : List Int) (ht ks : Int) (w w' : World) : Prop where
  ex : ∃ iv' l' cc', SeeAt w' p b sb iv' ids l' cc' ht ks ∧ ∀ k, iv'.ownBlock = some k → iv.ownBlock = some k ∨ w.heap.size ≤ k
  keeps : Keeps (SeeS b sb iv) w w'

theorem SeeK.below {w3 : World} (h : SeeK p b sb iv ids ht ks w w') (hb : Below w'.heap.size w' w3) : SeeK p b sb iv ids ht ks w w3 := by
  obtain ⟨iv', l', cc', h1, h2⟩ := h.ex
  exact ⟨⟨iv', l', cc', h1.below hb, h2⟩, h.keeps.trans (Keeps.of_below (S := fun _ => False) hb) fun _ _ h => h.elim⟩

/-- A slice of pages that was made behind is met. -/
theorem SeeK.see {w1 w2 : World} {new : List Int} {A : Option Addr} {n d : Nat} (h : SeeK p b sb iv ids ht ks w w1) (hb : Below w1.heap.size w1 w2) (hlt : ∀ k, SeeS b sb iv k → k < w.heap.size) (hsl : Sl w2 1 (.slice A n d) n (intsV new)) (hA : ∀ g o, A = some ⟨g, o, none⟩ → w1.heap.size ≤ g) (hnd : new.Nodup) (hdis : ∀ j ∈ new, j ∉ ids) (hn : ids.length + new.length ≤ 100000) :
    Calls Tryz.prog 215 #[ptrV b, .slice A n d] w2 fun e w3 => e = .returned (.bool true) ∧ SeeK p b sb iv (ids ++ new) ht ks w w3 := by
  obtain ⟨iv', l', cc', h1, h2⟩ := h.ex
  have hz := h.keeps.size
  refine (see_ok A n d new (h1.below hb) hsl (fun g o e hs => ?_) hnd hdis hn).mono ?_
  · have q1 := hA g o e
    have q2 := h1.lt g hs
    omega
  · rintro e w3 ⟨he, iv2, l2, cc2, h3, h4, h5⟩
    refine ⟨he, ⟨iv2, l2, cc2, h3, fun k hk => ?_⟩, (h.keeps.trans (Keeps.of_below (S := fun _ => False) hb) fun _ _ h => h.elim).trans h4 fun i hi e => ?_⟩
    · rcases h5 k hk with e | e
      · exact h2 k e
      · have := hb.size; exact .inr (by omega)
    · rcases e with e | e | e
      · exact .inl e
      · exact .inr (.inl e)
      · rcases h2 i e with e | e
        · exact .inr (.inr e)
        · omega

/-- The walk's height, and its keys, turned. -/
theorem SeeK.setH {w1 : World} (h : SeeK p b sb iv ids ht ks w w1) (ht' : Int) : SeeK p b sb iv ids ht' ks w (w1.setCell ⟨b, 3, none⟩ (.int .i64 ht')) := by
  obtain ⟨iv', l', cc', h1, h2⟩ := h.ex
  have K : Keeps (fun k => k = b) w1 (w1.setCell ⟨b, 3, none⟩ (.int .i64 ht')) := (Keeps.refl (fun k => k = b) w1).setCell (p := ⟨b, 3, none⟩) (fun _ => rfl) _
  exact ⟨⟨iv', l', cc', ⟨h1.blk.set 3 _, own_keeps h1.row K (own_ne h1.row h1.blk (by decide)), h1.map.keeps K (h1.map.ne h1.blk), h1.mem⟩, h2⟩, h.keeps.trans K fun i hi e => .inl e⟩
theorem SeeK.setN {w1 : World} (h : SeeK p b sb iv ids ht ks w w1) (ks' : Int) : SeeK p b sb iv ids ht ks' w (w1.setCell ⟨b, 4, none⟩ (.int .i64 ks')) := by
  obtain ⟨iv', l', cc', h1, h2⟩ := h.ex
  have K : Keeps (fun k => k = b) w1 (w1.setCell ⟨b, 4, none⟩ (.int .i64 ks')) := (Keeps.refl (fun k => k = b) w1).setCell (p := ⟨b, 4, none⟩) (fun _ => rfl) _
  exact ⟨⟨iv', l', cc', ⟨h1.blk.set 4 _, own_keeps h1.row K (own_ne h1.row h1.blk (by decide)), h1.map.keeps K (h1.map.ne h1.blk), h1.mem⟩, h2⟩, h.keeps.trans K fun i hi e => .inl e⟩
theorem SeeK.cells {w1 : World} (h : SeeK p b sb iv ids ht ks w w1) : w1.cell? ⟨b, 0, none⟩ = some (ptrV p) ∧ w1.cell? ⟨b, 3, none⟩ = some (.int .i64 ht) ∧ w1.cell? ⟨b, 4, none⟩ = some (.int .i64 ks) ∧ w1.frozen? ⟨b, 3, none⟩ = false ∧ w1.frozen? ⟨b, 4, none⟩ = false ∧ b < w1.heap.size := by
  obtain ⟨iv', l', cc', h1, h2⟩ := h.ex
  exact ⟨h1.blk.cell 0, h1.blk.cell 3, h1.blk.cell 4, h1.blk.frozen 3, h1.blk.frozen 4, h1.blk.lt⟩

/-- From here on. -/
theorem SeeAt.k (h : SeeAt w p b sb iv ids l cc ht ks) : SeeK p b sb iv ids ht ks w w := ⟨⟨iv, l, cc, h, fun k hk => .inl hk⟩, Keeps.refl _ _⟩

set_option maxHeartbeats 8000000 in
set_option maxRecDepth 100000 in
theorem seeLeaf_ok (A : Option Addr) (n d : Nat) (items : List Item) (ps : List Pair) (ci : List Int) (lo hi' : Bytes) (below : Nat) (h : SeeAt w p b sb iv ids l cc ht ks) (hp : PgOk w p c most M cnt) (hdj : ∀ k, c.S p k → ¬ SeeS b sb iv k) (hsl : Sl w 4 (.slice A n d) n (itemsCs items)) (hA : ∀ g o, A = some ⟨g, o, none⟩ → ¬ SeeS b sb iv g) (hn : n ≤ 1000)
    (hla : LeafAt M items ps ci) (hvs : ∀ q ∈ ps, q.2.length ≤ 2000) (hnd : (ids ++ ci).Nodup) (hids : (ids ++ ci).length ≤ 100000) (hkeys : ∀ x ∈ items, lessB x.key lo = false ∧ (hi' = [] ∨ lessB x.key hi' = true)) (hh : ht = 0 ∨ ht = (below : Int) + 1) (hb : below ≤ 1000) (hks0 : 0 ≤ ks) (hks1 : ks ≤ 100000) :
    Calls Tryz.prog 216 #[ptrV b, .slice A n d, strV lo, strV hi', .int .i64 (below : Int)] w fun e w' => e = .returned (.int .i64 0) ∧ SeeK p b sb iv (ids ++ ci) ((below : Int) + 1) (ks + (items.length : Int)) w w' := by
  have hl := hsl.len4
  subst hl
  have HH := Lib.hid (And.intro hp (And.intro hsl (And.intro hA (And.intro hla (And.intro hvs (And.intro (And.intro hnd hids) (And.intro hkeys (fun k hk e => hdj k hk e))))))))
  obtain ⟨c0, c3, c4, f3, f4, hbl⟩ := h.k.cells
  have hwb : IntKind.i64.wrap ((below : Int) + 1) = (below : Int) + 1 := IntWalk.i64_in _ (by omega)
  have hwk : IntKind.i64.wrap (ks + (items.length : Int)) = ks + (items.length : Int) := IntWalk.i64_in _ (by omega)
  have h0lt := h.lt
  clear hla hvs hnd hids hkeys hdj
  by_cases h0 : ht = 0
  · subst h0
    have hS1 := h.k.setH ((below : Int) + 1)
    obtain ⟨_, g3, g4, _, f4', _⟩ := hS1.cells
    have HN := Lib.hid (hS1.setN (ks + (items.length : Int)))
    have hne : (((below : Int) + 1) != ((below : Int) + 1)) = false := by simp
    clear hS1
    go_enter Tryz.func216, Tryz.ntmps216
    clear h hp hsl hA
    go_wp2_with (fail)
    go_loopg [43] items.length (fun gk s43 wr => ∃ (i : Nat) (done rest : List Int) (psr : List Pair), s43 = .int .i64 (i : Int) ∧ i + gk = items.length ∧ Hid (ci = done ++ rest ∧ LeafAt M (items.drop i) psr rest ∧ (∀ q ∈ psr, q.2.length ≤ 2000) ∧ SeeK p b sb iv (ids ++ done) ((below : Int) + 1) (ks + (items.length : Int)) w wr))
    case atStart => exact ⟨0, [], ci, ps, rfl, by omega, rfl, HH.out.2.2.2.1, HH.out.2.2.2.2.1, by simpa using HN.out⟩
    case round =>
      obtain ⟨i, done, rest, psr, rfl, hi, hI⟩ := hrel
      by_cases hlt : i < items.length
      · obtain ⟨hci, hla, hvs, hS⟩ := hI.out
        obtain ⟨hp, hsl, hA, _, _, hcn, hkeys, hdj⟩ := HH.out
        rw [List.drop_eq_getElem_cons hlt] at hla
        obtain ⟨v, ps', i1, i2, rfl, rfl, hval, hla'⟩ := hla
        have hsv : v.length ≤ 2000 := hvs _ (List.mem_cons_self ..)
        have hvs' : ∀ q ∈ ps', q.2.length ≤ 2000 := fun q hq => hvs q (List.mem_cons_of_mem _ hq)
        obtain ⟨hk1, hk2⟩ := hkeys _ (List.getElem_mem hlt)
        have hsl' := hsl.keeps hS.keeps (fun A' m d' g o e1 e2 => hA g o (by cases e1; exact e2))
        obtain ⟨_, _, e0, _, _, hcl⟩ := hsl'
        cases e0
        obtain ⟨blk, o, rfl, hbl, hcell⟩ := hcl (by omega)
        obtain ⟨x0, x2, x1, x3⟩ := item_4 (w := wr) fun j u hu => item_cells (n := items.length) hcell hlt j u hu
        have hp1 := hp.keeps hS.keeps (fun k hk => hdj k hk)
        have hnd2 : i1.Nodup ∧ (∀ j ∈ i1, j ∉ ids ++ done) ∧ (ids ++ done).length + i1.length ≤ 100000 := by
          rw [hci] at hcn
          obtain ⟨h1, h2⟩ := hcn
          simp only [List.nodup_append, List.mem_append, List.length_append] at h1 h2 ⊢
          refine ⟨h1.2.1.2.1.1, fun j hj hm => ?_, by omega⟩
          rcases hm with hm | hm
          · exact h1.2.2 j hm j (.inr (.inl hj)) rfl
          · exact h1.2.1.2.2 j hm j (.inl hj) rfl
        have HT := Lib.hid (And.intro hci (And.intro hla' (And.intro hvs' (And.intro hS (And.intro hp1 hnd2)))))
        have hi0 : (0 : Int) ≤ (i : Int) := by omega
        have hlt' : (i : Int) < (items.length : Int) := by omega
        have hw1 : IntKind.i64.wrap ((i : Int) + 1) = (i : Int) + 1 := IntWalk.i64_in _ (by omega)
        have hids := val_len hval hsv
        have HV := Lib.hid hval
        clear hci hla' hvs hvs' hS hp hp1 hnd2 hsl hA hcn hkeys hdj hcl hcell hval
        generalize items[i] = it at *
        obtain ⟨ik, iv0, io, isz⟩ := it
        simp only at x0 x1 x2 x3 hk1 hk2
        obtain ⟨Wx, hWx⟩ : ∃ Wx, Wx = wr.alloc (.cells #[strV ik, strV iv0, .int .i64 io, .int .i64 isz] 107) := ⟨_, rfl⟩
        have hbx : Below wr.heap.size wr Wx := by rw [hWx]; exact (Below.refl _ _).alloc (Nat.le_refl _) _
        have bit : Blk Wx wr.heap.size 107 #[strV ik, strV iv0, .int .i64 io, .int .i64 isz] := by rw [hWx]; exact Blk.new _ _ _
        have t0 : (wr.alloc (.cells #[strV ik, strV iv0, .int .i64 io, .int .i64 isz] 107)).cell? ⟨wr.heap.size, 0, none⟩ = some (strV ik) := by rw [← hWx]; exact bit.cell 0
        have t2 : (wr.alloc (.cells #[strV ik, strV iv0, .int .i64 io, .int .i64 isz] 107)).cell? ⟨wr.heap.size, 2, none⟩ = some (.int .i64 io) := by rw [← hWx]; exact bit.cell 2
        have t3 : (wr.alloc (.cells #[strV ik, strV iv0, .int .i64 io, .int .i64 isz] 107)).cell? ⟨wr.heap.size, 3, none⟩ = some (.int .i64 isz) := by rw [← hWx]; exact bit.cell 3
        have d0 : (wr.alloc (.cells #[strV ik, strV iv0, .int .i64 io, .int .i64 isz] 107)).cell? ⟨b, 0, none⟩ = some (ptrV p) := by rw [← hWx]; exact (HT.out.2.2.2.1.below hbx).cells.1
        have HBx := Lib.hid hbx
        have HWx := Lib.hid hWx
        clear bit hbx hWx
        have hkey2 : (hi' == ([] : Bytes)) = true ∨ ((hi' == ([] : Bytes)) = false ∧ Op.bytesLess ik hi' = true) := by
          rcases hk2 with e | e
          · exact .inl (by simpa using e)
          · by_cases e2 : hi' = []
            · exact .inl (by simpa using e2)
            · exact .inr ⟨by simpa using e2, e⟩
        have hk1' : Op.bytesLess ik lo = false := hk1
        clear hk1 hk2
        rcases hkey2 with hz | ⟨hz1, hz2⟩
        · by_cases hio : io = 0
          · subst hio
            have hR : ci = (done ++ i1) ++ i2 ∧ LeafAt M (items.drop (i + 1)) ps' i2 ∧ (∀ q ∈ ps', q.2.length ≤ 2000) ∧ SeeK p b sb iv (ids ++ (done ++ i1)) ((below : Int) + 1) (ks + (items.length : Int)) w (wr.alloc (.cells #[strV ik, strV iv0, .int .i64 0, .int .i64 isz] 107)) := by
              obtain ⟨a1, a2, a3, a4, _⟩ := HT.out
              obtain ⟨_, _, rfl⟩ | ⟨h, _⟩ := HV.out
              · exact ⟨by rw [a1]; simp, a2, a3, by rw [List.append_nil]; rw [← HWx.out]; exact a4.below HBx.out⟩
              · exact absurd rfl h
            have HR := Lib.hid hR
            clear hR
            go_wp2_with (fail)
            go_roundg (gk - 1)
            case measure => omega
            case rel => exact ⟨i + 1, done ++ i1, i2, ps', by simp, by omega, HR.out⟩
          · obtain ⟨vl, hvl⟩ : ∃ m, v.length = m := ⟨_, rfl⟩
            have hisz : isz = (vl : Int) := by
              obtain ⟨h, _⟩ | ⟨_, _, h⟩ := HV.out
              · exact absurd h hio
              · have h2 : (v.length : Int) = isz := h
                omega
            subst hisz
            have hio' : (io == 0) = false := by simpa using hio
            have HPg : Hid (∀ W, Below wr.heap.size wr W → Calls Tryz.prog 155 #[ptrV p, .int .i64 io, .int .i64 (vl : Int)] W fun e w' => ∃ r, e = .returned (.tuple #[r, .int .i64 0]) ∧ w'.ownsRow W.heap.size 3 1 r i1.length (intsV i1) ∧ Below W.heap.size W w') := fun W hW => by
              obtain ⟨h, _⟩ | ⟨_, h, _⟩ := HV.out
              · exact absurd h hio
              · have := overPages_ok io v i1 W (HT.out.2.2.2.2.1.below hW) h hsv (by omega)
                rw [hvl] at this
                exact this
            clear hvl hio
            go_wp2_with (fail)
            refine wp_region_any (by kernel_rfl) ?_
            change wpAny _ _ _ _ _ _ _ (World.drew _)
            try simp only [Act.put, lT, l0, lS]
            refine tA 0 ?_; try simp only [Act.put, lT, l0, lS]
            refine tA 1 ?_; try simp only [Act.put, lT, l0, lS]
            refine tA 2 ?_; try simp only [Act.put, lT, l0, lS]
            refine tA 4 ?_; try simp only [Act.put, lT, l0, lS]
            refine tA 6 ?_; try simp only [Act.put, lT, l0, lS]
            try simp only [Act.put, lT, l0, lS]
            refine rA 3 (v := ?_) (hy := ?hy) ?_; case hy => (intro w hE; have q0 := hE.cell d0; go_simp; try with_reducible rfl)
            try simp only [Act.put, lT, l0, lS]
            try simp only [Act.put, lT, l0, lS]
            refine rA 5 (v := ?_) (hy := ?hy) ?_; case hy => (intro w hE; have q0 := hE.cell t2; go_simp; try with_reducible rfl)
            try simp only [Act.put, lT, l0, lS]
            try simp only [Act.put, lT, l0, lS]
            refine rA 7 (v := ?_) (hy := ?hy) ?_; case hy => (intro w hE; have q0 := hE.cell t3; go_simp; try with_reducible rfl)
            try simp only [Act.put, lT, l0, lS]
            refine rd 8 (by kernel_rfl) rfl (fun K hK => ?_); go_simp
            (go_at_call 155; go_must (refine (HPg.out _ (by rw [← HWx.out]; exact HBx.out.drew)).mono ?_); rintro e w2 ⟨r, rfl, hown2, hb2⟩)
            obtain ⟨A2, c2, rfl, _⟩ := Sl.of_own hown2
            go_simp
            refine hK _ _ ?_
            clear hK K
            try simp only [Act.put, lT, l0, lS]
            refine tA 9 ?_; try simp only [Act.put, lT, l0, lS]
            refine tA 10 ?_; try simp only [Act.put, lT, l0, lS]
            refine tA 11 ?_; try simp only [Act.put, lT, l0, lS]
            refine tA 12 ?_; try simp only [Act.put, lT, l0, lS]
            refine tA 13 ?_; try simp only [Act.put, lT, l0, lS]
            refine wpAny_done (by kernel_rfl) ?_ _
            obtain ⟨a1, a2, a3, a4, a5, a6, a7, a8⟩ := HT.out
            have hbw2 : Below wr.heap.size wr w2 := by
              have h1 := HBx.out.drew
              rw [HWx.out] at h1
              exact h1.trans (hb2.mono (by simp))
            have HSee := Lib.hid (a4.see (new := i1) hbw2 (fun k hk => h0lt k hk) (Sl.of_own hown2) (fun g o e => by
              subst e
              have := (hown2.lt g rfl).1
              simp at this
              omega) a6 a7 a8)
            have HCi := Lib.hid (And.intro a1 (And.intro a2 a3))
            clear a1 a2 a3 a4 a5 a6 a7 a8 hbw2 hown2 hb2
            go_wp2_with (fail)
            go_must (refine HSee.out.mono ?_)
            rintro e w3 ⟨rfl, hS3⟩
            have HS3 := Lib.hid hS3
            clear hS3
            go_wp2_with (fail)
            go_roundg (gk - 1)
            case measure => omega
            case rel => exact ⟨i + 1, done ++ i1, i2, ps', by simp, by omega, by rw [HCi.out.1]; simp, HCi.out.2.1, HCi.out.2.2, by rw [← List.append_assoc]; exact HS3.out⟩
        · by_cases hio : io = 0
          · subst hio
            have hR : ci = (done ++ i1) ++ i2 ∧ LeafAt M (items.drop (i + 1)) ps' i2 ∧ (∀ q ∈ ps', q.2.length ≤ 2000) ∧ SeeK p b sb iv (ids ++ (done ++ i1)) ((below : Int) + 1) (ks + (items.length : Int)) w (wr.alloc (.cells #[strV ik, strV iv0, .int .i64 0, .int .i64 isz] 107)) := by
              obtain ⟨a1, a2, a3, a4, _⟩ := HT.out
              obtain ⟨_, _, rfl⟩ | ⟨h, _⟩ := HV.out
              · exact ⟨by rw [a1]; simp, a2, a3, by rw [List.append_nil]; rw [← HWx.out]; exact a4.below HBx.out⟩
              · exact absurd rfl h
            have HR := Lib.hid hR
            clear hR
            go_wp2_with (fail)
            go_roundg (gk - 1)
            case measure => omega
            case rel => exact ⟨i + 1, done ++ i1, i2, ps', by simp, by omega, HR.out⟩
          · obtain ⟨vl, hvl⟩ : ∃ m, v.length = m := ⟨_, rfl⟩
            have hisz : isz = (vl : Int) := by
              obtain ⟨h, _⟩ | ⟨_, _, h⟩ := HV.out
              · exact absurd h hio
              · have h2 : (v.length : Int) = isz := h
                omega
            subst hisz
            have hio' : (io == 0) = false := by simpa using hio
            have HPg : Hid (∀ W, Below wr.heap.size wr W → Calls Tryz.prog 155 #[ptrV p, .int .i64 io, .int .i64 (vl : Int)] W fun e w' => ∃ r, e = .returned (.tuple #[r, .int .i64 0]) ∧ w'.ownsRow W.heap.size 3 1 r i1.length (intsV i1) ∧ Below W.heap.size W w') := fun W hW => by
              obtain ⟨h, _⟩ | ⟨_, h, _⟩ := HV.out
              · exact absurd h hio
              · have := overPages_ok io v i1 W (HT.out.2.2.2.2.1.below hW) h hsv (by omega)
                rw [hvl] at this
                exact this
            clear hvl hio
            go_wp2_with (fail)
            refine wp_region_any (by kernel_rfl) ?_
            change wpAny _ _ _ _ _ _ _ (World.drew _)
            try simp only [Act.put, lT, l0, lS]
            refine tA 0 ?_; try simp only [Act.put, lT, l0, lS]
            refine tA 1 ?_; try simp only [Act.put, lT, l0, lS]
            refine tA 2 ?_; try simp only [Act.put, lT, l0, lS]
            refine tA 4 ?_; try simp only [Act.put, lT, l0, lS]
            refine tA 6 ?_; try simp only [Act.put, lT, l0, lS]
            try simp only [Act.put, lT, l0, lS]
            refine rA 3 (v := ?_) (hy := ?hy) ?_; case hy => (intro w hE; have q0 := hE.cell d0; go_simp; try with_reducible rfl)
            try simp only [Act.put, lT, l0, lS]
            try simp only [Act.put, lT, l0, lS]
            refine rA 5 (v := ?_) (hy := ?hy) ?_; case hy => (intro w hE; have q0 := hE.cell t2; go_simp; try with_reducible rfl)
            try simp only [Act.put, lT, l0, lS]
            try simp only [Act.put, lT, l0, lS]
            refine rA 7 (v := ?_) (hy := ?hy) ?_; case hy => (intro w hE; have q0 := hE.cell t3; go_simp; try with_reducible rfl)
            try simp only [Act.put, lT, l0, lS]
            refine rd 8 (by kernel_rfl) rfl (fun K hK => ?_); go_simp
            (go_at_call 155; go_must (refine (HPg.out _ (by rw [← HWx.out]; exact HBx.out.drew)).mono ?_); rintro e w2 ⟨r, rfl, hown2, hb2⟩)
            obtain ⟨A2, c2, rfl, _⟩ := Sl.of_own hown2
            go_simp
            refine hK _ _ ?_
            clear hK K
            try simp only [Act.put, lT, l0, lS]
            refine tA 9 ?_; try simp only [Act.put, lT, l0, lS]
            refine tA 10 ?_; try simp only [Act.put, lT, l0, lS]
            refine tA 11 ?_; try simp only [Act.put, lT, l0, lS]
            refine tA 12 ?_; try simp only [Act.put, lT, l0, lS]
            refine tA 13 ?_; try simp only [Act.put, lT, l0, lS]
            refine wpAny_done (by kernel_rfl) ?_ _
            obtain ⟨a1, a2, a3, a4, a5, a6, a7, a8⟩ := HT.out
            have hbw2 : Below wr.heap.size wr w2 := by
              have h1 := HBx.out.drew
              rw [HWx.out] at h1
              exact h1.trans (hb2.mono (by simp))
            have HSee := Lib.hid (a4.see (new := i1) hbw2 (fun k hk => h0lt k hk) (Sl.of_own hown2) (fun g o e => by
              subst e
              have := (hown2.lt g rfl).1
              simp at this
              omega) a6 a7 a8)
            have HCi := Lib.hid (And.intro a1 (And.intro a2 a3))
            clear a1 a2 a3 a4 a5 a6 a7 a8 hbw2 hown2 hb2
            go_wp2_with (fail)
            go_must (refine HSee.out.mono ?_)
            rintro e w3 ⟨rfl, hS3⟩
            have HS3 := Lib.hid hS3
            clear hS3
            go_wp2_with (fail)
            go_roundg (gk - 1)
            case measure => omega
            case rel => exact ⟨i + 1, done ++ i1, i2, ps', by simp, by omega, by rw [HCi.out.1]; simp, HCi.out.2.1, HCi.out.2.2, by rw [← List.append_assoc]; exact HS3.out⟩
      · have hii : i = items.length := by omega
        have HE : Hid (SeeK p b sb iv (ids ++ ci) ((below : Int) + 1) (ks + (items.length : Int)) w wr) := by
          obtain ⟨hci, hla, _, hS⟩ := hI.out
          rw [hii, List.drop_length] at hla
          obtain ⟨_, rfl⟩ := hla
          rw [List.append_nil] at hci
          rw [hci]
          exact hS
        have hlt' : ¬ (i : Int) < (items.length : Int) := by omega
        clear hlt hI
        go_wp2_with (fail)
        go_ret
        exact ⟨rfl, HE.out⟩
  · obtain rfl := hh.resolve_left h0
    have h0' : (((below : Int) + 1) == 0) = false := by simpa using h0
    have HN := Lib.hid (h.k.setN (ks + (items.length : Int)))
    go_enter Tryz.func216, Tryz.ntmps216
    clear h hp hsl hA
    go_wp2_with (fail)
    go_loopg [43] items.length (fun gk s43 wr => ∃ (i : Nat) (done rest : List Int) (psr : List Pair), s43 = .int .i64 (i : Int) ∧ i + gk = items.length ∧ Hid (ci = done ++ rest ∧ LeafAt M (items.drop i) psr rest ∧ (∀ q ∈ psr, q.2.length ≤ 2000) ∧ SeeK p b sb iv (ids ++ done) ((below : Int) + 1) (ks + (items.length : Int)) w wr))
    case atStart => exact ⟨0, [], ci, ps, rfl, by omega, rfl, HH.out.2.2.2.1, HH.out.2.2.2.2.1, by simpa using HN.out⟩
    case round =>
      obtain ⟨i, done, rest, psr, rfl, hi, hI⟩ := hrel
      by_cases hlt : i < items.length
      · obtain ⟨hci, hla, hvs, hS⟩ := hI.out
        obtain ⟨hp, hsl, hA, _, _, hcn, hkeys, hdj⟩ := HH.out
        rw [List.drop_eq_getElem_cons hlt] at hla
        obtain ⟨v, ps', i1, i2, rfl, rfl, hval, hla'⟩ := hla
        have hsv : v.length ≤ 2000 := hvs _ (List.mem_cons_self ..)
        have hvs' : ∀ q ∈ ps', q.2.length ≤ 2000 := fun q hq => hvs q (List.mem_cons_of_mem _ hq)
        obtain ⟨hk1, hk2⟩ := hkeys _ (List.getElem_mem hlt)
        have hsl' := hsl.keeps hS.keeps (fun A' m d' g o e1 e2 => hA g o (by cases e1; exact e2))
        obtain ⟨_, _, e0, _, _, hcl⟩ := hsl'
        cases e0
        obtain ⟨blk, o, rfl, hbl, hcell⟩ := hcl (by omega)
        obtain ⟨x0, x2, x1, x3⟩ := item_4 (w := wr) fun j u hu => item_cells (n := items.length) hcell hlt j u hu
        have hp1 := hp.keeps hS.keeps (fun k hk => hdj k hk)
        have hnd2 : i1.Nodup ∧ (∀ j ∈ i1, j ∉ ids ++ done) ∧ (ids ++ done).length + i1.length ≤ 100000 := by
          rw [hci] at hcn
          obtain ⟨h1, h2⟩ := hcn
          simp only [List.nodup_append, List.mem_append, List.length_append] at h1 h2 ⊢
          refine ⟨h1.2.1.2.1.1, fun j hj hm => ?_, by omega⟩
          rcases hm with hm | hm
          · exact h1.2.2 j hm j (.inr (.inl hj)) rfl
          · exact h1.2.1.2.2 j hm j (.inl hj) rfl
        have HT := Lib.hid (And.intro hci (And.intro hla' (And.intro hvs' (And.intro hS (And.intro hp1 hnd2)))))
        have hi0 : (0 : Int) ≤ (i : Int) := by omega
        have hlt' : (i : Int) < (items.length : Int) := by omega
        have hw1 : IntKind.i64.wrap ((i : Int) + 1) = (i : Int) + 1 := IntWalk.i64_in _ (by omega)
        have hids := val_len hval hsv
        have HV := Lib.hid hval
        clear hci hla' hvs hvs' hS hp hp1 hnd2 hsl hA hcn hkeys hdj hcl hcell hval
        generalize items[i] = it at *
        obtain ⟨ik, iv0, io, isz⟩ := it
        simp only at x0 x1 x2 x3 hk1 hk2
        obtain ⟨Wx, hWx⟩ : ∃ Wx, Wx = wr.alloc (.cells #[strV ik, strV iv0, .int .i64 io, .int .i64 isz] 107) := ⟨_, rfl⟩
        have hbx : Below wr.heap.size wr Wx := by rw [hWx]; exact (Below.refl _ _).alloc (Nat.le_refl _) _
        have bit : Blk Wx wr.heap.size 107 #[strV ik, strV iv0, .int .i64 io, .int .i64 isz] := by rw [hWx]; exact Blk.new _ _ _
        have t0 : (wr.alloc (.cells #[strV ik, strV iv0, .int .i64 io, .int .i64 isz] 107)).cell? ⟨wr.heap.size, 0, none⟩ = some (strV ik) := by rw [← hWx]; exact bit.cell 0
        have t2 : (wr.alloc (.cells #[strV ik, strV iv0, .int .i64 io, .int .i64 isz] 107)).cell? ⟨wr.heap.size, 2, none⟩ = some (.int .i64 io) := by rw [← hWx]; exact bit.cell 2
        have t3 : (wr.alloc (.cells #[strV ik, strV iv0, .int .i64 io, .int .i64 isz] 107)).cell? ⟨wr.heap.size, 3, none⟩ = some (.int .i64 isz) := by rw [← hWx]; exact bit.cell 3
        have d0 : (wr.alloc (.cells #[strV ik, strV iv0, .int .i64 io, .int .i64 isz] 107)).cell? ⟨b, 0, none⟩ = some (ptrV p) := by rw [← hWx]; exact (HT.out.2.2.2.1.below hbx).cells.1
        have HBx := Lib.hid hbx
        have HWx := Lib.hid hWx
        clear bit hbx hWx
        have hkey2 : (hi' == ([] : Bytes)) = true ∨ ((hi' == ([] : Bytes)) = false ∧ Op.bytesLess ik hi' = true) := by
          rcases hk2 with e | e
          · exact .inl (by simpa using e)
          · by_cases e2 : hi' = []
            · exact .inl (by simpa using e2)
            · exact .inr ⟨by simpa using e2, e⟩
        have hk1' : Op.bytesLess ik lo = false := hk1
        clear hk1 hk2
        rcases hkey2 with hz | ⟨hz1, hz2⟩
        · by_cases hio : io = 0
          · subst hio
            have hR : ci = (done ++ i1) ++ i2 ∧ LeafAt M (items.drop (i + 1)) ps' i2 ∧ (∀ q ∈ ps', q.2.length ≤ 2000) ∧ SeeK p b sb iv (ids ++ (done ++ i1)) ((below : Int) + 1) (ks + (items.length : Int)) w (wr.alloc (.cells #[strV ik, strV iv0, .int .i64 0, .int .i64 isz] 107)) := by
              obtain ⟨a1, a2, a3, a4, _⟩ := HT.out
              obtain ⟨_, _, rfl⟩ | ⟨h, _⟩ := HV.out
              · exact ⟨by rw [a1]; simp, a2, a3, by rw [List.append_nil]; rw [← HWx.out]; exact a4.below HBx.out⟩
              · exact absurd rfl h
            have HR := Lib.hid hR
            clear hR
            go_wp2_with (fail)
            go_roundg (gk - 1)
            case measure => omega
            case rel => exact ⟨i + 1, done ++ i1, i2, ps', by simp, by omega, HR.out⟩
          · obtain ⟨vl, hvl⟩ : ∃ m, v.length = m := ⟨_, rfl⟩
            have hisz : isz = (vl : Int) := by
              obtain ⟨h, _⟩ | ⟨_, _, h⟩ := HV.out
              · exact absurd h hio
              · have h2 : (v.length : Int) = isz := h
                omega
            subst hisz
            have hio' : (io == 0) = false := by simpa using hio
            have HPg : Hid (∀ W, Below wr.heap.size wr W → Calls Tryz.prog 155 #[ptrV p, .int .i64 io, .int .i64 (vl : Int)] W fun e w' => ∃ r, e = .returned (.tuple #[r, .int .i64 0]) ∧ w'.ownsRow W.heap.size 3 1 r i1.length (intsV i1) ∧ Below W.heap.size W w') := fun W hW => by
              obtain ⟨h, _⟩ | ⟨_, h, _⟩ := HV.out
              · exact absurd h hio
              · have := overPages_ok io v i1 W (HT.out.2.2.2.2.1.below hW) h hsv (by omega)
                rw [hvl] at this
                exact this
            clear hvl hio
            go_wp2_with (fail)
            refine wp_region_any (by kernel_rfl) ?_
            change wpAny _ _ _ _ _ _ _ (World.drew _)
            try simp only [Act.put, lT, l0, lS]
            refine tA 0 ?_; try simp only [Act.put, lT, l0, lS]
            refine tA 1 ?_; try simp only [Act.put, lT, l0, lS]
            refine tA 2 ?_; try simp only [Act.put, lT, l0, lS]
            refine tA 4 ?_; try simp only [Act.put, lT, l0, lS]
            refine tA 6 ?_; try simp only [Act.put, lT, l0, lS]
            try simp only [Act.put, lT, l0, lS]
            refine rA 3 (v := ?_) (hy := ?hy) ?_; case hy => (intro w hE; have q0 := hE.cell d0; go_simp; try with_reducible rfl)
            try simp only [Act.put, lT, l0, lS]
            try simp only [Act.put, lT, l0, lS]
            refine rA 5 (v := ?_) (hy := ?hy) ?_; case hy => (intro w hE; have q0 := hE.cell t2; go_simp; try with_reducible rfl)
            try simp only [Act.put, lT, l0, lS]
            try simp only [Act.put, lT, l0, lS]
            refine rA 7 (v := ?_) (hy := ?hy) ?_; case hy => (intro w hE; have q0 := hE.cell t3; go_simp; try with_reducible rfl)
            try simp only [Act.put, lT, l0, lS]
            refine rd 8 (by kernel_rfl) rfl (fun K hK => ?_); go_simp
            (go_at_call 155; go_must (refine (HPg.out _ (by rw [← HWx.out]; exact HBx.out.drew)).mono ?_); rintro e w2 ⟨r, rfl, hown2, hb2⟩)
            obtain ⟨A2, c2, rfl, _⟩ := Sl.of_own hown2
            go_simp
            refine hK _ _ ?_
            clear hK K
            try simp only [Act.put, lT, l0, lS]
            refine tA 9 ?_; try simp only [Act.put, lT, l0, lS]
            refine tA 10 ?_; try simp only [Act.put, lT, l0, lS]
            refine tA 11 ?_; try simp only [Act.put, lT, l0, lS]
            refine tA 12 ?_; try simp only [Act.put, lT, l0, lS]
            refine tA 13 ?_; try simp only [Act.put, lT, l0, lS]
            refine wpAny_done (by kernel_rfl) ?_ _
            obtain ⟨a1, a2, a3, a4, a5, a6, a7, a8⟩ := HT.out
            have hbw2 : Below wr.heap.size wr w2 := by
              have h1 := HBx.out.drew
              rw [HWx.out] at h1
              exact h1.trans (hb2.mono (by simp))
            have HSee := Lib.hid (a4.see (new := i1) hbw2 (fun k hk => h0lt k hk) (Sl.of_own hown2) (fun g o e => by
              subst e
              have := (hown2.lt g rfl).1
              simp at this
              omega) a6 a7 a8)
            have HCi := Lib.hid (And.intro a1 (And.intro a2 a3))
            clear a1 a2 a3 a4 a5 a6 a7 a8 hbw2 hown2 hb2
            go_wp2_with (fail)
            go_must (refine HSee.out.mono ?_)
            rintro e w3 ⟨rfl, hS3⟩
            have HS3 := Lib.hid hS3
            clear hS3
            go_wp2_with (fail)
            go_roundg (gk - 1)
            case measure => omega
            case rel => exact ⟨i + 1, done ++ i1, i2, ps', by simp, by omega, by rw [HCi.out.1]; simp, HCi.out.2.1, HCi.out.2.2, by rw [← List.append_assoc]; exact HS3.out⟩
        · by_cases hio : io = 0
          · subst hio
            have hR : ci = (done ++ i1) ++ i2 ∧ LeafAt M (items.drop (i + 1)) ps' i2 ∧ (∀ q ∈ ps', q.2.length ≤ 2000) ∧ SeeK p b sb iv (ids ++ (done ++ i1)) ((below : Int) + 1) (ks + (items.length : Int)) w (wr.alloc (.cells #[strV ik, strV iv0, .int .i64 0, .int .i64 isz] 107)) := by
              obtain ⟨a1, a2, a3, a4, _⟩ := HT.out
              obtain ⟨_, _, rfl⟩ | ⟨h, _⟩ := HV.out
              · exact ⟨by rw [a1]; simp, a2, a3, by rw [List.append_nil]; rw [← HWx.out]; exact a4.below HBx.out⟩
              · exact absurd rfl h
            have HR := Lib.hid hR
            clear hR
            go_wp2_with (fail)
            go_roundg (gk - 1)
            case measure => omega
            case rel => exact ⟨i + 1, done ++ i1, i2, ps', by simp, by omega, HR.out⟩
          · obtain ⟨vl, hvl⟩ : ∃ m, v.length = m := ⟨_, rfl⟩
            have hisz : isz = (vl : Int) := by
              obtain ⟨h, _⟩ | ⟨_, _, h⟩ := HV.out
              · exact absurd h hio
              · have h2 : (v.length : Int) = isz := h
                omega
            subst hisz
            have hio' : (io == 0) = false := by simpa using hio
            have HPg : Hid (∀ W, Below wr.heap.size wr W → Calls Tryz.prog 155 #[ptrV p, .int .i64 io, .int .i64 (vl : Int)] W fun e w' => ∃ r, e = .returned (.tuple #[r, .int .i64 0]) ∧ w'.ownsRow W.heap.size 3 1 r i1.length (intsV i1) ∧ Below W.heap.size W w') := fun W hW => by
              obtain ⟨h, _⟩ | ⟨_, h, _⟩ := HV.out
              · exact absurd h hio
              · have := overPages_ok io v i1 W (HT.out.2.2.2.2.1.below hW) h hsv (by omega)
                rw [hvl] at this
                exact this
            clear hvl hio
            go_wp2_with (fail)
            refine wp_region_any (by kernel_rfl) ?_
            change wpAny _ _ _ _ _ _ _ (World.drew _)
            try simp only [Act.put, lT, l0, lS]
            refine tA 0 ?_; try simp only [Act.put, lT, l0, lS]
            refine tA 1 ?_; try simp only [Act.put, lT, l0, lS]
            refine tA 2 ?_; try simp only [Act.put, lT, l0, lS]
            refine tA 4 ?_; try simp only [Act.put, lT, l0, lS]
            refine tA 6 ?_; try simp only [Act.put, lT, l0, lS]
            try simp only [Act.put, lT, l0, lS]
            refine rA 3 (v := ?_) (hy := ?hy) ?_; case hy => (intro w hE; have q0 := hE.cell d0; go_simp; try with_reducible rfl)
            try simp only [Act.put, lT, l0, lS]
            try simp only [Act.put, lT, l0, lS]
            refine rA 5 (v := ?_) (hy := ?hy) ?_; case hy => (intro w hE; have q0 := hE.cell t2; go_simp; try with_reducible rfl)
            try simp only [Act.put, lT, l0, lS]
            try simp only [Act.put, lT, l0, lS]
            refine rA 7 (v := ?_) (hy := ?hy) ?_; case hy => (intro w hE; have q0 := hE.cell t3; go_simp; try with_reducible rfl)
            try simp only [Act.put, lT, l0, lS]
            refine rd 8 (by kernel_rfl) rfl (fun K hK => ?_); go_simp
            (go_at_call 155; go_must (refine (HPg.out _ (by rw [← HWx.out]; exact HBx.out.drew)).mono ?_); rintro e w2 ⟨r, rfl, hown2, hb2⟩)
            obtain ⟨A2, c2, rfl, _⟩ := Sl.of_own hown2
            go_simp
            refine hK _ _ ?_
            clear hK K
            try simp only [Act.put, lT, l0, lS]
            refine tA 9 ?_; try simp only [Act.put, lT, l0, lS]
            refine tA 10 ?_; try simp only [Act.put, lT, l0, lS]
            refine tA 11 ?_; try simp only [Act.put, lT, l0, lS]
            refine tA 12 ?_; try simp only [Act.put, lT, l0, lS]
            refine tA 13 ?_; try simp only [Act.put, lT, l0, lS]
            refine wpAny_done (by kernel_rfl) ?_ _
            obtain ⟨a1, a2, a3, a4, a5, a6, a7, a8⟩ := HT.out
            have hbw2 : Below wr.heap.size wr w2 := by
              have h1 := HBx.out.drew
              rw [HWx.out] at h1
              exact h1.trans (hb2.mono (by simp))
            have HSee := Lib.hid (a4.see (new := i1) hbw2 (fun k hk => h0lt k hk) (Sl.of_own hown2) (fun g o e => by
              subst e
              have := (hown2.lt g rfl).1
              simp at this
              omega) a6 a7 a8)
            have HCi := Lib.hid (And.intro a1 (And.intro a2 a3))
            clear a1 a2 a3 a4 a5 a6 a7 a8 hbw2 hown2 hb2
            go_wp2_with (fail)
            go_must (refine HSee.out.mono ?_)
            rintro e w3 ⟨rfl, hS3⟩
            have HS3 := Lib.hid hS3
            clear hS3
            go_wp2_with (fail)
            go_roundg (gk - 1)
            case measure => omega
            case rel => exact ⟨i + 1, done ++ i1, i2, ps', by simp, by omega, by rw [HCi.out.1]; simp, HCi.out.2.1, HCi.out.2.2, by rw [← List.append_assoc]; exact HS3.out⟩
      · have hii : i = items.length := by omega
        have HE : Hid (SeeK p b sb iv (ids ++ ci) ((below : Int) + 1) (ks + (items.length : Int)) w wr) := by
          obtain ⟨hci, hla, _, hS⟩ := hI.out
          rw [hii, List.drop_length] at hla
          obtain ⟨_, rfl⟩ := hla
          rw [List.append_nil] at hci
          rw [hci]
          exact hS
        have hlt' : ¬ (i : Int) < (items.length : Int) := by omega
        clear hlt hI
        go_wp2_with (fail)
        go_ret
        exact ⟨rfl, HE.out⟩
end
end Go.Ev
