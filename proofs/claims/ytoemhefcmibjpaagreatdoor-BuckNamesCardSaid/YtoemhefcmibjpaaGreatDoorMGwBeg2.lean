/-
  A row of one's own within its room: an append that stays, cells beyond its end, what is cleared there. leaf.Del: items without a key. DERIVED: THE SHELF's CONTRACTS AT THIS DUMP, IN PLAIN WORDS (tools/lay-plain.mjs out of 'YtoemhefcmibjpaaGreatDoorSortLay.lean', which tools/lay-shelf.mjs wrote): THE SAME DECLARATIONS UNDER THE SAME NAMES: 'import', 'namespace', 'open', 'def', 'theorem' AND NOTHING ELSE: no command of the shelf's: FOR A HAND-IN. Each laying: the table of numbers ('.._ren') and one theorem, a field a fact of the dump's own or the kernel's comparison; each contract: ONE APPLICATION. slices.Sort at a row of integers that is one's own. A device, free pages and a pager are made anew. A pager of a first transaction is made anew; law 11's Begin. The document's own tree: its order, where a key is, a pair put in. Several trees in one pager's pages, none of which has a page of another; buckets: trees with names. The pairs that steps make, put in one by one. A number read out of four bytes. The document's own tree: a pair put in. Buckets of law 13: few names, one pair each; what making, putting and dropping leave. A pager of a first transaction is made anew; law 11's Begin.
-/
import Derived.Test.YtoemhefcmibjpaaGreatDoorMGwPilePut
import Derived.Lib.SliceRun
import Derived.Laws.IdiomCopy
import Derived.Test.YtoemhefcmibjpaaGreatDoorMEvInsert
import Derived.Test.YtoemhefcmibjpaaGreatDoorMGwSplit
import Derived.Shelf.SlGeneric
import Derived.Shelf.SortM.Plain
import Derived.Shelf.SortM.SortNone
import Derived.Ground.SlgmProg
import Derived.Test.YtoemhefcmibjpaaGreatDoorProg
import Derived.Test.YtoemhefcmibjpaaGreatDoorMGwSeal
import Derived.Lib.SortBridge
import Derived.Test.YtoemhefcmibjpaaGreatDoorMGwMake
import Derived.Test.YtoemhefcmibjpaaGreatDoorMGvFind
import Derived.Carry
import Derived.Test.YtoemhefcmibjpaaGreatDoorMGwReplace
import Derived.Test.YtoemhefcmibjpaaGreatDoorMGwPick
import Derived.Test.YtoemhefcmibjpaaGreatDoorMGvOrd
import Derived.Test.YtoemhefcmibjpaaGreatDoorMEvBytes
import Derived.Laws.BitsAllLaws
import Derived.Deep.LoopGhost
import Derived.Deep.DeepMust
import Derived.Test.YtoemhefcmibjpaaGreatDoorMGwReader
set_option linter.unusedVariables false
set_option linter.unusedSimpArgs false
namespace Go.Ev
open Go.RowKit
theorem run_append_stays {P : Program} (w : World) {base : Nat} {t ty e : TypeId} {i : TypeInfo} {z : Value} {size bytes : Nat} (ht : P.underlying t = some (.slice e)) (hi : P.info? e = some i) (hz : i.zero = some z)
  (hsize : i.size = size) (hby : i.bytes = bytes) (hzs : z.cells.size = size) (hsz : 0 < size) {g n cap : Nat} {xs : List Value} (hown : w.ownsRow base e size (.slice (some ⟨g, 0, none⟩) n cap) n xs)
  {a : Addr} {m c : Nat} {news : List Value} (hl : news.length = m * size) (hnews : ∀ j u, news[j]? = some u → w.cell? (a.add j) = some u) (h1 : ∀ u ∈ news, u.oneCell' = true) (hroom : n + m ≤ cap)
  (h63 : n + m ≤ maxLen) (hbytes : (n + m) * bytes ≤ 140737488355328) (hbase : base ≤ w.heap.size) :
  ∃ w', (Builtin.append_ #[t, t] ty #[.slice (some ⟨g, 0, none⟩) n cap, .slice (some a) m c]).run P w = .ok (.slice (some ⟨g, 0, none⟩) (n + m) cap) w' ∧ w'.ownsRow base e size (.slice (some ⟨g, 0, none⟩) (n + m) cap) (n + m) (xs ++ news) ∧ w.grownBy w' (some g) := by
 obtain ⟨v', w', hr, h2, h3, _⟩ := run_append_own (P := P) w base t ty e i z size bytes ht hi hz hsize hby hzs hsz _ n xs hown a m c news hl hnews h1 h63 hbytes hbase
 rcases hown.2 with ⟨e0, _⟩ | ⟨g', cap', cur, e0, hbg, hg, hnc, hcm, hcs, htake⟩
 ·cases e0
 ·simp only [Value.slice.injEq, Option.some.injEq, Addr.mk.injEq, and_true, true_and] at e0
  obtain ⟨rfl, rfl⟩ := e0
  subst hsize
  have hr2 := run_append_room (P := P) w t ty e i ht hi g n cap cur hg a m c news hl hnews h1 hroom (by rw [hl, hcs, ← Nat.add_mul]; exact Nat.mul_le_mul_right _ hroom)
  rw [hr] at hr2
  simp only [Result.ok.injEq] at hr2
  obtain ⟨rfl, _⟩ := hr2
  exact ⟨w', hr, h2, h3⟩
theorem setCells_shape {g : Nat} {e : TypeId} : ∀ (vs : List Value) (o : Nat) (w : World) (cur : Array Value), w.heap[g]? = some (.cells cur e (0, 0)) → ∃ cur', (w.setCells g o vs).heap[g]? = some (.cells cur' e (0, 0)) ∧ cur'.size = cur.size
 | [], _, _, cur, h => ⟨cur, h, rfl⟩
 | v :: vs, o, w, cur, h => by
  have h1 : Blk w g e cur := h
  obtain ⟨cur', h2, h3⟩ := setCells_shape vs (o + 1) (w.setCell ⟨g, o, none⟩ v) _ (h1.set o v)
  exact ⟨cur', h2, by rw [h3]; simp⟩
theorem setCells_frm {g : Nat} : ∀ (vs : List Value) (o : Nat) (w : World), Keeps (fun k => k = g) w (w.setCells g o vs)
 | [], _, w => Keeps.refl _ w
 | v :: vs, o, w => ((Keeps.refl (fun k => k = g) w).setCell (p := ⟨g, o, none⟩) (fun _ => rfl) v).trans (setCells_frm vs (o + 1) _) fun _ _ e => e
theorem own_beyond {w : World} {base size g n cap o : Nat} {e : TypeId} {xs vs : List Value} (h : w.ownsRow base e size (.slice (some ⟨g, 0, none⟩) n cap) n xs) (ho : n * size ≤ o) : (w.setCells g o vs).ownsRow base e size (.slice (some ⟨g, 0, none⟩) n cap) n xs := by
 have hcells := h.cells (g := g) rfl
 refine ⟨h.1, ?_⟩
 rcases h.2 with ⟨e0, _⟩ | ⟨g', cap', cur, e0, hbg, hg, hnc, hcm, hcs, htake⟩
 ·cases e0
 ·simp only [Value.slice.injEq, Option.some.injEq, Addr.mk.injEq, and_true, true_and] at e0
  obtain ⟨rfl, rfl⟩ := e0
  obtain ⟨cur', h2, h3⟩ := setCells_shape vs o w cur hg
  refine .inr ⟨g, cap, cur', rfl, hbg, h2, hnc, hcm, by rw [h3, hcs], ?_⟩
  refine List.ext_getElem? fun j => ?_
  rw [List.getElem?_take]
  by_cases hj : j < n * size
  ·rw [if_pos hj, Array.getElem?_toList, ← cell_of_row _ g j cur' e (0, 0) h2, World.cell?_setCells_out g vs o w ⟨g, j, none⟩ (fun _ _ => .inl (by show j < o; omega))]
   have hx : j < xs.length := by rw [h.1]; exact hj
   have := hcells j xs[j] (List.getElem?_eq_getElem hx)
   rw [addr_add, Nat.zero_add] at this
   rw [this, List.getElem?_eq_getElem hx]
  ·rw [if_neg hj, List.getElem?_eq_none (by rw [h.1]; omega)]
theorem own_front {w : World} {base size g n cap i : Nat} {e : TypeId} {xs : List Value} (h : w.ownsRow base e size (.slice (some ⟨g, 0, none⟩) n cap) n xs) (hi : i ≤ n) : w.ownsRow base e size (.slice (some ⟨g, 0, none⟩) i cap) i (xs.take (i * size)) := by
 have hm : i * size ≤ n * size := Nat.mul_le_mul_right _ hi
 refine ⟨by rw [List.length_take, h.1]; omega, ?_⟩
 rcases h.2 with ⟨e0, _⟩ | ⟨g', cap', cur, e0, hbg, hg, hnc, hcm, hcs, htake⟩
 ·cases e0
 ·simp only [Value.slice.injEq, Option.some.injEq, Addr.mk.injEq, and_true, true_and] at e0
  obtain ⟨rfl, rfl⟩ := e0
  refine .inr ⟨g, cap, cur, rfl, hbg, hg, by omega, hcm, hcs, ?_⟩
  rw [← htake, List.take_take, Nat.min_eq_left hm]
theorem run_clear_one {P : Program} (w : World) (t e ty : TypeId) (z : Value) (ht : P.underlying t = some (.slice e)) (hv : ∀ w, (zeroValue e).run P w = .ok z w) (h1 : ∀ v ∈ z.cells.toList, v.oneCell' = true) (b o c : Nat)
  (hc : ∀ j, j < z.cells.size → (w.cell? ⟨b, o + j, none⟩).isSome = true) (hf : ∀ j, j < z.cells.size → w.frozen? ⟨b, o + j, none⟩ = false) :
  (Builtin.clear_ #[t] ty #[.slice (some ⟨b, o, none⟩) 1 c]).run P w = .ok (.tuple #[]) (w.setCells b o z.cells.toList) := by
 have hzc : (Builtin.zeroCells z.cells 1).toList = z.cells.toList := by
  apply List.ext_getElem
  ·simp [Builtin.zeroCells]
  ·intro i h1 h2
   have hlt : i < z.cells.size := by simpa using h2
   have e1 : (Builtin.zeroCells z.cells 1)[i]'(by simpa using h1) = z.cells[i % z.cells.size]! := by simp [Builtin.zeroCells]
   rw [Array.getElem_toList, Array.getElem_toList, e1, Nat.mod_eq_of_lt hlt]
   exact getElem!_pos z.cells i hlt
 have hst := run_storeCells_cells (P := P) b o z.cells.toList 0 w (by simpa using hc) (by simpa using hf) h1
 simp only [Nat.add_zero] at hst
 simp [Builtin.clear_, run_underlying ht, hv, hzc, hst]
theorem wp_append_eq {P : Program} {w w' : World} {o : Oper} {a : Act} {K : Act → World → Prop} {Q : Exit → Act → World → Prop} (s x : Operand) (t : TypeId) {v y v' : Value}
  (ho : o.op = .call { callee := .builtin .append, args := #[s, x], argTypes := #[t, t] }) (hs : a.eval s = v) (hx : a.eval x = y) (hr : (Builtin.append_ #[t, t] o.type #[v, y]).run P w = .ok v' w') (h : K (a.put o.dst v') w') : o.wp P a w K Q := by
 unfold Oper.wp execOp
 simp only [ho, resolve, invoke, builtin, Sem.run_bind, Sem.run_pure, Result.andThen_ok, List.map_toArray, List.map_cons, List.map_nil, hs, hx]
 rw [hr]
 exact h
end Go.Ev

set_option linter.unusedVariables false
set_option linter.unusedSimpArgs false
namespace Go.Ev
open Go.Proofs Go.RowKit
set_option maxHeartbeats 4000000 in
set_option maxRecDepth 100000 in
/-- slices.Delete of one element, out of a row of one's own. -/
theorem sdelI_any (base g n cap i : Nat) (l : List Item) (w : World) (h : w.ownsRow base 96 4 (.slice (some ⟨g, 0, none⟩) n cap) n (itemsCs l)) (hi : i < n) (hn : n ≤ 10000) (hb : base ≤ w.heap.size) :
  Calls Tryz.prog 101 #[.slice (some ⟨g, 0, none⟩) n cap, .int .i64 (i : Int), .int .i64 ((i : Int) + 1)] w fun e w' =>
   ∃ v, e = .returned v ∧ w'.ownsRow base 96 4 v (n - 1) (itemsCs (l.take i ++ l.drop (i + 1))) ∧ Keeps (fun k => k = g) w w' := by
 obtain ⟨i0, hinf, hz0, hz1, hz2⟩ := info_parts (show (Tryz.prog.info? 96).map (fun i => (i.zero, i.size, i.bytes)) = some (some (.agg #[.string ⟨#[]⟩, .string ⟨#[]⟩, .int .i64 0, .int .i64 0]), 4, 48) by kernel_rfl)
 have hll : l.length = n := by have := h.1; rw [itemsCs_len] at this; omega
 have hcap : n ≤ cap := by
  rcases h.2 with ⟨e0, _⟩ | ⟨g', cap', cur, e0, _, _, hnc, _⟩
  ·cases e0
  ·simp only [Value.slice.injEq, Option.some.injEq, Addr.mk.injEq, and_true, true_and] at e0
   obtain ⟨rfl, rfl⟩ := e0
   exact hnc
 obtain ⟨j, hj⟩ : ∃ j, i + 1 = j := ⟨_, rfl⟩
 obtain ⟨m, hm⟩ : ∃ m, n - 1 = m := ⟨_, rfl⟩
 -- what is moved up
 obtain ⟨ad, had, hadj⟩ : ∃ ad : Addr, (if cap = j then some (⟨g, 0, none⟩ : Addr) else some ⟨g, j * 4, none⟩) = some ad ∧ (cap = j ∨ ad = ⟨g, j * 4, none⟩) := by
  by_cases hc : cap = j
  ·exact ⟨_, by rw [if_pos hc], .inl hc⟩
  ·exact ⟨_, by rw [if_neg hc], .inr rfl⟩
 have hnews : ∀ k u, (itemsCs (l.drop j))[k]? = some u → w.drew.cell? (ad.add k) = some u := fun k u hu => by
  rcases hadj with hc | rfl
  ·rw [List.drop_eq_nil_of_le (by omega)] at hu
   simp [itemsCs] at hu
  rw [← itemsCs_drop, List.getElem?_drop] at hu
  have h1 := h.cells (g := g) rfl _ _ hu
  rw [addr_add] at h1 ⊢
  rw [Nat.zero_add] at h1
  exact h1
 have hfr := own_front h (Nat.le_of_lt hi)
 rw [itemsCs_take] at hfr
 obtain ⟨w1, hr, hown1, hg1⟩ := run_append_stays (P := Tryz.prog) (ty := 88) w.drew (i := i0) Tryz.underlying88 hinf hz0 hz1 hz2 rfl (by decide) (show w.drew.ownsRow base 96 4 (.slice (some ⟨g, 0, none⟩) i cap) i (itemsCs (l.take i)) from hfr) (a := ad) (m := n - j) (c := cap - j) (news := itemsCs (l.drop j)) (by rw [itemsCs_len, List.length_drop]; omega) hnews (itemsCs_one _) (by omega) (by unfold maxLen; omega) (by omega) hb
 have hmm : i + (n - j) = m := by omega
 rw [hmm, ← itemsCs_append] at hown1
 rw [hmm] at hr
 have hK1 : Keeps (fun k => k = g) w w1 := ((Keeps.refl (fun k => k = g) w).drew).grown hg1 fun k e _ => by cases e; rfl
 -- what is cleared
 obtain ⟨cur', hb1, hcs1⟩ : ∃ cur', w1.heap[g]? = some (.cells cur' 96 (0, 0)) ∧ n * 4 ≤ cur'.size := by
  rcases hown1.2 with ⟨e0, _⟩ | ⟨g', cap', cur, e0, _, hg', hnc, _, hcs, _⟩
  ·cases e0
  ·simp only [Value.slice.injEq, Option.some.injEq, Addr.mk.injEq, and_true, true_and] at e0
   obtain ⟨rfl, rfl⟩ := e0
   exact ⟨cur, hg', by omega⟩
 have hB1 : Blk w1 g 96 cur' := hb1
 have hcl := fun ty => run_clear_one (P := Tryz.prog) w1 88 96 ty (.agg #[.string ⟨#[]⟩, .string ⟨#[]⟩, .int .i64 0, .int .i64 0]) Tryz.underlying88 (fun W => by kernel_rfl) (by simp [Value.cells, Value.oneCell']) g (m * 4) (cap - m) (fun k hk => by
  rw [hB1.cell]
  have h4 : k < 4 := hk
  rw [Array.getElem?_eq_getElem (by omega)]
  rfl) (fun k _ => hB1.frozen _)
 have hown2 := own_beyond (vs := (Value.agg #[.string ⟨#[]⟩, .string ⟨#[]⟩, .int .i64 0, .int .i64 0]).cells.toList) hown1 (Nat.le_refl _)
 have hK2 := hK1.trans (setCells_frm ((Value.agg #[.string ⟨#[]⟩, .string ⟨#[]⟩, .int .i64 0, .int .i64 0]).cells.toList) (m * 4) w1) fun _ _ e => e
 obtain ⟨w2, hw2⟩ : ∃ w2, w1.setCells g (m * 4) (Value.agg #[.string ⟨#[]⟩, .string ⟨#[]⟩, .int .i64 0, .int .i64 0]).cells.toList = w2 := ⟨_, rfl⟩
 rw [hw2] at hown2 hK2 hcl
 have hne : ((i : Int) == (i : Int) + 1) = false := by simp; omega
 have hi0 : (0 : Int) ≤ (i : Int) := by omega
 have hi1 : (i : Int) ≤ (i : Int) + 1 := by omega
 have hi2 : (i : Int) + 1 ≤ (n : Int) := by omega
 have hnc : (n : Int) ≤ (cap : Int) := by omega
 have hic : (i : Int) ≤ (cap : Int) := by omega
 have hm0 : (0 : Int) ≤ (m : Int) := by omega
 have hmn : (m : Int) ≤ (n : Int) := by omega
 have hi01 : (0 : Int) ≤ (i : Int) + 1 := by omega
 have hcm : ¬ cap = m := by omega
 have hnm : n - m = 1 := by omega
 have HE := Lib.hid (And.intro hown2 hK2)
 have HJ := Lib.hid hj
 clear hadj hfr hnews hown1 hg1 hmm hK1 hb1 hcs1 hB1 hown2 hK2 hw2 h
 go_enter Tryz.func101, Tryz.ntmps101
 go_wp2_with (fail)
 refine wp_region_any (by kernel_rfl) ?_
 change wpAny _ _ _ _ _ _ _ (World.drew _)
 try simp only [Act.put, lT, l0, lS]
 refine tA 0 ?_; try simp only [Act.put, lT, l0, lS]
 refine tA 1 ?_; try simp only [Act.put, lT, l0, lS]
 refine tA 2 ?_; try simp only [Act.put, lT, l0, lS]
 refine tA 3 ?_; try simp only [Act.put, lT, l0, lS]
 refine tA 4 ?_; try simp only [Act.put, lT, l0, lS]
 refine tA 5 ?_; try simp only [Act.put, lT, l0, lS]
 refine rd 6 (by kernel_rfl) rfl (fun K hK => ?_); refine if_on rfl ?_
 go_must (refine wp_append_eq _ _ 88 rfl rfl rfl hr ?_)
 go_simp
 refine hK _ _ ?_
 clear hK K
 try simp only [Act.put, lT, l0, lS]
 refine tA 7 ?_; try simp only [Act.put, lT, l0, lS]
 refine wpAny_done (by kernel_rfl) ?_ _
 go_wp2_with (fail)
 go_ret
 refine ⟨_, rfl, ?_, HE.out.2⟩
 rw [HJ.out, hm]
 exact HE.out.1
set_option maxHeartbeats 2000000 in
set_option maxRecDepth 100000 in
theorem delI_any (A : Option Addr) (n c : Nat) (l : List Item) (key : Bytes) (w : World) (hv : Sl w 4 (.slice A n c) n (itemsCs l)) (hn : n ≤ 10000) (hr : riseI l = true) :
  Calls Tryz.prog 56 #[.slice A n c, strV key] w (OwnPost (delI l key) w) := by
 have hl := hv.len4
 subst hl
 have hale := ahead_le key l
 have HF := Lib.hid (findI_any A l.length c l key w hv (by omega) hr)
 have HC := Lib.hid (fun W (hb : Below w.heap.size w W) => cloneI_all A l.length c l W (hv.below hb) (by omega))
 have HDel : Hid (isAt key l = true → delI l key = l.take (ahead key l) ++ l.drop (ahead key l + 1)) := fun h => by unfold delI; rw [if_pos h]
 have HNot : Hid (isAt key l = false → delI l key = l) := fun h => by unfold delI; rw [if_neg (by rw [h]; decide)]
 have HLt : Hid (isAt key l = true → ahead key l < l.length) := fun h => by
  obtain ⟨x, hx, _⟩ := isAt_iff.1 h
  exact (List.getElem?_eq_some_iff.1 hx).1
 clear hv hr
 generalize ahead key l = i at *
 go_enter Tryz.func56, Tryz.ntmps56
 go_wp2_with (fail)
 go_must (refine HF.out.mono ?_)
 rintro e w1 ⟨rfl, hb1⟩
 have HC1 := Lib.hid (HC.out w1 hb1)
 have HB1 := Lib.hid hb1
 clear hb1
 go_wp2_with (fail)
 go_must (refine HC1.out.mono ?_)
 rintro e w2 ⟨v2, rfl, hown, hb2⟩
 have HB2 := Lib.hid (HB1.out.trans (hb2.mono HB1.out.size))
 have hown := own_base hown HB1.out.size
 clear hb2
 cases hat : isAt key l with
 | false =>
  have hd := HNot.out hat
  have HE : Hid (OwnPost (delI l key) w (.returned v2) w2) := by
   rw [hd]
   exact ⟨v2, rfl, hown, HB2.out⟩
  obtain ⟨A2, c2, rfl, _⟩ := Sl.of_own hown
  clear hown hd
  go_wp2_with (fail)
  go_ret
  exact HE.out
 | true =>
  have hlt := HLt.out hat
  have hd := HDel.out hat
  rcases hown.2 with ⟨_, h0⟩ | ⟨g, cap, cur, rfl, hbg, _⟩
  ·omega
  have hDl := sdelI_any w.heap.size g l.length cap i l w2 hown hlt (by omega) HB2.out.size
  have hwi : IntKind.i64.wrap ((i : Int) + 1) = (i : Int) + 1 := IntWalk.i64_in _ (by omega)
  have HDl := Lib.hid hDl
  have HD := Lib.hid hd
  clear hDl hown hd
  go_wp2_with (fail)
  go_must (refine HDl.out.mono ?_)
  rintro e w3 ⟨v3, rfl, hown3, hk3⟩
  have hl3 : l.length - 1 = (delI l key).length := by
   rw [HD.out, List.length_append, List.length_take, List.length_drop]
   omega
  have HE : Hid (OwnPost (delI l key) w (.returned v3) w3) := by
   refine ⟨v3, rfl, ?_, HB2.out.trans (hk3.below HB2.out.size fun k hk e => by omega)⟩
   rw [← hl3, HD.out]
   exact hown3
  obtain ⟨A3, c3, rfl, _⟩ := Sl.of_own hown3
  clear hown3 hk3 hl3
  go_wp2_with (fail)
  go_ret
  exact HE.out
end Go.Ev

namespace Go.Proofs
open Go.Shelf
def Tryz.sortZ_ren : Go.Shelf.Ren := ⟨fun | 5 => 66 | 8 => 113 | 7 => 112 | 19 => 160 | 20 => 161 | 10 => 151 | 11 => 152 | 12 => 153 | 13 => 154 | 14 => 155 | 15 => 156 | 16 => 157 | 17 => 158 | 18 => 159 | 30 => 186 | 31 => 187 | 32 => 188 | 33 => 189 | 34 => 190 | 35 => 191 | 40 => 207 | n => n, fun | 23 => 63 | 25 => 3 | 3 => 3 | 32 => 187 | 22 => 63 | 0 => 0 | 44 => 240 | 46 => 243 | 4 => 4 | 36 => 250 | 35 => 249 | 41 => 114 | 5 => 5 | 9 => 9 | 53 => 285 | 57 => 289 | 63 => 304 | 64 => 305 | n => n, fun | n => n⟩
theorem Tryz.sortZ : Go.Proofs.SlLaysM.n5 Tryz.prog Tryz.sortZ_ren := {
 mixed := by kernel_rfl
 f5 := ⟨Tryz.f66.name, by decide, Tryz.func66.trans (congrArg some (by kernel_rfl))⟩
 f7 := ⟨Tryz.f112.name, by decide, Tryz.func112.trans (congrArg some (by kernel_rfl))⟩
 f8 := Tryz.func113.trans (congrArg some (by kernel_rfl))
 f10 := ⟨Tryz.f151.name, by decide, Tryz.func151.trans (congrArg some (by kernel_rfl))⟩
 f11 := ⟨Tryz.f152.name, by decide, Tryz.func152.trans (congrArg some (by kernel_rfl))⟩
 f12 := ⟨Tryz.f153.name, by decide, Tryz.func153.trans (congrArg some (by kernel_rfl))⟩
 f13 := ⟨Tryz.f154.name, by decide, Tryz.func154.trans (congrArg some (by kernel_rfl))⟩
 f14 := ⟨Tryz.f155.name, by decide, Tryz.func155.trans (congrArg some (by kernel_rfl))⟩
 f15 := ⟨Tryz.f156.name, by decide, Tryz.func156.trans (congrArg some (by kernel_rfl))⟩
 f16 := ⟨Tryz.f157.name, by decide, Tryz.func157.trans (congrArg some (by kernel_rfl))⟩
 f17 := ⟨Tryz.f158.name, by decide, Tryz.func158.trans (congrArg some (by kernel_rfl))⟩
 f18 := ⟨Tryz.f159.name, by decide, Tryz.func159.trans (congrArg some (by kernel_rfl))⟩
 f19 := Tryz.func160.trans (congrArg some (by kernel_rfl))
 f20 := Tryz.func161.trans (congrArg some (by kernel_rfl))
 f30 := ⟨Tryz.f186.name, by decide, Tryz.func186.trans (congrArg some (by kernel_rfl))⟩
 f31 := Tryz.func187.trans (congrArg some (by kernel_rfl))
 f32 := Tryz.func188.trans (congrArg some (by kernel_rfl))
 f33 := ⟨Tryz.f189.name, by decide, Tryz.func189.trans (congrArg some (by kernel_rfl))⟩
 f34 := ⟨Tryz.f190.name, by decide, Tryz.func190.trans (congrArg some (by kernel_rfl))⟩
 f35 := ⟨Tryz.f191.name, by decide, Tryz.func191.trans (congrArg some (by kernel_rfl))⟩
 f40 := ⟨Tryz.f207.name, by decide, Tryz.func207.trans (congrArg some (by kernel_rfl))⟩
 t0 := Tryz.underlying0
 a0 := Tryz.isAgg0
 z0 := Tryz.sizeOf0
 v0 := Tryz.zeroValue0
 t3 := Tryz.underlying3
 a3 := Tryz.isAgg3
 z3 := Tryz.sizeOf3
 v3 := Tryz.zeroValue3
 t4 := Tryz.underlying4
 a4 := Tryz.isAgg4
 z4 := Tryz.sizeOf4
 v4 := Tryz.zeroValue4
 t5 := Tryz.underlying5
 a5 := Tryz.isAgg5
 z5 := Tryz.sizeOf5
 v5 := Tryz.zeroValue5
 t9 := Tryz.underlying9
 a9 := Tryz.isAgg9
 z9 := Tryz.sizeOf9
 v9 := Tryz.zeroValue9
 t22 := Tryz.underlying63
 a22 := Tryz.isAgg63
 z22 := Tryz.sizeOf63
 v22 := Tryz.zeroValue63
 t23 := Tryz.underlying63
 a23 := Tryz.isAgg63
 z23 := Tryz.sizeOf63
 v23 := Tryz.zeroValue63
 t25 := Tryz.underlying3
 a25 := Tryz.isAgg3
 z25 := Tryz.sizeOf3
 v25 := Tryz.zeroValue3
 t32 := Tryz.underlying187
 a32 := Tryz.isAgg187
 z32 := Tryz.sizeOf187
 v32 := Tryz.zeroValue187
 t35 := Tryz.underlying249
 a35 := Tryz.isAgg249
 z35 := Tryz.sizeOf249
 v35 := Tryz.zeroValue249
 t36 := Tryz.underlying250
 a36 := Tryz.isAgg250
 z36 := Tryz.sizeOf250
 v36 := Tryz.zeroValue250
 t41 := Tryz.underlying114
 a41 := Tryz.isAgg114
 z41 := Tryz.sizeOf114
 v41 := Tryz.zeroValue114
 t44 := Tryz.underlying240
 a44 := Tryz.isAgg240
 z44 := Tryz.sizeOf240
 v44 := Tryz.zeroValue240
 t46 := Tryz.underlying243
 a46 := Tryz.isAgg243
 z46 := Tryz.sizeOf243
 v46 := Tryz.zeroValue243
 t53 := Tryz.underlying285
 a53 := Tryz.isAgg285
 z53 := Tryz.sizeOf285
 v53 := Tryz.zeroValue285
 t57 := Tryz.underlying289
 a57 := Tryz.isAgg289
 z57 := Tryz.sizeOf289
 v57 := Tryz.zeroValue289
 t63 := Tryz.underlying304
 a63 := Tryz.isAgg304
 z63 := Tryz.sizeOf304
 v63 := Tryz.zeroValue304
 t64 := Tryz.underlying305
 a64 := Tryz.isAgg305
 z64 := Tryz.sizeOf305
 v64 := Tryz.zeroValue305 }
end Go.Proofs

set_option linter.unusedVariables false
set_option linter.unusedSimpArgs false
namespace Go.Ev
open Go.Proofs Go.RowKit Go.Sort
def sortZs (l : List Int) : List Int := l.mergeSort fun x y => decide (x ≤ y)
theorem sortZs_perm (l : List Int) : (sortZs l).Perm l := List.mergeSort_perm ..
theorem sortZs_len (l : List Int) : (sortZs l).length = l.length := (sortZs_perm l).length_eq
theorem setCells_row {g : Nat} {e : TypeId} : ∀ (vs : List Value) (o : Nat) (w : World) (cur : Array Value), w.heap[g]? = some (.cells cur e (0, 0)) → ∃ cur', (w.setCells g o vs).heap[g]? = some (.cells cur' e (0, 0)) ∧ cur'.size = cur.size
 | [], _, _, cur, h => ⟨cur, h, rfl⟩
 | v :: vs, o, w, cur, h => by
  have h1 : Blk w g e cur := h
  obtain ⟨cur', h2, h3⟩ := setCells_row vs (o + 1) (w.setCell ⟨g, o, none⟩ v) _ (h1.set o v)
  exact ⟨cur', h2, by rw [h3]; simp⟩
theorem setCells_keeps {g : Nat} : ∀ (vs : List Value) (o : Nat) (w : World), Keeps (fun k => k = g) w (w.setCells g o vs)
 | [], _, w => Keeps.refl _ w
 | v :: vs, o, w => ((Keeps.refl (fun k => k = g) w).setCell (p := ⟨g, o, none⟩) (fun _ => rfl) v).trans (setCells_keeps vs (o + 1) _) fun _ _ e => e
theorem keeps_grow (S : Nat → Prop) (w : World) (os : Array Obj) : Keeps S w (Sort.grow w os) :=
 ⟨rfl, rfl, rfl, by simp [Sort.grow], fun k hk _ => by simp [Sort.grow, Array.getElem?_append, hk]⟩
def SortP (v : Value) (l : List Int) (base : Nat) (w : World) (e : Ending) (w' : World) : Prop :=
 e = .returned (.tuple #[]) ∧ w'.ownsRow base 3 1 v l.length (intsV (sortZs l)) ∧ Keeps (fun k => v.ownBlock = some k) w w'
theorem sort_any (v : Value) (l : List Int) (base : Nat) (w : World) (h : w.ownsRow base 3 1 v l.length (intsV l)) (hl : l.length ≤ 1000000) :
  Calls Tryz.prog 66 #[v] w (SortP v l base w) := by
 have hs := Sl.of_own h
 rcases h.2 with ⟨rfl, h0⟩ | ⟨g, cap, cur, rfl, hb, hg, hn, hm, hcs, hx⟩
 ·have hl0 : l = [] := List.eq_nil_of_length_eq_zero h0
  subst hl0
  refine (AnyM.slices_Sort_int_none Tryz.sortZ none 0 w).mono ?_
  rintro e w' ⟨rfl, rfl⟩
  have e0 : sortZs [] = [] := by simp [sortZs]
  refine ⟨rfl, ?_, Keeps.refl _ _⟩
  rw [e0]
  exact World.ownsRow_nil _ _ _ _
 ·have hB : Blk w g 3 cur := hg
  have hcell : ∀ j, j < l.length → w.cell? ⟨g, 0 + j, none⟩ = some (.int .i64 (l.getD j 0)) := fun j hj => by
   obtain ⟨_, _, e0, _, _, hc⟩ := hs
   cases e0
   obtain ⟨g', o, e1, _, hc⟩ := hc (by omega)
   cases e1
   refine hc j _ ?_
   simp [intsV, hj, List.getD_eq_getElem?_getD]
  have hfr : ∀ j, j < l.length → w.frozen? ⟨g, 0 + j, none⟩ = false := fun j _ => hB.frozen _
  have hH := Lib.holds_of_ints (n := l.length) (Nat.le_refl _) hcell hfr
  rw [List.take_length] at hH
  refine (AnyM.slices_Sort_int Tryz.sortZ g 0 cap l w hH hB.lt (by omega)).mono ?_
  rintro e w' ⟨rfl, q, os, hw⟩
  rw [Lib.sorted_world (Value.int .i64) w g 0 q l.toArray (l.mergeSort fun x y => decide (x ≤ y)) os hH (by simp)] at hw
  replace hw : w' = Sort.grow ((w.drewN q).setCells g 0 ((sortZs l).map (Value.int .i64))) os := hw
  have hcs2 := Lib.cells_sorted_ints (q := q) (os := os) (n := l.length) (ys := sortZs l) (Nat.le_refl _) (sortZs_len l) hcell
  have hK : Keeps (fun k => k = g) w w' := by
   rw [hw]
   exact (((Keeps.refl (fun k => k = g) w).drewN q).trans (setCells_keeps _ 0 _) fun _ _ e => e).trans (keeps_grow _ _ os) fun _ _ e => e
  obtain ⟨cur', h2, h3⟩ := setCells_row (e := 3) ((sortZs l).map (Value.int .i64)) 0 (w.drewN q) cur (hB.drewN q)
  have h4 : w'.heap[g]? = some (.cells cur' 3 (0, 0)) := by
   rw [hw]
   exact ((keeps_grow (fun _ => False) ((w.drewN q).setCells g 0 ((sortZs l).map (Value.int .i64))) os).block g (Array.getElem?_eq_some_iff.1 h2).1 (fun h => h)).trans h2
  refine ⟨rfl, ⟨by simp [intsV, sortZs_len], .inr ⟨g, cap, cur', rfl, hb, h4, hn, hm, by rw [h3, hcs], ?_⟩⟩, hK.mono fun i _ e => by rw [e]; rfl⟩
  refine List.ext_getElem? fun j => ?_
  have hc' := fun j => cell_of_row w' g j cur' 3 (0, 0) h4
  rw [List.getElem?_take]
  by_cases hj : j < l.length
  ·rw [if_pos (by omega), Array.getElem?_toList, ← hc' j]
   have := hcs2 j (by simp [sortZs_len, hj])
   rw [← hw, Nat.zero_add] at this
   rw [this]
   have hj2 : j < (sortZs l).length := by rw [sortZs_len]; exact hj
   simp [intsV, hj2, List.getD_eq_getElem?_getD]
  ·rw [if_neg (by omega), List.getElem?_eq_none (by simp [intsV, sortZs_len]; omega)]
end Go.Ev

set_option linter.unusedVariables false
set_option linter.unusedSimpArgs false
namespace Go.Ev
open Go.Proofs Go.RowKit
theorem devNew_any (most : Nat) (w : World) (h1 : 1 ≤ most) (h2 : most ≤ 3000) :
  Calls Tryz.prog 25 #[.int .i64 most] w fun e w' => e = .returned (.tuple #[ptrV w.heap.size, .int .i64 0]) ∧
   w.alloc (.cells #[.int .i64 most, .bool true, .bool false, .int .i64 0, .slice none 0 0, .slice none 0 0, .chan none] 120) = w' := by
 have g1 : ¬ (most : Int) < 1 := by omega
 have g2 : ¬ (3000 : Int) < (most : Int) := by omega
 go_enter Tryz.func25, Tryz.ntmps25
 go_wp2
 go_ret2
 exact ⟨rfl, rfl⟩
theorem DevAt.new (most : Nat) (w : World) (h2 : most ≤ 3000) :
  DevAt (w.alloc (.cells #[.int .i64 most, .bool true, .bool false, .int .i64 0, .slice none 0 0, .slice none 0 0, .chan none] 120)) w.heap.size most 0 (.slice none 0 0) (.slice none 0 0) :=
 ⟨Blk.new _ _ _, ⟨_, World.ownsRow_nil _ _ _ _⟩, ⟨_, World.ownsRow_nil _ _ _ _⟩, fun k h => (by cases h), ⟨by omega, by omega⟩⟩
theorem refNew_any (most : Nat) (w : World) (h1 : 1 ≤ most) (h2 : most ≤ 3000) :
  Calls Tryz.prog 26 #[.int .i64 most] w fun e w' => e = .returned (.tuple #[ptrV w.heap.size, .int .i64 0]) ∧ w.alloc (.cells (refDev most) 123) = w' := by
 have g1 : ¬ (most : Int) < 1 := by omega
 have g2 : ¬ (3000 : Int) < (most : Int) := by omega
 go_enter Tryz.func26, Tryz.ntmps26
 go_wp2
 go_ret2
 exact ⟨rfl, rfl⟩
theorem freePut_any (b : Nat) (w : World) :
  Calls Tryz.prog 109 #[ptrV b, .slice none 0 0] w fun e w' => e = .returned (.tuple #[]) ∧ w' = w := by
 go_enter Tryz.func109, Tryz.ntmps109
 go_wp2
 go_loopg [10] 0 (fun gk s10 wr => s10 = .int .i64 0 ∧ wr = w)
 case atStart => exact ⟨rfl, rfl⟩
 case round =>
  obtain ⟨rfl, rfl⟩ := hrel
  go_wp2_with (fail)
  refine bodyPost_end (results_none rfl _ _ _) rfl ?_
  exact ⟨rfl, rfl⟩
theorem freeNew_any (w : World) :
  Calls Tryz.prog 29 #[.slice none 0 0] w fun e w' => e = .returned (ptrV w.heap.size) ∧ w.alloc (.cells #[.slice none 0 0, .slice none 0 0, .map none] 134) = w' := by
 have hB : ∀ W : World, Calls Tryz.prog 62 #[ptrV w.heap.size, .slice none 0 0] W fun e w' => e = .returned (.tuple #[]) ∧ w' = W := by
  intro W
  go_enter Tryz.func62, Tryz.ntmps62
  go_wp2_with (fail)
  go_must (refine (freePut_any _ _).mono ?_)
  rintro e w1 ⟨rfl, rfl⟩
  go_wp2
  refine bodyPost_end (results_none rfl _ _ _) rfl ?_
  exact ⟨rfl, rfl⟩
 go_enter Tryz.func29, Tryz.ntmps29
 go_wp2_with (fail)
 go_must (refine (hB _).mono ?_)
 rintro e w1 ⟨rfl, rfl⟩
 go_wp2
 go_ret
 exact ⟨rfl, rfl⟩
end Go.Ev

set_option linter.unusedVariables false
set_option linter.unusedSimpArgs false
namespace Go.Ev
open Go.Proofs Go.RowKit
set_option maxRecDepth 100000 in
theorem cloneNil_any (w : World) : Calls Tryz.prog 114 #[.slice none 0 0] w fun e w' => e = .returned (.slice none 0 0) ∧ w = w' := by
 have q22 : ∀ (w : World) (a : Option Addr) (n c n' c' : Nat), (binOp .eql 63 (.slice a n c) (.slice none n' c')).run Tryz.prog w = .ok (.bool a.isNone) w := fun w a n c n' c' => Lib.run_eql_slice_nil w _ 3 a n c n' c' Tryz.underlying63
 go_enter Tryz.func114, Tryz.ntmps114
 go_wp2
 go_ret
 exact ⟨rfl, rfl⟩
theorem heapInit_nil (b : Nat) (w : World) (h : w.cell? ⟨b, 0, none⟩ = some (.slice none 0 0)) :
  Calls Tryz.prog 115 #[.iface 206 (.pointer (some ⟨b, 0, none⟩))] w fun e w' => e = .returned (.tuple #[]) ∧ w = w' := by
 have hm := m_len b _ w h
 go_enter Tryz.func115, Tryz.ntmps115
 go_wp2_with (fail)
 go_must (refine (lenN_any _ _ _ _).mono ?_)
 rintro e w2 ⟨rfl, rfl⟩
 go_wp2_with (fail)
 go_loopg [3] 0 (fun gk s3 wr => s3 = .int .i64 (-1) ∧ wr = w2)
 case atStart => exact ⟨rfl, rfl⟩
 case round =>
  obtain ⟨rfl, rfl⟩ := hrel
  go_wp2_with (fail)
  refine bodyPost_end (results_none rfl _ _ _) rfl ?_
  exact ⟨rfl, rfl⟩
theorem pileNew_any (w : World) :
  Calls Tryz.prog 67 #[.slice none 0 0] w fun e w' => e = .returned (ptrV w.heap.size) ∧ w.alloc (.cells #[.slice none 0 0] 130) = w' := by
 have hb : Blk (w.alloc (.cells #[.slice none 0 0] 130)) w.heap.size 130 #[.slice none 0 0] := Blk.new _ _ _
 have hI := Lib.hid (heapInit_nil w.heap.size _ (hb.cell 0))
 clear hb
 go_enter Tryz.func67, Tryz.ntmps67
 go_wp2_with (fail)
 go_must (refine (cloneNil_any _).mono ?_)
 rintro e w1 ⟨rfl, rfl⟩
 go_wp2_with (fail)
 go_must (refine hI.out.mono ?_)
 rintro e w2 ⟨rfl, rfl⟩
 go_wp2
 go_ret
 exact ⟨rfl, rfl⟩
def pg0 (d f : Nat) : Array Value := #[ptrV d, ptrV f, .int .i64 2, .int .i64 2, .int .i64 1, .map none, .map none, .map none, .pointer none]
def ClearP (p d f : Nat) (w : World) (e : Ending) (w' : World) : Prop :=
 e = .returned (.tuple #[]) ∧ ∃ mb db wb sb, Blk w' p 81 #[ptrV d, ptrV f, .int .i64 2, .int .i64 2, .int .i64 1, .map (some mb), .map (some db), .map (some wb), ptrV sb] ∧ MapI w' mb [] 0 ∧ MapI w' db [] 0 ∧ MapI w' wb [] 0 ∧ Pl w' sb (.slice none 0 0) [] ∧
  w.heap.size ≤ mb ∧ mb < db ∧ db < wb ∧ wb < sb ∧ Keeps (fun k => k = p) w w'
theorem MapI.newM (w : World) : MapI (w.alloc (.map #[] 0)) w.heap.size [] 0 := heap_alloc_new w _
theorem MapI.allocM {w : World} {b c : Nat} {l : List Ent} (h : MapI w b l c) (o : Obj) : MapI (w.alloc o) b l c := h.keeps (S := fun _ => False) (Keeps.of_below ((Below.refl _ w).alloc (Nat.le_refl _) o)) fun h => h
theorem pl_new (w : World) : Pl (w.alloc (.cells #[.slice none 0 0] 130)) w.heap.size (.slice none 0 0) [] := by
 have hb : Blk (w.alloc (.cells #[.slice none 0 0] 130)) w.heap.size 130 #[.slice none 0 0] := Blk.new _ _ _
 exact ⟨hb.cell 0, hb.frozen 0, hb.lt, World.ownsRow_nil _ _ _ _, by simp [Value.ownBlock]⟩
theorem clear_end {p d f : Nat} {w w1 w2 w3 w4 : World} (h : Blk w p 81 (pg0 d f)) (e1 : w.alloc (.map #[] 0) = w1) (e2 : w1.alloc (.map #[] 0) = w2) (e3 : w2.alloc (.map #[] 0) = w3) (e4 : w3.alloc (.cells #[.slice none 0 0] 130) = w4) :
  ClearP p d f w (.returned (.tuple #[])) ((((w4.setCell ⟨p, 5, none⟩ (.map (some w.heap.size))).setCell ⟨p, 6, none⟩ (.map (some w1.heap.size))).setCell ⟨p, 7, none⟩ (.map (some w2.heap.size))).setCell ⟨p, 8, none⟩ (ptrV w3.heap.size)) := by
 have hp := h.lt
 have z1 : w1.heap.size = w.heap.size + 1 := by subst e1; simp
 have z2 : w2.heap.size = w.heap.size + 2 := by subst e2; simp [z1]
 have z3 : w3.heap.size = w.heap.size + 3 := by subst e3; simp [z2]
 have hb : Blk w4 p 81 (pg0 d f) := by subst e4 e3 e2 e1; exact (((h.alloc _).alloc _).alloc _).alloc _
 have K : Keeps (fun k => k = p) w4 ((((w4.setCell ⟨p, 5, none⟩ (.map (some w.heap.size))).setCell ⟨p, 6, none⟩ (.map (some w1.heap.size))).setCell ⟨p, 7, none⟩ (.map (some w2.heap.size))).setCell ⟨p, 8, none⟩ (ptrV w3.heap.size)) :=
  ((((Keeps.refl (fun k => k = p) w4).setCell (p := ⟨p, 5, none⟩) (fun _ => rfl) _).setCell (p := ⟨p, 6, none⟩) (fun _ => rfl) _).setCell (p := ⟨p, 7, none⟩) (fun _ => rfl) _).setCell (p := ⟨p, 8, none⟩) (fun _ => rfl) _
 have K0 : Keeps (fun k => k = p) w w4 := by subst e4 e3 e2 e1; exact ((((Keeps.refl _ w).alloc _).alloc _).alloc _).alloc _
 have m1 : MapI w4 w.heap.size [] 0 := by subst e4 e3 e2 e1; exact (((MapI.newM w).allocM _).allocM _).allocM _
 have m2 : MapI w4 w1.heap.size [] 0 := by subst e4 e3 e2; exact ((MapI.newM w1).allocM _).allocM _
 have m3 : MapI w4 w2.heap.size [] 0 := by subst e4 e3; exact (MapI.newM w2).allocM _
 have m4 : Pl w4 w3.heap.size (.slice none 0 0) [] := by subst e4; exact pl_new w3
 refine ⟨rfl, w.heap.size, w1.heap.size, w2.heap.size, w3.heap.size, ?_, m1.keeps K (by omega), m2.keeps K (by omega), m3.keeps K (by omega), m4.keeps K (by omega) (fun k e => by cases e), by omega, by omega, by omega, by omega, K0.trans K fun _ _ e => e⟩
 exact (((hb.set 5 _).set 6 _).set 7 _).set 8 _
set_option maxHeartbeats 1000000 in
theorem clear_any (p d f : Nat) (w : World) (h : Blk w p 81 (pg0 d f)) : Calls Tryz.prog 35 #[ptrV p] w (ClearP p d f w) := by
 have hp := h.lt
 obtain ⟨w1, e1⟩ : ∃ w1, w.alloc (.map #[] 0) = w1 := ⟨_, rfl⟩
 obtain ⟨w2, e2⟩ : ∃ w2, w1.alloc (.map #[] 0) = w2 := ⟨_, rfl⟩
 obtain ⟨w3, e3⟩ : ∃ w3, w2.alloc (.map #[] 0) = w3 := ⟨_, rfl⟩
 obtain ⟨w4, e4⟩ : ∃ w4, w3.alloc (.cells #[.slice none 0 0] 130) = w4 := ⟨_, rfl⟩
 have hb : Blk w4 p 81 (pg0 d f) := by subst e4 e3 e2 e1; exact (((h.alloc _).alloc _).alloc _).alloc _
 have HE := Lib.hid (clear_end h e1 e2 e3 e4)
 have f5 := hb.frozen 5
 have f6 := hb.frozen 6
 have f7 := hb.frozen 7
 have f8 := hb.frozen 8
 have c5 : w4.cell? ⟨p, 5, none⟩ = some (.map none) := hb.cell 5
 have c6 : w4.cell? ⟨p, 6, none⟩ = some (.map none) := hb.cell 6
 have c7 : w4.cell? ⟨p, 7, none⟩ = some (.map none) := hb.cell 7
 have c8 : w4.cell? ⟨p, 8, none⟩ = some (.pointer none) := hb.cell 8
 have hN := Lib.hid (pileNew_any w3)
 rw [e4] at hN
 subst e1 e2 e3
 clear e4 hb h
 have hMM : ∀ (t : TypeId) (W : World), (Instr.makeMap t none).run Tryz.prog W = .ok (.map (some W.heap.size)) (W.alloc (.map #[] 0)) := fun t W => run_makeMap t W
 go_enter Tryz.func35, Tryz.ntmps35
 go_wp2_with (fail)
 go_must (refine hN.out.mono ?_)
 rintro e w5 ⟨rfl, rfl⟩
 go_wp2_with (fail)
 go_end0
 have hE := HE.out
 simp only [World.size_alloc] at hE
 exact hE
set_option maxRecDepth 100000 in
theorem listNil_any (f : Nat) (w : World) (h : w.cell? ⟨f, 0, none⟩ = some (.slice none 0 0)) :
  Calls Tryz.prog 65 #[ptrV f] w fun e w' => e = .returned (.slice none 0 0) ∧ Below w.heap.size w w' := by
 go_enter Tryz.func65, Tryz.ntmps65
 have hV : Calls Tryz.prog 111 #[.slice none 0 0] w fun e w' => e = .returned (.func (.func 150) #[] #[.pointer (some ⟨w.heap.size, 0, none⟩)]) ∧ w.alloc (.cells #[.slice none 0 0] 128) = w' := by
  go_enter Tryz.func111, Tryz.ntmps111
  go_wp2
  go_ret
  exact ⟨rfl, rfl⟩
 go_wp2_with (fail)
 go_must (refine hV.mono ?_)
 rintro e w1 ⟨rfl, rfl⟩
 go_wp2_with (fail)
 go_must (refine (sorted_nil (Blk.new _ _ _)).mono ?_)
 rintro e w2 ⟨rfl, hk⟩
 go_wp2_with (fail)
 go_ret
 refine ⟨rfl, ((Below.refl _ w).alloc (Nat.le_refl _) _).trans (hk.below (by simp) fun i hi e => by omega)⟩
set_option maxRecDepth 100000 in
set_option maxHeartbeats 2000000 in
theorem freeAll_any (f : Nat) (w : World) (h : Blk w f 134 #[.slice none 0 0, .slice none 0 0, .map none]) :
  Calls Tryz.prog 33 #[ptrV f] w fun e w' => e = .returned (.slice none 0 0) ∧ Below w.heap.size w w' := by
 have hL := Lib.hid (listNil_any f w (h.cell 0))
 have hlt := h.lt
 have g1 : w.cell? ⟨f, 1, none⟩ = some (.slice none 0 0) := h.cell 1
 clear h
 go_enter Tryz.func33, Tryz.ntmps33
 go_wp2_with (fail)
 go_must (refine hL.out.mono ?_)
 rintro e w1 ⟨rfl, hb⟩
 have g1' : w1.cell? ⟨f, 1, none⟩ = some (.slice none 0 0) := (hb.cell (p := ⟨f, 1, none⟩) hlt).trans g1
 go_wp2_with (fail)
 go_loopg [3, 17] 0 (fun gk s3 s17 wr => s3 = .slice none 0 0 ∧ s17 = .int .i64 0 ∧ wr = w1)
 case atStart => exact ⟨rfl, rfl, rfl⟩
 case round =>
  obtain ⟨rfl, rfl, rfl⟩ := hrel
  go_wp2_with (fail)
  go_must (refine (sort_nil _).mono ?_)
  rintro e w2 ⟨rfl, hb2⟩
  go_wp2_with (fail)
  go_ret
  exact ⟨rfl, hb.trans (hb2.mono hb.size)⟩
set_option maxRecDepth 100000 in
theorem indexNil_any (F : Value) (w : World) : Calls Tryz.prog 64 #[.slice none 0 0, F] w fun e w' => e = .returned (.int .i64 (-1)) ∧ w = w' := by
 go_enter Tryz.func64, Tryz.ntmps64
 go_wp2_with (fail)
 go_loopg [8] 0 (fun gk s8 wr => s8 = .int .i64 0 ∧ wr = w)
 case atStart => exact ⟨rfl, rfl⟩
 case round =>
  obtain ⟨rfl, rfl⟩ := hrel
  go_wp2_with (fail)
  go_ret
  exact ⟨rfl, rfl⟩
set_option maxRecDepth 100000 in
theorem containsNil_any (F : Value) (w : World) : Calls Tryz.prog 32 #[.slice none 0 0, F] w fun e w' => e = .returned (.bool false) ∧ w = w' := by
 go_enter Tryz.func32, Tryz.ntmps32
 go_wp2_with (fail)
 go_must (refine (indexNil_any _ _).mono ?_)
 rintro e w1 ⟨rfl, rfl⟩
 go_wp2
 go_ret
 exact ⟨rfl, rfl⟩
end Go.Ev

set_option linter.unusedVariables false
set_option linter.unusedSimpArgs false
namespace Go.Ev
open Go.Proofs Go.RowKit
def pairCs (q : Pair) : List Value := [strV q.1, strV q.2]
def pairsCs : List Pair → List Value
 | [] => []
 | q :: l => pairCs q ++ pairsCs l
theorem pairsCs_app : ∀ a b : List Pair, pairsCs (a ++ b) = pairsCs a ++ pairsCs b
 | [], _ => rfl
 | q :: a, b => by simp [pairsCs, pairsCs_app a b]
theorem pairsCs_one : ∀ l : List Pair, ∀ u ∈ pairsCs l, u.oneCell' = true
 | [], u, h => by simp [pairsCs] at h
 | q :: l, u, h => by
  simp only [pairsCs, pairCs, List.cons_append, List.nil_append, List.mem_cons] at h
  rcases h with rfl | rfl | h
  ·rfl
  ·rfl
  ·exact pairsCs_one l u h
theorem pairsCs_at : ∀ (l : List Pair) (k : Nat) (hk : k < l.length), (pairsCs l)[k * 2]? = some (strV l[k].1) ∧ (pairsCs l)[k * 2 + 1]? = some (strV l[k].2)
 | q :: l, 0, _ => ⟨rfl, rfl⟩
 | q :: l, k + 1, h => by
  have ih := pairsCs_at l k (by simpa using h)
  rw [show (k + 1) * 2 = k * 2 + 2 by omega]
  simpa [pairsCs, pairCs] using ih
def aheadP (k : Bytes) : List Pair → Nat
 | [] => 0
 | q :: l => if lessB q.1 k then aheadP k l + 1 else 0
def isAtP (k : Bytes) : List Pair → Bool
 | [] => false
 | q :: l => if lessB q.1 k then isAtP k l else q.1 == k
theorem aheadP_le (k : Bytes) : ∀ l : List Pair, aheadP k l ≤ l.length
 | [] => Nat.le_refl _
 | q :: l => by
  have := aheadP_le k l
  simp only [aheadP, List.length_cons]
  split <;> omega
theorem isAtP_eq (k : Bytes) : ∀ l : List Pair, isAtP k l = match l[aheadP k l]? with | some q => q.1 == k | none => false
 | [] => rfl
 | q :: l => by
  have ih := isAtP_eq k l
  simp only [isAtP, aheadP]
  split
  ·rw [ih]; simp
  ·simp
end Go.Ev

namespace Go.Ev
open Go.Lib
structure Tr where
 root : Int
 ps : List Pair
 ids : List Int
 n : Nat
def idsT (T : List Tr) : List Int := T.flatMap (·.ids)
theorem idsT_cons (t : Tr) (T : List Tr) : idsT (t :: T) = t.ids ++ idsT T := by simp [idsT]
theorem idsT_mem {T : List Tr} {i : Int} : i ∈ idsT T ↔ ∃ t ∈ T, i ∈ t.ids := by simp [idsT]
theorem idsT_perm {T T' : List Tr} (h : T.Perm T') : (idsT T).Perm (idsT T') := by
 unfold idsT
 exact List.Perm.flatMap_right _ h
structure Fam (M : Store) (T : List Tr) (cnt : Nat) : Prop where
 each : ∀ t ∈ T, TreeH M t.root t.ps t.ids t.n
 once : (idsT T).Nodup
 cnt : cnt = (idsT T).length
theorem Fam.perm {M : Store} {T T' : List Tr} {cnt : Nat} (h : Fam M T cnt) (hp : T.Perm T') : Fam M T' cnt :=
 ⟨fun t ht => h.each t (hp.mem_iff.2 ht), (idsT_perm hp).nodup_iff.1 h.once, by rw [h.cnt]; exact (idsT_perm hp).length_eq⟩
theorem Fam.there {M : Store} {T : List Tr} {cnt : Nat} (h : Fam M T cnt) : ∀ i ∈ idsT T, M i ≠ none := fun i hi => by
 obtain ⟨t, ht, hi⟩ := idsT_mem.1 hi
 exact (h.each t ht).there i hi
theorem Fam.apart {M : Store} {t : Tr} {T : List Tr} {cnt : Nat} (h : Fam M (t :: T) cnt) : ∀ i ∈ t.ids, i ∉ idsT T := fun i hi hT => by
 have := h.once
 rw [idsT_cons, List.nodup_append] at this
 exact this.2.2 i hi i hT rfl
theorem Fam.change {M M' : Store} {t t' : Tr} {T : List Tr} {cnt cnt' : Nat} (h : Fam M (t :: T) cnt) (ht : TreeH M' t'.root t'.ps t'.ids t'.n) (hc : cnt' + t.ids.length = cnt + t'.ids.length) (hs : ∀ i, i ∉ t.ids → M i ≠ none → M' i = M i) (hf : ∀ i ∈ t'.ids, i ∈ t.ids ∨ M i = none) : Fam M' (t' :: T) cnt' := by
 have hth := h.there
 have hap := h.apart
 have hsame : ∀ i ∈ idsT T, M' i = M i := fun i hi => hs i (fun e => hap i e hi) (hth i (by rw [idsT_cons]; exact List.mem_append_right _ hi))
 refine ⟨fun x hx => ?_, ?_, ?_⟩
 ·rcases List.mem_cons.1 hx with rfl | hx
  ·exact ht
  ·exact (h.each x (List.mem_cons_of_mem _ hx)).same fun i hi => hsame i (idsT_mem.2 ⟨x, hx, hi⟩)
 ·have h1 := h.once
  rw [idsT_cons, List.nodup_append] at h1 ⊢
  refine ⟨ht.once, h1.2.1, fun a ha b hb e => ?_⟩
  subst e
  rcases hf a ha with e | e
  ·exact hap a e hb
  ·exact hth a (by rw [idsT_cons]; exact List.mem_append_right _ hb) e
 ·have h1 := h.cnt
  rw [idsT_cons, List.length_append] at h1 ⊢
  omega
theorem Fam.new {M : Store} {T : List Tr} {cnt : Nat} {root : Int} (h : Fam M T cnt) (hr : M root = none) : Fam (updS M root (some ⟨2, 0, []⟩)) (⟨root, [], [root], 0⟩ :: T) (cnt + 1) := by
 have hth := h.there
 have hsame : ∀ i ∈ idsT T, updS M root (some ⟨2, 0, []⟩) i = M i := fun i hi => by
  unfold updS
  rw [if_neg fun e => hth i hi (by rw [e]; exact hr)]
 refine ⟨fun x hx => ?_, ?_, ?_⟩
 ·rcases List.mem_cons.1 hx with rfl | hx
  ·exact TreeH.new (by simp [updS])
  ·exact (h.each x hx).same fun i hi => hsame i (idsT_mem.2 ⟨x, hx, hi⟩)
 ·rw [idsT_cons]
  refine List.nodup_append.2 ⟨by simp, h.once, fun a ha b hb e => ?_⟩
  rw [List.mem_singleton] at ha
  subst e ha
  exact hth a hb hr
 ·rw [idsT_cons, List.length_append, ← h.cnt, Nat.add_comm]
  rfl
theorem Fam.drop {M M' : Store} {t : Tr} {T : List Tr} {cnt : Nat} (h : Fam M (t :: T) cnt) (hs : ∀ i, M' i = if i ∈ t.ids then none else M i) : Fam M' T (cnt - t.ids.length) := by
 have hap := h.apart
 have hsame : ∀ i ∈ idsT T, M' i = M i := fun i hi => by rw [hs i, if_neg fun e => hap i e hi]
 refine ⟨fun x hx => (h.each x (List.mem_cons_of_mem _ hx)).same fun i hi => hsame i (idsT_mem.2 ⟨x, hx, hi⟩), ?_, ?_⟩
 ·have h1 := h.once
  rw [idsT_cons, List.nodup_append] at h1
  exact h1.2.1
 ·have h1 := h.cnt
  rw [idsT_cons, List.length_append] at h1
  omega
def fix4 (v : Int) : List UInt8 := (List.range 4).map fun k => UInt8.ofNat (v.toNat / 2 ^ (8 * k) % 256)
theorem fix4_len (v : Int) : (fix4 v).length = 4 := by simp [fix4]
structure Bk where
 name : List UInt8
 t : Tr
def topP (L : List Bk) : List Pair := L.map fun b => (b.name, fix4 b.t.root)
def insB (b : Bk) : List Bk → List Bk
 | [] => [b]
 | x :: l => if lessB x.name b.name then x :: insB b l else if lessB b.name x.name then b :: x :: l else b :: l
def delB (k : List UInt8) : List Bk → List Bk
 | [] => []
 | x :: l => if x.name = k then l else x :: delB k l
def getB (k : List UInt8) : List Bk → Option Bk
 | [] => none
 | x :: l => if x.name = k then some x else getB k l
theorem topP_ins (b : Bk) : ∀ L : List Bk, topP (insB b L) = insP b.name (fix4 b.t.root) (topP L)
 | [] => rfl
 | x :: l => by
  have ih := topP_ins b l
  unfold topP at ih ⊢
  simp only [insB, List.map_cons, insP]
  split
  ·simp only [List.map_cons, ih]
  ·split
   ·simp only [List.map_cons]
   ·simp only [List.map_cons]
theorem topP_del (k : List UInt8) : ∀ L : List Bk, topP (delB k L) = delP k (topP L)
 | [] => rfl
 | x :: l => by
  have ih := topP_del k l
  unfold topP at ih ⊢
  simp only [delB, List.map_cons, delP]
  split
  ·rfl
  ·simp only [List.map_cons, ih]
theorem topP_get (k : List UInt8) : ∀ L : List Bk, getP k (topP L) = (getB k L).map fun b => fix4 b.t.root
 | [] => rfl
 | x :: l => by
  have ih := topP_get k l
  unfold topP at ih ⊢
  simp only [getB, List.map_cons, getP]
  split
  ·rfl
  ·exact ih
theorem getB_name {k : List UInt8} : ∀ {L : List Bk} {b : Bk}, getB k L = some b → b.name = k ∧ b ∈ L
 | x :: l, b, h => by
  simp only [getB] at h
  split at h
  ·rename_i e
   cases h
   exact ⟨e, List.mem_cons_self ..⟩
  ·obtain ⟨h1, h2⟩ := getB_name h
   exact ⟨h1, List.mem_cons_of_mem _ h2⟩
def RiseB (L : List Bk) : Prop := Rising (topP L)
theorem RiseB.tail {x : Bk} {l : List Bk} (h : RiseB (x :: l)) : (∀ b ∈ l, lessB x.name b.name = true) ∧ RiseB l := by
 obtain ⟨h1, h2⟩ := h
 exact ⟨fun b hb => h1 (b.name, fix4 b.t.root) (List.mem_map_of_mem (f := fun b : Bk => (b.name, fix4 b.t.root)) hb), h2⟩
theorem delB_perm {k : List UInt8} : ∀ {L : List Bk} {b : Bk}, getB k L = some b → L.Perm (b :: delB k L)
 | x :: l, b, h => by
  simp only [getB] at h
  simp only [delB]
  split at h
  ·rename_i e
   cases h
   rw [if_pos e]
  ·rename_i e
   rw [if_neg e]
   exact ((delB_perm h).cons x).trans (List.Perm.swap ..)
theorem insB_perm {b' : Bk} : ∀ {L : List Bk}, RiseB L → (insB b' L).Perm (b' :: delB b'.name L)
 | [], _ => List.Perm.refl _
 | x :: l, h => by
  obtain ⟨h1, h2⟩ := h.tail
  simp only [insB, delB]
  split
  ·rename_i e
   rw [if_neg (lessB_ne e)]
   exact ((insB_perm h2).cons x).trans (List.Perm.swap ..)
  ·split
   ·rename_i e e2
    rw [if_neg (lessB_ne e2).symm]
    have : delB b'.name l = l := by
     have hno : ∀ b ∈ l, b.name ≠ b'.name := fun b hb => (lessB_ne (lessB_trans e2 (h1 b hb))).symm
     clear h h1 h2
     induction l with
     | nil => rfl
     | cons y l ih =>
      simp only [delB]
      rw [if_neg (hno y (List.mem_cons_self ..)), ih fun b hb => hno b (List.mem_cons_of_mem _ hb)]
    rw [this]
   ·rename_i e e2
    have hx : x.name = b'.name := by
     rcases lessB_total x.name b'.name with h | h | h
     ·exact absurd h e
     ·exact h
     ·exact absurd h e2
    rw [if_pos hx]
theorem delB_none {k : List UInt8} : ∀ {L : List Bk}, getB k L = none → delB k L = L
 | [], _ => rfl
 | x :: l, h => by
  simp only [getB] at h
  simp only [delB]
  split at h
  ·cases h
  ·rename_i e
   rw [if_neg e, delB_none h]
structure Forest (M : Store) (root : Int) (rids : List Int) (rn : Nat) (L : List Bk) (cnt : Nat) : Prop where
 fam : Fam M (⟨root, topP L, rids, rn⟩ :: L.map (·.t)) cnt
 num : ∀ b ∈ L, 0 ≤ b.t.root ∧ b.t.root < 4294967296
theorem Forest.rise {M : Store} {root : Int} {rids : List Int} {rn : Nat} {L : List Bk} {cnt : Nat} (h : Forest M root rids rn L cnt) : RiseB L := by
 obtain ⟨⟨k, S, h1, _⟩, _, _⟩ := h.fam.each _ (List.mem_cons_self ..)
 exact h1.tree.rising
theorem Forest.front {M : Store} {root : Int} {rids : List Int} {rn : Nat} {L : List Bk} {cnt : Nat} (h : Forest M root rids rn L cnt) {k : List UInt8} {b : Bk} (hb : getB k L = some b) : Fam M (b.t :: ⟨root, topP L, rids, rn⟩ :: (delB k L).map (·.t)) cnt :=
 h.fam.perm ((((delB_perm hb).map (·.t)).cons _).trans (List.Perm.swap ..))
theorem Forest.back {M : Store} {root : Int} {rids : List Int} {rn : Nat} {L : List Bk} {cnt : Nat} {b' : Bk} (hr : RiseB L) (hn : ∀ b ∈ L, 0 ≤ b.t.root ∧ b.t.root < 4294967296) (h0 : 0 ≤ b'.t.root ∧ b'.t.root < 4294967296)
  (h : Fam M (⟨root, insP b'.name (fix4 b'.t.root) (topP L), rids, rn⟩ :: b'.t :: (delB b'.name L).map (·.t)) cnt) : Forest M root rids rn (insB b' L) cnt := by
 have hp := insB_perm (b' := b') hr
 refine ⟨?_, fun b hb => ?_⟩
 ·rw [topP_ins]
  exact h.perm ((hp.map (·.t)).symm.cons _)
 ·rcases List.mem_cons.1 (hp.mem_iff.1 hb) with rfl | hb
  ·exact h0
  ·have : ∀ {l : List Bk}, b ∈ delB b'.name l → b ∈ l := by
    intro l
    induction l with
    | nil => exact fun h => h
    | cons x l ih =>
     simp only [delB]
     split
     ·exact List.mem_cons_of_mem _
     ·intro h
      rcases List.mem_cons.1 h with rfl | h
      ·exact List.mem_cons_self ..
      ·exact List.mem_cons_of_mem _ (ih h)
   exact hn b (this hb)
theorem delB_mem {k : List UInt8} {b : Bk} : ∀ {l : List Bk}, b ∈ delB k l → b ∈ l := by
 intro l
 induction l with
 | nil => exact fun h => h
 | cons x l ih =>
  simp only [delB]
  split
  ·exact List.mem_cons_of_mem _
  ·intro h
   rcases List.mem_cons.1 h with rfl | h
   ·exact List.mem_cons_self ..
   ·exact List.mem_cons_of_mem _ (ih h)
theorem getP_of {k v : List UInt8} : ∀ {l : List Pair}, Rising l → (k, v) ∈ l → getP k l = some v
 | q :: l, h, hm => by
  obtain ⟨h1, h2⟩ := h
  simp only [getP]
  rcases List.mem_cons.1 hm with rfl | hm
  ·simp
  ·rw [if_neg (lessB_ne (h1 _ hm))]
   exact getP_of h2 hm
-- how many pages a tree can have, by its pairs
theorem seg_level {M : Store} {d k : Nat} {hi : Option Bytes} {l : Nat} (hT : ∀ id lo hi ps ids, TreeAt M d k id lo hi ps ids → ps ≠ [] → meas (fun _ => 1) (fun _ => 1) M k id l ≤ ps.length) :
  ∀ {L : List Child} {ps : List Pair} {ids : List Int}, Seg (Sub M d k) L hi ps ids → measL (fun _ => 1) (fun _ => 1) M k L l ≤ ps.length
 | [], _, _, ⟨h1, _⟩ => by subst h1; exact Nat.le_refl _
 | c :: L, _, _, ⟨p1, p2, i1, i2, h1, h2, h3, h4⟩ => by
  subst h1
  have q1 := hT _ _ _ _ _ h3.1 h3.2
  have q2 := seg_level hT h4
  show meas (fun _ => 1) (fun _ => 1) M k c.page l + measL (fun _ => 1) (fun _ => 1) M k L l ≤ _
  rw [List.length_append]
  omega
theorem tree_level {M : Store} {d : Nat} : ∀ {k : Nat} {id : Int} {lo : Bytes} {hi : Option Bytes} {ps : List Pair} {ids : List Int}, TreeAt M d k id lo hi ps ids → ps ≠ [] → ∀ l, l ≤ k → meas (fun _ => 1) (fun _ => 1) M k id l ≤ ps.length
 | 0, id, lo, hi, ps, ids, h, hne, l, hl => by
  have := List.length_pos_iff.2 hne
  have e : l = 0 := by omega
  subst e
  rw [meas0]
  exact this
 | k + 1, id, lo, hi, ps, ids, ⟨c, L, i2, h1, h2, h3, h4, h5, h6, h7⟩, hne, l, hl => by
  have hm := meas_up (f := fun _ => 1) (g := fun _ => 1) (k := k) h1 h2 h3
  by_cases hlk : l = k + 1
  ·subst hlk
   rw [hm.1]
   exact List.length_pos_iff.2 hne
  ·rw [hm.2 l (by omega), measL_head]
   exact seg_level (fun id lo hi ps ids h hne => tree_level h hne l (by omega)) h6
theorem lsum_const (f : Nat → Nat) (c : Nat) : ∀ n, (∀ l, l < n → f l ≤ c) → lsum f n ≤ n * c
 | 0, _ => by simp [lsum]
 | n + 1, h => by
  have h1 := lsum_const f c n fun l hl => h l (by omega)
  have h2 := h n (by omega)
  simp only [lsum]
  rw [Nat.succ_mul]
  omega
theorem Hist.few {M : Store} {k : Nat} {root : Int} {S : Nat → Nat} {n : Nat} (h : Hist M k root S n) : k ≤ n := by
 have h0 := h.pot0
 have hl : ∀ l, S (l + 1) = 0 ∨ S (l + 1) + (l + 1) ≤ n := by
  intro l
  induction l with
  | zero =>
   have h1 := h.potl 0
   simp only [Nat.zero_add] at h1 ⊢
   omega
  | succ l ih =>
   have h1 := h.potl (l + 1)
   omega
 apply Decidable.byContradiction
 intro hk
 have ht := h.top n (by omega)
 cases n with
 | zero => omega
 | succ m => have := hl m; omega
def ndP (n : Nat) (ps : List Pair) : Nat := 240 * (if ps.length ≤ 1 then 1 else min n 17 * ps.length + 1) + sumV ps + 239 * ps.length
theorem meas_top {M : Store} {d : Nat} : ∀ {k : Nat} {id : Int} {lo : Bytes} {hi : Option Bytes} {ps : List Pair} {ids : List Int}, TreeAt M d k id lo hi ps ids → meas (fun _ => 1) (fun _ => 1) M k id k = 1
 | 0, _, _, _, _, _, _ => by rw [meas0]
 | k + 1, _, _, _, _, _, ⟨c, L, i2, h1, h2, h3, h4, h5, h6, h7⟩ => by
  have hm := meas_up (f := fun _ => 1) (g := fun _ => 1) (k := k) h1 h2 h3
  rw [hm.1]
theorem TreeH.need {M : Store} {root : Int} {ps : List Pair} {ids : List Int} {n : Nat} (h : TreeH M root ps ids n) (hn : n ≤ 20000) : 240 * ids.length ≤ ndP n ps := by
 obtain ⟨⟨k, S, h1, h2⟩, _, _⟩ := h
 have hk : k ≤ min n 17 := by have := h2.high17 hn; have := h2.few; omega
 have hl := tree_pages h1.tree
 have htop := meas_top h1.tree
 unfold ndP
 split
 ·rename_i hp
  obtain rfl := h1.low hp
  simp only [lsum, Nat.zero_add] at hl
  rw [htop] at hl
  omega
 ·rename_i hp
  have hne : ps ≠ [] := by
   intro e
   subst e
   simp at hp
  have hc : lsum (fun l => meas (fun _ => 1) (fun _ => 1) M k root l) k ≤ k * ps.length := lsum_const _ _ _ fun l hl => tree_level h1.tree hne l (by omega)
  have hc2 : k * ps.length ≤ min n 17 * ps.length := Nat.mul_le_mul_right _ hk
  simp only [lsum] at hl
  rw [htop] at hl
  omega
def ndT : List Tr → Nat
 | [] => 0
 | t :: T => ndP t.n t.ps + ndT T
theorem Fam.need {M : Store} : ∀ {T : List Tr} {cnt : Nat}, Fam M T cnt → (∀ t ∈ T, t.n ≤ 20000) → 240 * cnt ≤ ndT T
 | [], cnt, h, _ => by rw [h.cnt]; simp [idsT]
 | t :: T, cnt, h, hn => by
  have h1 := (h.each t (List.mem_cons_self ..)).need (hn t (List.mem_cons_self ..))
  have hT : Fam M T (idsT T).length := by
   have ho := h.once
   rw [idsT_cons, List.nodup_append] at ho
   exact ⟨fun x hx => h.each x (List.mem_cons_of_mem _ hx), ho.2.1, rfl⟩
  have h2 := Fam.need hT fun x hx => hn x (List.mem_cons_of_mem _ hx)
  have h3 := h.cnt
  rw [idsT_cons, List.length_append] at h3
  simp only [ndT]
  omega
structure Roomy (most : Nat) (rn : Nat) (L : List Bk) : Prop where
 top : rn ≤ 20000
 each : ∀ b ∈ L, b.t.n ≤ 20000
 room : ndT (⟨0, topP L, [], rn⟩ :: L.map (·.t)) / 240 + 51 ≤ most
theorem Forest.room {M : Store} {root : Int} {rids : List Int} {rn : Nat} {L : List Bk} {cnt most : Nat} (h : Forest M root rids rn L cnt) (hr : Roomy most rn L) : cnt + 51 ≤ most := by
 have := h.fam.need fun t ht => by
  rcases List.mem_cons.1 ht with rfl | ht
  ·exact hr.top
  ·obtain ⟨b, hb, rfl⟩ := List.mem_map.1 ht
   exact hr.each b hb
 have h2 := hr.room
 simp only [ndT] at this h2
 omega
def AfterB (most rn : Nat) (L : List Bk) (name : List UInt8) (ps' : List Pair) (n' : Nat) : Prop :=
 ndT (⟨0, topP L, [], rn⟩ :: L.map (·.t)) / 240 + 98 ≤ most ∨ n' ≤ 20000 ∧ ndT (⟨0, topP L, [], rn⟩ :: ⟨0, ps', [], n'⟩ :: (delB name L).map (·.t)) / 240 + 50 ≤ most
theorem AfterB.room {M M2 : Store} {root r : Int} {rids ids2 : List Int} {rn n' cnt cnt2 most : Nat} {L : List Bk} {name : List UInt8} {ps' : List Pair} (ha : AfterB most rn L name ps' n') (h : Forest M root rids rn L cnt) (hr : Roomy most rn L) (hc : cnt2 ≤ cnt + 48) (h2 : Fam M2 (⟨root, topP L, rids, rn⟩ :: ⟨r, ps', ids2, n'⟩ :: (delB name L).map (·.t)) cnt2) : cnt2 + 50 ≤ most := by
 rcases ha with ha | ⟨hn, ha⟩
 ·have := h.fam.need fun t ht => by
   rcases List.mem_cons.1 ht with rfl | ht
   ·exact hr.top
   ·obtain ⟨b, hb, rfl⟩ := List.mem_map.1 ht
    exact hr.each b hb
  simp only [ndT] at this ha
  omega
 ·have := h2.need fun t ht => by
   rcases List.mem_cons.1 ht with rfl | ht
   ·exact hr.top
   ·rcases List.mem_cons.1 ht with rfl | ht
    ·exact hn
    ·obtain ⟨b, hb, rfl⟩ := List.mem_map.1 ht
     exact hr.each b (delB_mem hb)
  simp only [ndT] at this ha
  omega
theorem leFix : ∀ v : Nat, v < 4294967296 → v % 256 + 256 * (v / 256 % 256 + 256 * (v / 65536 % 256 + 256 * (v / 16777216 % 256 + 256 * 0))) = v := by
 intro v hv
 omega
end Go.Ev

namespace Go.Ev
open Go.Lib
def goodKV (k v : List UInt8) : Bool := decide (1 ≤ k.length) && decide (k.length ≤ 40) && decide (v.length ≤ 2000)
theorem goodKV_of {k v : List UInt8} (h : goodKV k v = true) : 1 ≤ k.length ∧ k.length ≤ 40 ∧ v.length ≤ 2000 := by
 unfold goodKV at h
 simp only [Bool.and_eq_true, decide_eq_true_eq] at h
 exact ⟨h.1.1, h.1.2, h.2⟩
end Go.Ev

set_option linter.unusedVariables false
set_option linter.unusedSimpArgs false
namespace Go.Ev
open Go.Proofs Go.RowKit
def leNat : List UInt8 → Nat
 | [] => 0
 | b :: l => b.toNat + 256 * leNat l
theorem size_list (s : ByteArray) : s.data.toList.length = s.size := by rw [Array.length_toList]; rfl
theorem leNat_lt : ∀ l : List UInt8, leNat l < 2 ^ (8 * l.length)
 | [] => by decide
 | b :: l => by
  have h1 := leNat_lt l
  have h2 := b.toNat_lt
  have e : 2 ^ (8 * (b :: l).length) = 256 * 2 ^ (8 * l.length) := by
   rw [List.length_cons, show 8 * (l.length + 1) = 8 + 8 * l.length by omega, Nat.pow_add]
  rw [e]
  show b.toNat + 256 * leNat l < _
  omega
theorem leNat_snoc : ∀ (l : List UInt8) (x : UInt8), leNat (l ++ [x]) = leNat l + x.toNat * 2 ^ (8 * l.length)
 | [], x => by simp [leNat]
 | b :: l, x => by
  have e : 2 ^ (8 * (b :: l).length) = 256 * 2 ^ (8 * l.length) := by
   rw [List.length_cons, show 8 * (l.length + 1) = 8 + 8 * l.length by omega, Nat.pow_add]
  rw [e]
  show b.toNat + 256 * leNat (l ++ [x]) = b.toNat + 256 * leNat l + _
  rw [leNat_snoc l x, Nat.mul_add, Nat.mul_left_comm 256]
  omega
theorem or_add (a b k : Nat) (h : a < 2 ^ k) : a ||| b * 2 ^ k = a + b * 2 ^ k := by
 rw [Nat.or_comm, Nat.mul_comm b, ← Nat.two_pow_add_eq_or_of_lt h, Nat.add_comm]
theorem wrap64_nat {a : Nat} (h : a < 9223372036854775808) : wrap64 (a : Int) = a := by unfold wrap64; omega
theorem or_i64 (a b : Nat) (ha : a < 9223372036854775808) (hb : b < 9223372036854775808) : bits .or .i64 (a : Int) (b : Int) = ((a ||| b : Nat) : Int) := by
 have hx : a ||| b < 2 ^ 63 := Nat.or_lt_two_pow (by omega) (by omega)
 have h1 : (BitVec.ofInt 64 (a : Int)).toNat = a := by
  rw [BitVec.ofInt_natCast, BitVec.toNat_ofNat]; exact Nat.mod_eq_of_lt (by omega)
 have h2 : (BitVec.ofInt 64 (b : Int)).toNat = b := by
  rw [BitVec.ofInt_natCast, BitVec.toNat_ofNat]; exact Nat.mod_eq_of_lt (by omega)
 show IntKind.i64.wrap ((BitVec.ofInt 64 (a : Int) ||| BitVec.ofInt 64 (b : Int)).toNat : Int) = _
 rw [BitVec.toNat_or, h1, h2]
 rw [IntKind.wrap_i64]
 omega
theorem or_byte (l : List UInt8) (x : UInt8) (hl : l.length ≤ 6) : bits .or .i64 (leNat l : Nat) (wrap64 (wrap64 (x.toNat : Int) * 2 ^ (8 * l.length))) = (leNat (l ++ [x]) : Nat) := by
 have h1 := leNat_lt l
 have h2 := x.toNat_lt
 have hp : 2 ^ (8 * l.length) ≤ 2 ^ 48 := Nat.pow_le_pow_right (by decide) (by omega)
 have h3 : x.toNat * 2 ^ (8 * l.length) < 9223372036854775808 := by
  have : x.toNat * 2 ^ (8 * l.length) ≤ 255 * 2 ^ 48 := Nat.mul_le_mul (by omega) hp
  omega
 have e : (wrap64 (x.toNat : Int) * 2 ^ (8 * l.length) : Int) = ((x.toNat * 2 ^ (8 * l.length) : Nat) : Int) := by
  rw [wrap64_nat (by omega)]
  simp
 rw [e, wrap64_nat h3, or_i64 _ _ (by omega) h3, or_add _ _ _ h1, leNat_snoc]
theorem leNat_fix4 (v : Int) (h0 : 0 ≤ v) (h1 : v < 4294967296) : leNat ((⟨(fix4 v).toArray⟩ : ByteArray).data.toList.take 4) = v.toNat := by
 have e : (⟨(fix4 v).toArray⟩ : ByteArray).data.toList.take 4 = fix4 v := by
  show (fix4 v).take 4 = fix4 v
  exact List.take_of_length_le (by rw [fix4_len]; exact Nat.le_refl _)
 rw [e]
 have hb : ∀ x : Nat, (UInt8.ofNat (x % 256)).toNat = x % 256 := fun x => UInt8.toNat_ofNat_of_lt' (Nat.mod_lt _ (by decide))
 have e2 : fix4 v = [UInt8.ofNat (v.toNat % 256), UInt8.ofNat (v.toNat / 256 % 256), UInt8.ofNat (v.toNat / 65536 % 256), UInt8.ofNat (v.toNat / 16777216 % 256)] := by
  unfold fix4
  simp [List.range_succ]
 rw [e2]
 simp only [leNat, hb]
 exact leFix v.toNat (by omega)
set_option maxHeartbeats 2000000 in
set_option maxRecDepth 100000 in
theorem unfix4_ok (s : ByteArray) (hs : s.size = 4) (w : World) :
  Calls Tryz.prog 53 #[.string s, .int .i64 0, .int .i64 4] w fun e w' => e = .returned (.tuple #[.int .i64 (leNat (s.data.toList.take 4) : Nat), .int .i64 0]) ∧ w = w' := by
 have hsz := size_list s
 rw [hs] at hsz
 go_enter Tryz.func53, Tryz.ntmps53
 go_wp2_with (fail)
 go_loopg [8, 35] 4 (fun gk s8 s35 wr => ∃ j : Nat, s8 = .int .i64 (leNat (s.data.toList.take j) : Nat) ∧ s35 = .int .i64 (j : Int) ∧ j + gk = 4 ∧ wr = w)
 case atStart => exact ⟨0, rfl, rfl, rfl, rfl⟩
 case round =>
  obtain ⟨j, rfl, rfl, hj, rfl⟩ := hrel
  by_cases h4 : j < 4
  ·have h4' : (j : Int) < 4 := by omega
   have hj0 : (0 : Int) ≤ (j : Int) := by omega
   have hw1 : IntKind.i64.wrap ((j : Int) + 1) = (j : Int) + 1 := IntWalk.i64_in _ (by omega)
   have hlt : j < s.data.toList.length := by omega
   have hjs : j < s.size := by omega
   have ht : s.data.toList.take (j + 1) = s.data.toList.take j ++ [s[j]] := by
    rw [List.take_add_one, List.getElem?_eq_getElem hlt]
    rfl
   have hlen : (s.data.toList.take j).length = j := by rw [List.length_take]; omega
   have hb := or_byte (s.data.toList.take j) s[j] (by omega)
   rw [hlen, ← ht] at hb
   have HB := Lib.hid hb
   clear hb ht hlen hsz
   go_wp2_with (fail)
   rw [HB.out]
   go_roundg (gk - 1)
   case measure => omega
   case rel => exact ⟨j + 1, rfl, by simp, by omega, rfl⟩
  ·have h4' : ¬ (j : Int) < 4 := by omega
   have e : j = 4 := by omega
   subst e
   go_wp2_with (fail)
   refine bodyPost_ret (v := .tuple #[.int .i64 (leNat (s.data.toList.take 4) : Nat), .int .i64 0]) (by simp [results, Tryz.results53, go_sem]) rfl ?_
   exact ⟨rfl, rfl⟩
end Go.Ev

set_option linter.unusedVariables false
set_option linter.unusedSimpArgs false
namespace Go.Ev
open Go.Proofs Go.RowKit
theorem infoPair : (Tryz.prog.info? 58).map (fun i => (i.zero, i.size, i.bytes)) = some (some (.agg #[strV [], strV []]), 2, 32) := by kernel_rfl
theorem row_pair (w : World) (q : Pair) (T : TypeId) (B : Nat) (hB : B = w.heap.size) : ∀ j v, (pairsCs [q])[j]? = some v → (w.alloc (.cells #[strV q.1, strV q.2] T)).cell? ((⟨B, 0, none⟩ : Addr).add j) = some v := by
 intro j v h
 subst hB
 rw [addr_add]
 have hb := Blk.new w T #[strV q.1, strV q.2]
 match j with
 | 0 => cases h; exact hb.cell 0
 | 1 => cases h; exact hb.cell 1
 | j + 2 => simp [pairsCs, pairCs] at h
end Go.Ev

namespace Go.Ev
open Go.Lib
theorem insB_mem {x b : Bk} : ∀ {L : List Bk}, b ∈ insB x L → b = x ∨ b ∈ L
 | [], h => .inl (List.mem_singleton.1 h)
 | y :: l, h => by
  simp only [insB] at h
  split at h
  ·rcases List.mem_cons.1 h with rfl | h
   ·exact .inr (List.mem_cons_self ..)
   ·exact (insB_mem h).imp id fun h => List.mem_cons_of_mem _ h
  ·split at h
   ·rcases List.mem_cons.1 h with rfl | h
    ·exact .inl rfl
    ·exact .inr h
   ·rcases List.mem_cons.1 h with rfl | h
    ·exact .inl rfl
    ·exact .inr (List.mem_cons_of_mem _ h)
theorem insB_len {x : Bk} : ∀ L : List Bk, (insB x L).length ≤ L.length + 1
 | [] => Nat.le_refl _
 | y :: l => by
  simp only [insB]
  split
  ·have := insB_len (x := x) l
   simp only [List.length_cons]
   omega
  ·split
   ·simp
   ·simp
theorem getB_ins {x : Bk} : ∀ L : List Bk, getB x.name (insB x L) = some x
 | [] => by simp [insB, getB]
 | y :: l => by
  simp only [insB]
  split
  ·rename_i h
   simp only [getB]
   rw [if_neg (lessB_ne h), getB_ins l]
  ·split
   ·simp [getB]
   ·simp [getB]
theorem getB_ins_ne {x : Bk} {k : List UInt8} (hk : k ≠ x.name) : ∀ L : List Bk, getB k (insB x L) = getB k L
 | [] => by simp only [insB, getB]; rw [if_neg (Ne.symm hk)]
 | y :: l => by
  simp only [insB]
  split
  ·simp only [getB, getB_ins_ne hk l]
  ·rename_i h1
   split
   ·simp only [getB]
    rw [if_neg (Ne.symm hk)]
   ·rename_i h2
    have e : y.name = x.name := by
     rcases lessB_total y.name x.name with h | h | h
     ·exact absurd h h1
     ·exact h
     ·exact absurd h h2
    simp only [getB]
    rw [if_neg (Ne.symm hk), if_neg (e ▸ Ne.symm hk)]
theorem getB_ins_some {x : Bk} {k : List UInt8} {L : List Bk} (h : getB k L ≠ none) : getB k (insB x L) ≠ none := by
 by_cases hk : k = x.name
 ·subst hk
  rw [getB_ins]
  simp
 ·rw [getB_ins_ne hk]
  exact h
theorem delB_len {k : List UInt8} : ∀ {L : List Bk} {b : Bk}, getB k L = some b → (delB k L).length + 1 = L.length := fun {L} {b} h => by
 have := (delB_perm h).length_eq
 rw [List.length_cons] at this
 omega
theorem getB_del {k : List UInt8} : ∀ {L : List Bk}, RiseB L → getB k (delB k L) = none
 | [], _ => rfl
 | x :: l, h => by
  obtain ⟨h1, h2⟩ := h.tail
  simp only [delB]
  split
  ·rename_i e
   cases hq : getB k l with
   | none => rfl
   | some b =>
    obtain ⟨e2, hm⟩ := getB_name hq
    exact absurd (e.trans e2.symm) (lessB_ne (h1 b hm))
  ·rename_i e
   simp only [getB]
   rw [if_neg e, getB_del h2]
theorem RiseB.step {L : List Bk} (h : RiseB L) {i : Nat} (hi : i + 1 < L.length) : lessB (L[i]'(by omega)).name L[i + 1].name = true := by
 induction L generalizing i with
 | nil => simp at hi
 | cons x l ih =>
  obtain ⟨h1, h2⟩ := h.tail
  cases i with
  | zero => exact h1 _ (List.getElem_mem _)
  | succ i => exact ih h2 (by simpa using hi)
def OneK (ps : List Pair) : Prop := ps = [] ∨ ∃ v : List UInt8, v.length ≤ 1 ∧ ps = [([107], v)]
theorem OneK.ins {ps : List Pair} (h : OneK ps) {v : List UInt8} (hv : v.length ≤ 1) : OneK (insP [107] v ps) := by
 rcases h with rfl | ⟨u, _, rfl⟩
 ·exact .inr ⟨v, hv, rfl⟩
 ·exact .inr ⟨v, hv, by simp [insP, lessB_irrefl]⟩
theorem OneK.small {ps : List Pair} (h : OneK ps) : ps.length ≤ 1 ∧ sumV ps ≤ 1 := by
 rcases h with rfl | ⟨u, hu, rfl⟩
 ·simp [sumV]
 ·simp only [sumV, List.length_cons, List.length_nil]
  omega
structure FewB (i : Nat) (rn : Nat) (L : List Bk) : Prop where
 len : L.length ≤ i
 top : rn ≤ i
 each : ∀ b ∈ L, b.t.n ≤ i ∧ OneK b.t.ps
theorem FewB.mono {i j rn : Nat} {L : List Bk} (h : FewB i rn L) (hij : i ≤ j) : FewB j rn L := ⟨Nat.le_trans h.len hij, Nat.le_trans h.top hij, fun b hb => ⟨Nat.le_trans (h.each b hb).1 hij, (h.each b hb).2⟩⟩
theorem FewB.ins {i rn : Nat} {L : List Bk} (h : FewB i rn L) {x : Bk} (hn : x.t.n ≤ i + 1) (hx : OneK x.t.ps) : FewB (i + 1) (rn + 1) (insB x L) :=
 ⟨Nat.le_trans (insB_len L) (Nat.succ_le_succ h.len), Nat.succ_le_succ h.top, fun b hb => by
  rcases insB_mem hb with rfl | hb
  ·exact ⟨hn, hx⟩
  ·exact ⟨Nat.le_succ_of_le (h.each b hb).1, (h.each b hb).2⟩⟩
theorem ndT_one : ∀ {T : List Tr}, (∀ t ∈ T, t.ps.length ≤ 1 ∧ sumV t.ps ≤ 1) → ndT T ≤ 480 * T.length
 | [], _ => Nat.zero_le _
 | t :: T, h => by
  have ih := ndT_one fun x hx => h x (List.mem_cons_of_mem _ hx)
  obtain ⟨h1, h2⟩ := h t (List.mem_cons_self ..)
  simp only [ndT, ndP, List.length_cons]
  rw [if_pos h1]
  omega
theorem sumV_top : ∀ L : List Bk, sumV (topP L) = 4 * L.length
 | [] => rfl
 | b :: L => by
  have := sumV_top L
  unfold topP at this ⊢
  simp only [List.map_cons, sumV, List.length_cons, this, fix4_len]
  omega
theorem FewB.nd {i rn : Nat} {L : List Bk} (h : FewB i rn L) (hi : i ≤ 124) : ndT (⟨0, topP L, [], rn⟩ :: L.map (·.t)) ≤ 596000 := by
 have h1 : ndT (L.map (·.t)) ≤ 480 * (L.map (·.t)).length := ndT_one fun t ht => by
  obtain ⟨b, hb, rfl⟩ := List.mem_map.1 ht
  exact (h.each b hb).2.small
 rw [List.length_map] at h1
 have h2 := h.len
 have h3 : (topP L).length = L.length := by unfold topP; rw [List.length_map]
 have h4 : min rn 17 * L.length ≤ 17 * 124 := Nat.mul_le_mul (Nat.min_le_right _ _) (by omega)
 simp only [ndT, ndP, h3, sumV_top]
 split
 ·omega
 ·omega
theorem FewB.roomy {i rn : Nat} {L : List Bk} (h : FewB i rn L) (hi : i ≤ 124) : Roomy 3000 rn L :=
 ⟨by have := h.top; omega, fun b hb => by have := (h.each b hb).1; omega, by have := h.nd hi; omega⟩
theorem FewB.after {i rn : Nat} {L : List Bk} (h : FewB i rn L) (hi : i ≤ 124) (name : List UInt8) (ps' : List Pair) (n' : Nat) : AfterB 3000 rn L name ps' n' :=
 .inl (by have := h.nd hi; omega)
theorem FewB.del {i rn : Nat} {L : List Bk} (h : FewB i rn L) (k : List UInt8) : FewB i rn (delB k L) := by
 refine ⟨?_, h.top, fun b hb => h.each b (delB_mem hb)⟩
 cases hq : getB k L with
 | none => rw [delB_none hq]; exact h.len
 | some b => have := delB_len hq; have := h.len; omega
end Go.Ev

set_option linter.unusedVariables false
set_option linter.unusedSimpArgs false
namespace Go.Ev
open Go.Proofs Go.RowKit
theorem pgInv_new : PgInv 2 [] [] [] := by
 refine ⟨List.nodup_nil, List.nodup_nil, List.nodup_nil, fun k => Iff.rfl, fun k => ⟨fun h => by omega, fun h => by rcases h with h | h <;> cases h⟩, (fun k h => by cases h), (fun k v h => by cases h), Nat.le_refl _, (fun k v h => by cases h)⟩
theorem pages_new : Pages [] (fun _ => none) := fun _ => rfl
theorem pgOk_new {m : Nat} (hm : 4 ≤ m ∧ m ≤ 3000) {w : World} {p d f mb db wb sb B : Nat} {sy nw : Value} (h : Blk w p 81 #[ptrV d, ptrV f, .int .i64 2, .int .i64 2, .int .i64 1, .map (some mb), .map (some db), .map (some wb), ptrV sb])
  (hf : Blk w f 134 #[.slice none 0 0, .slice none 0 0, .map none]) (hd : DevAt w d m 2 sy nw) (m1 : MapI w mb [] 0) (m2 : MapI w db [] 0) (m3 : MapI w wb [] 0) (hs : Pl w sb (.slice none 0 0) [])
  (hdB : d < B) (hfB : f < B) (hsy : ∀ k, sy.ownBlock = some k → k < B) (hnw : ∀ k, nw.ownBlock = some k → k < B) (hp : B ≤ p) (h1 : p < mb) (h2 : mb < db) (h3 : db < wb) (h4 : wb < sb) :
  PgOk w p ⟨d, f, mb, db, wb, sb, .slice none 0 0, sy, nw⟩ m (fun _ => none) 0 := by
 have hdf : d ≠ f := by
  rintro rfl
  have := (hd.blk.eq hf).1
  revert this
  decide
 have hsyd : ∀ k, sy.ownBlock = some k → k ≠ d ∧ k ≠ f := fun k e => by
  obtain ⟨cs, hr⟩ := hd.srow
  exact ⟨own_ne hr hd.blk (by decide) k e, own_ne hr hf (by decide) k e⟩
 have hnwd : ∀ k, nw.ownBlock = some k → k ≠ d ∧ k ≠ f := fun k e => by
  obtain ⟨cs, hr⟩ := hd.nrow
  exact ⟨own_ne hr hd.blk (by decide) k e, own_ne hr hf (by decide) k e⟩
 refine ⟨2, [], [], 0, 0, 0, [], ⟨h, hf, hd, m1, m2, m3, hs, ?_, ?_, ?_, ?_, ⟨Nat.le_refl _, by omega⟩, Clk.nil _⟩, pgInv_new, pages_new, rfl⟩
 ·simp only [Pc.ids, List.nodup_cons, List.mem_cons, List.not_mem_nil, or_false, not_or, List.nodup_nil, not_false_eq_true, and_true]
  refine ⟨⟨?_, ?_, ?_, ?_, ?_, ?_⟩, ⟨hdf, ?_, ?_, ?_, ?_⟩, ⟨?_, ?_, ?_, ?_⟩, ⟨?_, ?_, ?_⟩, ⟨?_, ?_⟩, ?_⟩ <;> omega
 ·intro k e; cases e
 ·intro k e hm
  have a := hsyd k e
  have b := hsy k e
  simp only [Pc.ids, List.mem_cons, List.not_mem_nil, or_false] at hm
  rcases hm with hm | hm | hm | hm | hm | hm | hm <;> omega
 ·intro k e hm
  have a := hnwd k e
  have b := hnw k e
  simp only [Pc.ids, List.mem_cons, List.not_mem_nil, or_false] at hm
  rcases hm with hm | hm | hm | hm | hm | hm | hm <;> omega
def PNewP (m d f : Nat) (sy nw : Value) (w : World) (e : Ending) (w' : World) : Prop :=
 ∃ p c, e = .returned (.tuple #[ptrV p, .int .i64 0]) ∧ PgOk w' p c m (fun _ => none) 0 ∧ (∀ k, c.S p k → k = d ∨ k = f ∨ sy.ownBlock = some k ∨ nw.ownBlock = some k ∨ w.heap.size ≤ k) ∧ Below w.heap.size w w'
theorem pnew_end {m : Nat} (hm : 4 ≤ m ∧ m ≤ 3000) {d f p : Nat} {sy nw : Value} {w w1 w2 w3 : World} (hd : DevAt w d m 2 sy nw) (hf : Blk w f 134 #[.slice none 0 0, .slice none 0 0, .map none]) (h1 : Below w.heap.size w w1) (hp : p = w1.heap.size) (e2 : w1.alloc (.cells (pg0 d f) 81) = w2) {e : Ending} (hc : ClearP p d f w2 e w3) :
  PNewP m d f sy nw w (.returned (.tuple #[ptrV p, .int .i64 0])) w3 := by
 have hb2 : Below w.heap.size w w2 := by subst e2; exact h1.alloc h1.size _
 have z2 : w2.heap.size = w1.heap.size + 1 := by subst e2; simp
 have hz := h1.size
 obtain ⟨_, mb, db, wb, sb, k1, k2, k3, k4, k5, k6, k7, k8, k9, kK⟩ := hc
 have hb3 : Below w.heap.size w w3 := hb2.trans (kK.below (by omega) (fun i hi e => by omega))
 have hd3 : DevAt w3 d m 2 sy nw := hd.keeps (S := fun _ => False) (Keeps.of_below hb3) fun _ _ h => h
 have hf3 := hf.below' hb3
 refine ⟨p, _, rfl, pgOk_new hm (B := w.heap.size) k1 hf3 hd3 k2 k3 k4 k5 hd.blk.lt hf.lt ?_ ?_ (by omega) (by omega) k7 k8 k9, ?_, hb3⟩
 ·intro k e; obtain ⟨cs, hr⟩ := hd.srow; exact (hr.lt k e).2
 ·intro k e; obtain ⟨cs, hr⟩ := hd.nrow; exact (hr.lt k e).2
 ·rintro k (hk | hk | hk | hk)
  ·simp only [Pc.ids, List.mem_cons, List.not_mem_nil, or_false] at hk
   rcases hk with hk | hk | hk | hk | hk | hk | hk
   ·right; right; right; right; omega
   ·left; omega
   ·right; left; omega
   ·right; right; right; right; omega
   ·right; right; right; right; omega
   ·right; right; right; right; omega
   ·right; right; right; right; omega
  ·cases hk
  ·exact .inr (.inr (.inl hk))
  ·exact .inr (.inr (.inr (.inl hk)))
set_option maxHeartbeats 2000000 in
set_option maxRecDepth 100000 in
theorem pagerNew_any {m : Nat} (hm : 4 ≤ m ∧ m ≤ 3000) (d f : Nat) (sy nw : Value) (w : World) (hd : DevAt w d m 2 sy nw) (hf : Blk w f 134 #[.slice none 0 0, .slice none 0 0, .map none]) :
  Calls Tryz.prog 13 #[ptrV d, ptrV f, .int .i64 2, .int .i64 1] w (PNewP m d f sy nw w) := by
 have hb0 : Below w.heap.size w (w.alloc (.cells #[.int .i64 2] 3)).drew := ((Below.refl _ w).alloc (Nat.le_refl _) _).drew
 have bx : Blk (w.alloc (.cells #[.int .i64 2] 3)).drew w.heap.size 3 #[.int .i64 2] := (Blk.new _ _ _).drew
 have x0 : (w.alloc (.cells #[.int .i64 2] 3)).drew.cell? ⟨w.heap.size, 0, none⟩ = some (.int .i64 2) := bx.cell 0
 have hL := Lib.hid (devLen_any d m 2 sy nw _ (hd.keeps (S := fun _ => False) (Keeps.of_below hb0) fun _ _ h => h))
 have hA := Lib.hid (freeAll_any f _ (hf.below' hb0))
 have hE := Lib.hid (fun (w1 w2 w3 : World) (p : Nat) (h1 : Below w.heap.size w w1) (hp : p = w1.heap.size) e2 e hc => pnew_end hm (w1 := w1) (w2 := w2) (w3 := w3) (e := e) hd hf h1 hp e2 hc)
 have hzz : (w.alloc (.cells #[.int .i64 2] 3)).drew.heap.size = w.heap.size + 1 := by simp
 have HB := Lib.hid hb0
 have HBX := Lib.hid bx
 have X0 := Lib.hid x0
 clear hd hf hb0 bx x0
 go_enter Tryz.func13, Tryz.ntmps13
 go_wp2_with (fail)
 have x0 := X0.out
 refine wp_region_any (by kernel_rfl) ?_
 change wpAny _ _ _ _ _ _ _ (World.drew _)
 try simp only [Act.put, lT, l0, lS]
 refine tA 0 ?_; try simp only [Act.put, lT, l0, lS]
 refine tA 1 ?_; try simp only [Act.put, lT, l0, lS]
 refine tA 2 ?_; try simp only [Act.put, lT, l0, lS]
 refine tA 3 ?_; try simp only [Act.put, lT, l0, lS]
 refine tA 4 ?_; try simp only [Act.put, lT, l0, lS]
 refine tA 5 ?_; try simp only [Act.put, lT, l0, lS]
 refine tA 6 ?_; try simp only [Act.put, lT, l0, lS]
 refine rd 7 (by kernel_rfl) rfl (fun K hK => ?_); go_simp; refine hK _ _ ?_; clear hK K
 try simp only [Act.put, lT, l0, lS]
 refine tA 8 ?_; try simp only [Act.put, lT, l0, lS]
 refine tA 9 ?_; try simp only [Act.put, lT, l0, lS]
 refine tA 10 ?_; try simp only [Act.put, lT, l0, lS]
 refine tA 12 ?_; try simp only [Act.put, lT, l0, lS]
 refine wpAny_ready (rs := [11, 13]) (by kernel_rfl) (by simp) (AllReady.cons (o := { dst := _, op := _, type := _, pos := _, after := _, guard := _ }) rfl (fun K hK => ?_) (AllReady.cons (o := { dst := _, op := _, type := _, pos := _, after := _, guard := _ }) rfl (fun K hK => ?_) AllReady.nil))
 ·go_simp
  refine hK _ _ ?_
  clear hK K
  refine rd 13 (by kernel_rfl) rfl (fun K hK => ?_); go_simp
  (go_must (refine hL.out.mono ?_); rintro e w2 ⟨rfl, rfl⟩)
  go_simp
  refine hK _ _ ?_
  clear hK K
  try simp only [Act.put, lT, l0, lS]
  refine tA 14 ?_; try simp only [Act.put, lT, l0, lS]
  refine tA 15 ?_; try simp only [Act.put, lT, l0, lS]
  refine tA 16 ?_; try simp only [Act.put, lT, l0, lS]
  refine tA 17 ?_; try simp only [Act.put, lT, l0, lS]
  refine tA 18 ?_; try simp only [Act.put, lT, l0, lS]
  refine tA 19 ?_; try simp only [Act.put, lT, l0, lS]
  refine wpAny_done (by kernel_rfl) ?_ _
  go_wp2_with (fail)
  go_must (refine hA.out.mono ?_)
  rintro e w3 ⟨rfl, hb3⟩
  have x3 : w3.cell? ⟨w.heap.size, 0, none⟩ = some (.int .i64 2) := (HBX.out.below' hb3).cell 0
  have hz3 := hb3.size
  go_wp2_with (fail)
  go_must (refine (containsNil_any _ _).mono ?_)
  rintro e w4 ⟨rfl, rfl⟩
  go_wp2_with (fail)
  go_must (refine (clear_any w3.heap.size d f _ (Blk.new _ _ _)).mono ?_)
  intro e w5 hc
  have HC := Lib.hid hc
  obtain ⟨rfl, _⟩ := hc
  go_wp2_with (fail)
  go_ret2
  exact hE.out w3 _ w5 w3.heap.size (HB.out.trans (hb3.mono (by simp))) rfl rfl _ HC.out
 ·go_simp
  (go_must (refine hL.out.mono ?_); rintro e w2 ⟨rfl, rfl⟩)
  go_simp
  refine hK _ _ ?_
  clear hK K
  refine rd 11 (by kernel_rfl) rfl (fun K hK => ?_); go_simp; refine hK _ _ ?_; clear hK K
  try simp only [Act.put, lT, l0, lS]
  refine tA 14 ?_; try simp only [Act.put, lT, l0, lS]
  refine tA 15 ?_; try simp only [Act.put, lT, l0, lS]
  refine tA 16 ?_; try simp only [Act.put, lT, l0, lS]
  refine tA 17 ?_; try simp only [Act.put, lT, l0, lS]
  refine tA 18 ?_; try simp only [Act.put, lT, l0, lS]
  refine tA 19 ?_; try simp only [Act.put, lT, l0, lS]
  refine wpAny_done (by kernel_rfl) ?_ _
  go_wp2_with (fail)
  go_must (refine hA.out.mono ?_)
  rintro e w3 ⟨rfl, hb3⟩
  have x3 : w3.cell? ⟨w.heap.size, 0, none⟩ = some (.int .i64 2) := (HBX.out.below' hb3).cell 0
  have hz3 := hb3.size
  go_wp2_with (fail)
  go_must (refine (containsNil_any _ _).mono ?_)
  rintro e w4 ⟨rfl, rfl⟩
  go_wp2_with (fail)
  go_must (refine (clear_any w3.heap.size d f _ (Blk.new _ _ _)).mono ?_)
  intro e w5 hc
  have HC := Lib.hid hc
  obtain ⟨rfl, _⟩ := hc
  go_wp2_with (fail)
  go_ret2
  exact hE.out w3 _ w5 w3.heap.size (HB.out.trans (hb3.mono (by simp))) rfl rfl _ HC.out
def BaseP (m : Nat) (w : World) (e : Ending) (w' : World) : Prop :=
 ∃ d g f h sy nw, e = .returned (.tuple #[ptrV d, ptrV g, ptrV f, ptrV h, .bool true]) ∧ DevAt w' d m 2 sy nw ∧ Blk w' f 134 #[.slice none 0 0, .slice none 0 0, .map none] ∧ w.heap.size ≤ d ∧ w.heap.size ≤ f ∧ (∀ k, sy.ownBlock = some k → w.heap.size ≤ k) ∧ (∀ k, nw.ownBlock = some k → w.heap.size ≤ k) ∧ Below w.heap.size w w'
theorem devNew3 {m : Nat} (hm : 4 ≤ m ∧ m ≤ 3000) (w : World) : Calls Tryz.prog 25 #[.int .i64 (m : Int)] w fun e w' => e = .returned (.tuple #[ptrV w.heap.size, .int .i64 0]) ∧ DevAt w' w.heap.size m 0 (.slice none 0 0) (.slice none 0 0) ∧ Below w.heap.size w w' ∧ w'.heap.size = w.heap.size + 1 :=
 (devNew_any m w (by omega) hm.2).mono fun e w' ⟨h1, h2⟩ => ⟨h1, h2 ▸ DevAt.new m w hm.2, h2 ▸ (Below.refl _ w).alloc (Nat.le_refl _) _, by rw [← h2]; simp⟩
theorem refNew3 {m : Nat} (hm : 4 ≤ m ∧ m ≤ 3000) (w : World) : Calls Tryz.prog 26 #[.int .i64 (m : Int)] w fun e w' => e = .returned (.tuple #[ptrV w.heap.size, .int .i64 0]) ∧ Blk w' w.heap.size 123 (refDev m) ∧ Below w.heap.size w w' ∧ w'.heap.size = w.heap.size + 1 :=
 (refNew_any m w (by omega) hm.2).mono fun e w' ⟨h1, h2⟩ => ⟨h1, h2 ▸ Blk.new _ _ _, h2 ▸ (Below.refl _ w).alloc (Nat.le_refl _) _, by rw [← h2]; simp⟩
theorem freeNew3 (w : World) : Calls Tryz.prog 29 #[.slice none 0 0] w fun e w' => e = .returned (ptrV w.heap.size) ∧ Blk w' w.heap.size 134 #[.slice none 0 0, .slice none 0 0, .map none] ∧ Below w.heap.size w w' ∧ w'.heap.size = w.heap.size + 1 :=
 (freeNew_any w).mono fun e w' ⟨h1, h2⟩ => ⟨h1, h2 ▸ Blk.new _ _ _, h2 ▸ (Below.refl _ w).alloc (Nat.le_refl _) _, by rw [← h2]; simp⟩
theorem base_end {m : Nat} {w w1 w2 w3 w4 w5 w6 : World} {sy nw : Value} {T : TypeId} {V : Array Value} (a1 : DevAt w1 w.heap.size m 0 (.slice none 0 0) (.slice none 0 0)) (b1 : Below w.heap.size w w1) (z1 : w1.heap.size = w.heap.size + 1)
  (b2 : Below w1.heap.size w1 w2) (z2 : w2.heap.size = w1.heap.size + 1) (a2 : Blk w2 w1.heap.size 123 (refDev m))
  (a3 : DevAt w3 w.heap.size m 2 sy nw) (k3 : GrowK w.heap.size (.slice none 0 0) (.slice none 0 0) sy nw w2 w3) (k4 : Keeps (fun k => k = w1.heap.size) w3 w4) (a5 : Blk w5 w4.heap.size 134 #[.slice none 0 0, .slice none 0 0, .map none])
  (b5 : Below w4.heap.size w4 w5) (b6 : Below w5.heap.size w5 w6) :
  BaseP m w (.returned (.tuple #[ptrV w.heap.size, ptrV w1.heap.size, ptrV w4.heap.size, ptrV w6.heap.size, .bool true])) (w6.alloc (.cells V T)) := by
 have hz3 := k3.keeps.size
 have hz4 := k4.size
 have hz5 := b5.size
 have hz6 := b6.size
 have c2 : Below w.heap.size w w2 := b1.trans (b2.mono (by omega))
 have c3 : Below w.heap.size w w3 := c2.trans (k3.keeps.below (by omega) (fun i hi e => by
  rcases e with e | e | e
  ·omega
  ·cases e
  ·cases e))
 have c4 : Below w.heap.size w w4 := c3.trans (k4.below (by omega) (fun i hi e => by omega))
 have c5 : Below w.heap.size w w5 := c4.trans (b5.mono (by omega))
 have c6 : Below w.heap.size w w6 := c5.trans (b6.mono (by omega))
 have c7 : Below w.heap.size w (w6.alloc (.cells V T)) := c6.alloc (by omega) _
 have a2' : Blk w3 w1.heap.size 123 (refDev m) := a2.keeps k3.keeps (fun e => by
  rcases e with e | e | e
  ·omega
  ·cases e
  ·cases e)
 have a4 : DevAt w4 w.heap.size m 2 sy nw := a3.keeps k4 (fun k hk e => by
  subst e
  rcases hk with e | e | e
  ·omega
  ·obtain ⟨cs, hr⟩ := a3.srow
   exact own_ne hr a2' (by decide) _ e rfl
  ·obtain ⟨cs, hr⟩ := a3.nrow
   exact own_ne hr a2' (by decide) _ e rfl)
 have b46 : Below w4.heap.size w4 (w6.alloc (.cells V T)) := (b5.trans (b6.mono (by omega))).alloc (by omega) _
 have a6 : DevAt (w6.alloc (.cells V T)) w.heap.size m 2 sy nw := a4.keeps (S := fun _ => False) (Keeps.of_below b46) fun _ _ h => h
 refine ⟨w.heap.size, w1.heap.size, w4.heap.size, w6.heap.size, sy, nw, rfl, a6, (a5.below' b6).alloc _, Nat.le_refl _, by omega, fun k e => ?_, fun k e => ?_, c7⟩
 ·rcases k3.sy k e with h | h
  ·cases h
  ·omega
 ·rcases k3.nw k e with h | h
  ·cases h
  ·omega
set_option maxHeartbeats 2000000 in
set_option maxRecDepth 100000 in
theorem base_any {m : Nat} (hm : 4 ≤ m ∧ m ≤ 3000) (w : World) : Calls Tryz.prog 12 #[.int .i64 (m : Int), .int .i64 2, .slice none 0 0] w (BaseP m w) := by
 go_enter Tryz.func12, Tryz.ntmps12
 go_wp2_with (fail)
 go_must (refine (devNew3 hm w).mono ?_)
 rintro e w1 ⟨rfl, a1, b1, z1⟩
 have A1 := Lib.hid a1
 have B1 := Lib.hid b1
 have Z1 := Lib.hid z1
 clear a1 b1 z1
 go_wp2_with (fail)
 go_must (refine (refNew3 hm w1).mono ?_)
 rintro e w2 ⟨rfl, a2, b2, z2⟩
 have a1' : DevAt w2 w.heap.size m 0 (.slice none 0 0) (.slice none 0 0) := A1.out.keeps (S := fun _ => False) (Keeps.of_below b2) fun _ _ h => h
 have A2 := Lib.hid a2
 have B2 := Lib.hid b2
 have Z2 := Lib.hid z2
 have hG := Lib.hid (devTo_any w.heap.size m 0 2 _ _ w2 a1' (by omega) (by omega))
 clear a2 b2 z2 a1'
 go_wp2_with (fail)
 go_must (refine hG.out.mono ?_)
 rintro e w3 ⟨rfl, sy, nw, a3, k3⟩
 have hR := Lib.hid (refGrow_any hm (A2.out.keeps k3.keeps (fun e => by
  have := Z1.out
  rcases e with e | e | e
  ·omega
  ·cases e
  ·cases e)))
 have A3 := Lib.hid a3
 have K3 := Lib.hid k3
 clear a3 k3 hG
 go_wp2_with (fail)
 go_must (refine hR.out.mono ?_)
 rintro e w4 ⟨rfl, k4⟩
 have K4 := Lib.hid k4
 clear k4 hR
 go_wp2_with (fail)
 go_must (refine (freeNew3 w4).mono ?_)
 rintro e w5 ⟨rfl, a5, b5, z5⟩
 have A5 := Lib.hid a5
 have B5 := Lib.hid b5
 clear a5 b5 z5
 go_wp2_with (fail)
 go_must (refine (refSorted_nil w5).mono ?_)
 rintro e w6 ⟨rfl, b6⟩
 have B6 := Lib.hid b6
 clear b6
 go_wp2_with (fail)
 refine bodyPost_ret (v := .tuple #[ptrV w.heap.size, ptrV w1.heap.size, ptrV w4.heap.size, ptrV w6.heap.size, .bool true]) (by simp [results, Tryz.results12, go_sem]) rfl ?_
 exact base_end A1.out B1.out Z1.out B2.out Z2.out A2.out A3.out K3.out K4.out A5.out B5.out B6.out
def TNewP (m p : Nat) (c : Pc) (w : World) (e : Ending) (w' : World) : Prop :=
 ∃ root c', e = .returned (.tuple #[.int .i64 root, .int .i64 0]) ∧ PgOk w' p c' m (updS (fun _ => none) root (some ⟨2, 0, []⟩)) 1 ∧ PgK p c c' w w'
theorem treeNew_any {m : Nat} (hm : 4 ≤ m ∧ m ≤ 3000) (p : Nat) (c : Pc) (w : World) (h : PgOk w p c m (fun _ => none) 0) : Calls Tryz.prog 14 #[ptrV p] w (TNewP m p c w) := by
 have hM := Lib.hid (make_any ⟨2, 0, []⟩ w h (by simp [Pg.ok]) (by omega))
 clear h
 go_enter Tryz.func14, Tryz.ntmps14
 go_wp2_with (fail)
 go_must (refine hM.out.mono ?_)
 rintro e w1 ⟨root, c', rfl, _, _, _, hp, hk⟩
 have HP := Lib.hid hp
 have HK := Lib.hid hk
 clear hp hk
 go_wp2_with (fail)
 go_ret2
 exact ⟨root, c', rfl, HP.out, HK.out⟩
def BeginM (m : Nat) (w : World) (e : Ending) (w' : World) : Prop :=
 ∃ d f p c root, e = .returned (.tuple #[ptrV d, ptrV f, ptrV p, .int .i64 root, .bool true]) ∧ PgOk w' p c m (updS (fun _ => none) root (some ⟨2, 0, []⟩)) 1 ∧ (∀ k, c.S p k → w.heap.size ≤ k) ∧ Below w.heap.size w w'
set_option maxHeartbeats 2000000 in
theorem begin_m {m : Nat} (hm : 4 ≤ m ∧ m ≤ 3000) (w : World) : Calls Tryz.prog 5 #[.int .i64 (m : Int)] w (BeginM m w) := by
 go_enter Tryz.func5, Tryz.ntmps5
 go_wp2_with (fail)
 go_must (refine (base_any hm w).mono ?_)
 rintro e w1 ⟨d, g, f, h, sy, nw, rfl, hd, hf, d1, d2, d3, d4, b1⟩
 have hN := Lib.hid (pagerNew_any hm d f sy nw w1 hd hf)
 have B1 := Lib.hid b1
 clear hd hf b1
 go_wp2_with (fail)
 go_must (refine hN.out.mono ?_)
 rintro e w2 ⟨p, c, rfl, hp, hs, b2⟩
 have hT := Lib.hid (treeNew_any hm p c w2 hp)
 have hz1 := B1.out.size
 have HS := Lib.hid (show ∀ k, c.S p k → w.heap.size ≤ k from fun k hk => by
  rcases hs k hk with h | h | h | h | h
  ·omega
  ·omega
  ·exact d3 k h
  ·exact d4 k h
  ·omega)
 have B2 := Lib.hid b2
 clear hp hs b2 hN
 go_wp2_with (fail)
 go_must (refine hT.out.mono ?_)
 rintro e w3 ⟨root, c', rfl, hp, hk⟩
 have HP := Lib.hid hp
 have HK := Lib.hid hk
 clear hp hk hT
 go_wp2_with (fail)
 refine bodyPost_ret (v := .tuple #[ptrV d, ptrV f, ptrV p, .int .i64 root, .bool true]) (by simp [results, Tryz.results5, go_sem]) rfl ?_
 have hz2 := B2.out.size
 refine ⟨d, f, p, c', root, rfl, HP.out, fun k hk => ?_, ?_⟩
 ·rcases HK.out.sub k hk with h | h
  ·exact HS.out k h
  ·omega
 ·exact (B1.out.trans (B2.out.mono hz1)).trans (HK.out.keeps.below (by omega) fun i hi e => by have := HS.out i e; omega)
abbrev BeginP (w : World) (e : Ending) (w' : World) : Prop := BeginM 3000 w e w'
theorem begin_any (w : World) : Calls Tryz.prog 5 #[.int .i64 3000] w (BeginP w) := begin_m (m := 3000) (by omega) w
end Go.Ev
