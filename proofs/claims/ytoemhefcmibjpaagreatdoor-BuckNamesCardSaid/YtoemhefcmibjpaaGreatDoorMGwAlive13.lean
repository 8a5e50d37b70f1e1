/-
  Buckets.
-/
import Derived.Test.YtoemhefcmibjpaaGreatDoorMGwBuck3
import Derived.Test.YtoemhefcmibjpaaGreatDoorMGwBeg2
set_option linter.unusedVariables false
set_option linter.unusedSimpArgs false
set_option maxHeartbeats 4000000
set_option maxRecDepth 100000
set_option linter.unusedVariables false
set_option linter.unusedSimpArgs false
namespace Go.Ev
open Go.Proofs Go.RowKit
structure Hb (B p bb most rn : Nat) (L : List Bk) (W : World) : Prop where
 ex : ∃ S root, BkS p bb most S root rn L W ∧ ∀ k, S k → B ≤ k
 size : B ≤ W.heap.size
def HbP (B p bb most : Nat) (v : Value) (Q : Nat → List Bk → Prop) (W : World) (e : Ending) (W' : World) : Prop :=
 ∃ rn' L', e = .returned v ∧ Q rn' L' ∧ Hb B p bb most rn' L' W' ∧ Below B W W'
section
variable {B p bb most rn : Nat} {S : Nat → Prop} {root : Int} {L : List Bk} {W W0 W' : World}
theorem Hb.below (h : Hb B p bb most rn L W) (hb : Below W.heap.size W W') : Hb B p bb most rn L W' := by
 obtain ⟨S, root, h1, h2⟩ := h.ex
 exact ⟨⟨S, root, h1.below hb, h2⟩, Nat.le_trans h.size hb.size⟩
theorem ChgP.hb {v : Value} {Q : Nat → List Bk → Prop} {e : Ending} (h : ChgP p bb most S v Q W e W') (hS : ∀ k, S k → B ≤ k) (hB : B ≤ W.heap.size) : HbP B p bb most v Q W e W' := by
 obtain ⟨S', root', rn', L', rfl, h1, h2, h3, h4⟩ := h
 exact ⟨rn', L', rfl, h1, ⟨⟨S', root', h2, fun k hk => (h4 k hk).elim (hS k) fun e => Nat.le_trans hB e⟩, Nat.le_trans hB h3.size⟩, h3.below hB fun i hi e => by have := hS i e; omega⟩
theorem Hb.rise (h : Hb B p bb most rn L W) : RiseB L := by
 obtain ⟨S, root, h1, h2⟩ := h.ex
 obtain ⟨c, M, rids, cnt, _, h3, _⟩ := h1.ex
 exact h3.rise
theorem Hb.make (h : Hb B p bb most rn L W0) (hb : Below W0.heap.size W0 W) (g : Nat) (hg : W0.heap.size ≤ g) (o n cc : Nat) (names : List Bytes) (hv : Sl W 1 (.slice (some ⟨g, o, none⟩) n cc) n (textsV names)) (hnl : names.length ≤ 100000) (hm : most ≤ 80000)
  (hn : ∀ nm ∈ names, 1 ≤ nm.length ∧ nm.length ≤ 40) (hR : ∀ k rn' L', MadesB L rn (names.take k) rn' L' → Roomy most rn' L') :
  Calls Tryz.prog 7 #[ptrV bb, .slice (some ⟨g, o, none⟩) n cc] W (HbP B p bb most (.int .i64 0) (MadesB L rn names) W) := by
 obtain ⟨S, root, h1, h2⟩ := h.ex
 exact (makeB_ok _ n cc names (h1.below hb) hv hnl hm (fun g' o' e hS => by cases e; have := h1.lt _ hS; omega) hn hR).mono fun e w' hp => hp.hb h2 (Nat.le_trans h.size hb.size)
theorem Hb.put (h : Hb B p bb most rn L W) (name key v : Bytes) (b : Bk) (hb : getB name L = some b) (hR : Roomy most rn L) (hA : AfterB most rn L name (insP key v b.t.ps) (b.t.n + 1)) (hm : most ≤ 80000) (hk1 : 1 ≤ name.length) (hk2 : name.length ≤ 40) (hg : goodKV key v = true) :
  Calls Tryz.prog 8 #[ptrV bb, strV name, strV key, strV v] W (HbP B p bb most (.int .i64 0) (TurnB L rn name (insP key v b.t.ps) (b.t.n + 1)) W) := by
 obtain ⟨S, root, h1, h2⟩ := h.ex
 exact (putB_ok name key v b h1 hb hR hA hm hk1 hk2 hg).mono fun e w' hp => hp.hb h2 h.size
theorem Hb.drop (h : Hb B p bb most rn L W) (name : Bytes) (b : Bk) (hb : getB name L = some b) (hR : Roomy most rn L) (hm : most ≤ 80000) (hl : b.t.ps.length ≤ 90000) (hk1 : 1 ≤ name.length) (hk2 : name.length ≤ 40) :
  Calls Tryz.prog 10 #[ptrV bb, strV name] W (HbP B p bb most (.int .i64 0) (GoneB L rn name) W) := by
 obtain ⟨S, root, h1, h2⟩ := h.ex
 exact (dropB_ok name b h1 hb hR hm hl hk1 hk2).mono fun e w' hp => hp.hb h2 h.size
theorem Hb.dropNo (h : Hb B p bb most rn L W) (name : Bytes) (hno : getB name L = none) (hrn : rn ≤ 20000) (hk1 : 1 ≤ name.length) (hk2 : name.length ≤ 40) :
  Calls Tryz.prog 10 #[ptrV bb, strV name] W fun e w' => e = .returned (.int .i64 7) ∧ Below W.heap.size W w' := by
 obtain ⟨S, root, h1, h2⟩ := h.ex
 exact drop_none name h1 hno hrn hk1 hk2
theorem Hb.get (h : Hb B p bb most rn L W) (name key : Bytes) (hrn : rn ≤ 20000) (hn : ∀ b ∈ L, b.t.n ≤ 20000) (hk1 : 1 ≤ name.length) (hk2 : name.length ≤ 40) (hg1 : 1 ≤ key.length) (hg2 : key.length ≤ 40) :
  Calls Tryz.prog 11 #[ptrV bb, strV name, strV key] W (GetBP L name key W) := by
 obtain ⟨S, root, h1, h2⟩ := h.ex
 exact getB_ok name key h1 hrn hn hk1 hk2 hg1 hg2
theorem Hb.names (h : Hb B p bb most rn L W) (hrn : rn ≤ 20000) (hl : L.length ≤ 100000) : Calls Tryz.prog 9 #[ptrV bb] W (NamesP L W) := by
 obtain ⟨S, root, h1, h2⟩ := h.ex
 exact names_ok h1 hrn hl
theorem PgOk.opened {c : Pc} {root : Int} (h : PgOk W p c most (updS (fun _ => none) root (some ⟨2, 0, []⟩)) 1) (hs : ∀ k, c.S p k → B ≤ k) (hB : B ≤ W.heap.size) :
  Hb B p W.heap.size most 0 [] (W.alloc (.cells #[ptrV p, .int .i64 root, .int .i64 0] 49)) := by
 have hba : Below W.heap.size W (W.alloc (.cells #[ptrV p, .int .i64 root, .int .i64 0] 49)) := (Below.refl _ _).alloc (Nat.le_refl _) _
 refine ⟨⟨fun k => c.S p k ∨ k = W.heap.size, root, ⟨⟨c, _, [root], 1, h.below hba, ⟨⟨fun t ht => ?_, by simp [idsT], by simp [idsT]⟩, fun b hb => by cases hb⟩, fun k => Iff.rfl, fun e => by have := h.lt _ e; omega⟩, Blk.new _ _ _⟩, fun k hk => ?_⟩, Nat.le_trans hB hba.size⟩
 ·rw [List.map_nil, List.mem_singleton] at ht
  subst ht
  exact TreeH.new (by simp [updS])
 ·rcases hk with hk | rfl
  ·exact hs k hk
  ·exact hB
theorem MadeB.few {i rn' : Nat} {nm : Bytes} {L' : List Bk} (h : MadeB L rn nm rn' L') (hf : FewB i rn L) : FewB (i + 1) rn' L' ∧ getB nm L' ≠ none ∧ ∀ k, getB k L ≠ none → getB k L' ≠ none := by
 rcases h with ⟨h1, rfl, rfl⟩ | ⟨h1, r, rfl, rfl⟩
 ·exact ⟨hf.mono (by omega), h1, fun _ h => h⟩
 ·refine ⟨hf.ins (by show 0 ≤ i + 1; omega) (.inl rfl), ?_, fun k h => getB_ins_some h⟩
  have := getB_ins (x := ⟨nm, ⟨r, [], [r], 0⟩⟩) L
  rw [this]
  simp
theorem MadesB.few {i : Nat} {ns : List Bytes} {rn' : Nat} {L' : List Bk} (h : MadesB L rn ns rn' L') (hf : FewB i rn L) : FewB (i + ns.length) rn' L' ∧ (∀ nm ∈ ns, getB nm L' ≠ none) ∧ ∀ k, getB k L ≠ none → getB k L' ≠ none := by
 induction h with
 | nil => exact ⟨hf, fun nm h => (by cases h), fun _ h => h⟩
 | snoc h1 h2 ih =>
  obtain ⟨a1, a2, a3⟩ := ih
  obtain ⟨b1, b2, b3⟩ := h2.few a1
  refine ⟨by rw [List.length_append]; exact b1, fun nm hnm => ?_, fun k h => b3 k (a3 k h)⟩
  rcases List.mem_append.1 hnm with h | h
  ·exact b3 nm (a2 nm h)
  ·rw [List.mem_singleton] at h
   subst h
   exact b2
theorem MadesB.nil_inv {rn' : Nat} {L' : List Bk} (h : MadesB L rn [] rn' L') : rn' = rn ∧ L' = L := by
 generalize e : ([] : List Bytes) = l at h
 cases h with
 | nil => exact ⟨rfl, rfl⟩
 | snoc h1 h2 => simp at e
theorem MadesB.snoc_inv {ns : List Bytes} {nm : Bytes} {rn' : Nat} {L' : List Bk} (h : MadesB L rn (ns ++ [nm]) rn' L') : ∃ rn1 L1, MadesB L rn ns rn1 L1 ∧ MadeB L1 rn1 nm rn' L' := by
 generalize e : ns ++ [nm] = l at h
 cases h with
 | nil => simp at e
 | snoc h1 h2 =>
  obtain ⟨rfl, e2⟩ := List.append_inj' e rfl
  simp only [List.cons.injEq, and_true] at e2
  subst e2
  exact ⟨_, _, h1, h2⟩
theorem TurnB.few {i n' : Nat} {nm : Bytes} {ps' : List Pair} {rn' : Nat} {L' : List Bk} (h : TurnB L rn nm ps' n' rn' L') (hf : FewB i rn L) (hn : n' ≤ i + 1) (ho : OneK ps') : FewB (i + 1) rn' L' ∧ ∀ k, getB k L ≠ none → getB k L' ≠ none := by
 obtain ⟨r, ids, rfl, rfl⟩ := h
 exact ⟨hf.ins hn ho, fun k h => getB_ins_some h⟩
end
end Go.Ev
set_option linter.unusedVariables false
set_option linter.unusedSimpArgs false
namespace Go.Ev
open Go.Proofs Go.RowKit
def twoB (r1 r2 : Int) : List Bk := [⟨[120], ⟨r1, [], [r1], 0⟩⟩, ⟨[121], ⟨r2, [], [r2], 0⟩⟩]
theorem made_x {rn' : Nat} {L' : List Bk} (h : MadesB [] 0 [[120]] rn' L') : rn' = 1 ∧ ∃ r, L' = [⟨[120], ⟨r, [], [r], 0⟩⟩] := by
 obtain ⟨rn1, L1, h1, h2⟩ := MadesB.snoc_inv (ns := []) (nm := [120]) h
 obtain ⟨rfl, rfl⟩ := h1.nil_inv
 rcases h2 with ⟨h2, _⟩ | ⟨_, r, rfl, rfl⟩
 ·exact absurd rfl h2
 ·exact ⟨rfl, r, rfl⟩
theorem made_xy {rn' : Nat} {L' : List Bk} (h : MadesB [] 0 [[120], [121]] rn' L') : rn' = 2 ∧ ∃ r1 r2, L' = twoB r1 r2 := by
 obtain ⟨rn1, L1, h1, h2⟩ := MadesB.snoc_inv (ns := [[120]]) (nm := [121]) h
 obtain ⟨rfl, r1, rfl⟩ := made_x h1
 rcases h2 with ⟨h2, _⟩ | ⟨_, r, rfl, rfl⟩
 ·exact absurd (by simp [getB]) h2
 ·exact ⟨rfl, r1, r, by simp [insB, twoB, lessB, Op.bytesLess]⟩
theorem roomy_xy (r1 r2 : Int) : Roomy 60 2 (twoB r1 r2) :=
 ⟨by omega, fun b hb => by
  simp only [twoB, List.mem_cons, List.not_mem_nil, or_false] at hb
  rcases hb with rfl | rfl <;> simp, by simp [twoB, ndT, ndP, topP, sumV, fix4_len]⟩
theorem roomy_x (r1 : Int) : Roomy 60 1 [⟨[120], ⟨r1, [], [r1], 0⟩⟩] :=
 ⟨by omega, fun b hb => by
  rw [List.mem_singleton] at hb
  subst hb
  simp, by simp [ndT, ndP, topP, sumV, fix4_len]⟩
theorem roomy_0 : Roomy 60 0 [] := ⟨by omega, fun b hb => (by cases hb), by simp [ndT, ndP, topP, sumV]⟩
theorem roomy_made : ∀ k rn' L', MadesB [] 0 (([[120], [121]] : List Bytes).take k) rn' L' → Roomy 60 rn' L'
 | 0, rn', L', h => by
  obtain ⟨rfl, rfl⟩ := MadesB.nil_inv h
  exact roomy_0
 | 1, rn', L', h => by
  obtain ⟨rfl, r, rfl⟩ := made_x h
  exact roomy_x r
 | k + 2, rn', L', h => by
  have e : ([[120], [121]] : List Bytes).take (k + 2) = [[120], [121]] := by simp
  rw [e] at h
  obtain ⟨rfl, r1, r2, rfl⟩ := made_xy h
  exact roomy_xy r1 r2
theorem after_x (r1 r2 : Int) : AfterB 60 2 (twoB r1 r2) [120] (insP [107] [49] []) 1 :=
 .inr ⟨by omega, by simp [twoB, ndT, ndP, topP, sumV, fix4_len, insP, delB]⟩
def threeB (r r2 : Int) (ids : List Int) : List Bk := [⟨[120], ⟨r, [([107], [49])], ids, 1⟩⟩, ⟨[121], ⟨r2, [], [r2], 0⟩⟩]
theorem three_B (r r1 r2 : Int) (ids : List Int) : insB ⟨[120], ⟨r, insP [107] [49] [], ids, 0 + 1⟩⟩ (twoB r1 r2) = threeB r r2 ids := by
 simp [insB, twoB, threeB, insP, lessB_irrefl, lessB, Op.bytesLess]
theorem sl_new (w : World) (l : List Value) (T : TypeId) : Sl (w.alloc (.cells l.toArray T)) 1 (.slice (some ⟨w.heap.size, 0, none⟩) l.length l.length) l.length l :=
 ⟨_, _, rfl, Nat.le_refl _, by omega, fun _ => ⟨_, _, rfl, by simp, fun j u hu => by
  rw [Nat.zero_add]
  have h := (Blk.new w T l.toArray).cell j
  rw [h]
  simpa using hu⟩⟩
theorem alive13 (w : World) : Calls Tryz.prog 4 #[] w (TrueB w) := by
 go_enter Tryz.func4, Tryz.ntmps4
 go_wp2_with (fail)
 go_must (refine (begin_m (m := 60) (by omega) w).mono ?_)
 rintro e w1 ⟨d, f, p, c, root, rfl, hp, hs, hb1⟩
 have HO := Lib.hid (hp.opened hs hb1.size)
 have HB1 := Lib.hid hb1
 clear hp hs hb1
 go_wp2_with (fail)
 go_must (refine (open_ok p root w1).mono ?_)
 rintro e w2 ⟨rfl, rfl⟩
 have HB2 := Lib.hid (HB1.out.trans (((Below.refl w1.heap.size w1).alloc (Nat.le_refl _) (.cells #[ptrV p, .int .i64 root, .int .i64 0] 49)).mono HB1.out.size))
 obtain ⟨bb, hbb⟩ : ∃ bb, w1.heap.size = bb := ⟨_, rfl⟩
 rw [hbb] at HO ⊢
 obtain ⟨w2, hw2⟩ : ∃ w2, w1.alloc (.cells #[ptrV p, .int .i64 root, .int .i64 0] 49) = w2 := ⟨_, rfl⟩
 rw [hw2] at HO HB2 ⊢
 clear hw2 hbb HB1
 go_wp2_with (fail)
 go_must (refine (HO.out.make ((Below.refl _ _).alloc (Nat.le_refl _) _) w2.heap.size (Nat.le_refl _) 0 2 2 [[120], [121]] (sl_new w2 [strV [120], strV [121]] _) (by decide) (by omega) (by decide) roomy_made).mono ?_)
 rintro e w3 ⟨rn3, L3, rfl, hQ, hH, hb3⟩
 obtain ⟨rfl, r1, r2, rfl⟩ := made_xy hQ
 have HP := Lib.hid (hH.put [120] [107] [49] ⟨[120], ⟨r1, [], [r1], 0⟩⟩ (by simp [twoB, getB]) (roomy_xy r1 r2) (after_x r1 r2) (by omega) (by decide) (by decide) (by decide))
 have HB3 := Lib.hid (HB2.out.trans (((Below.refl w.heap.size w2).alloc HO.out.size _).trans hb3))
 clear hQ hH hb3 HB2 HO
 go_wp2_with (fail)
 go_must (refine HP.out.mono ?_)
 rintro e w4 ⟨rn4, L4, rfl, hQ, hH, hb4⟩
 obtain ⟨r, ids, rfl, rfl⟩ := hQ
 rw [three_B] at hH
 have HH := Lib.hid hH
 have HB4 := Lib.hid (HB3.out.trans hb4)
 have hn3 : ∀ b ∈ threeB r r2 ids, b.t.n ≤ 20000 := by
  intro b hb
  simp only [threeB, List.mem_cons, List.not_mem_nil, or_false] at hb
  rcases hb with rfl | rfl <;> simp
 have HN := Lib.hid hn3
 have HG1 := Lib.hid (hH.get [120] [107] (by decide) hn3 (by decide) (by decide) (by decide) (by decide))
 clear hH hb4 HP HB3 hn3
 go_wp2_with (fail)
 go_must (refine HG1.out.mono ?_)
 rintro e w5 ⟨hq, hb5⟩
 obtain rfl : e = .returned (.tuple #[strV [49], .int .i64 0]) := by
  rcases hq with ⟨b, v, hb, hv, rfl⟩ | ⟨hno, _⟩
  ·simp only [threeB, getB, if_true, Option.some.injEq] at hb
   subst hb
   simp only [getP, if_true, Option.some.injEq] at hv
   subst hv
   rfl
  ·simp [threeB, getB, getP] at hno
 have hH := HH.out.below hb5
 have HG2 := Lib.hid (hH.get [121] [107] (by decide) HN.out (by decide) (by decide) (by decide) (by decide))
 have HH5 := Lib.hid hH
 have HB5 := Lib.hid (HB4.out.trans (hb5.mono HH.out.size))
 clear hq hH hb5 HG1 HH HB4
 go_wp2_with (fail)
 go_must (refine HG2.out.mono ?_)
 rintro e w6 ⟨hq, hb6⟩
 obtain rfl : e = .returned (.tuple #[strV [], .int .i64 7]) := by
  rcases hq with ⟨b, v, hb, hv, _⟩ | ⟨_, rfl⟩
  ·simp [threeB, getB] at hb
   subst hb
   simp [getP] at hv
  ·rfl
 have hH := HH5.out.below hb6
 have HG3 := Lib.hid (hH.get [122] [107] (by decide) HN.out (by decide) (by decide) (by decide) (by decide))
 have HH6 := Lib.hid hH
 have HB6 := Lib.hid (HB5.out.trans (hb6.mono HH5.out.size))
 clear hq hH hb6 HG2 HH5 HB5
 go_wp2_with (fail)
 go_must (refine HG3.out.mono ?_)
 rintro e w7 ⟨hq, hb7⟩
 obtain rfl : e = .returned (.tuple #[strV [], .int .i64 7]) := by
  rcases hq with ⟨b, v, hb, hv, _⟩ | ⟨_, rfl⟩
  ·simp [threeB, getB] at hb
  ·rfl
 have hH := HH6.out.below hb7
 have HG4 := Lib.hid (hH.names (by decide) (by show 2 ≤ 100000; decide))
 have HB7 := Lib.hid (HB6.out.trans (hb7.mono HH6.out.size))
 have hz7 := hH.size
 clear hq hH hb7 HG3 HH6 HB6
 go_wp2_with (fail)
 go_must (refine HG4.out.mono ?_)
 rintro e w8 ⟨v, rfl, hown, hb8⟩
 have hl2 : (threeB r r2 ids).length = 2 := rfl
 rw [hl2] at hown
 obtain ⟨A, cc, rfl, _, _, hcl⟩ := Sl.of_own hown
 obtain ⟨blk, off, rfl, hbl, hcell⟩ := hcl (by omega)
 have x0 : w8.cell? ⟨blk, off, none⟩ = some (strV [120]) := hcell 0 _ rfl
 have HB8 := Lib.hid (HB7.out.trans (hb8.mono hz7))
 clear hown hcl hcell hb8 HG4 HB7
 go_wp2_with (fail)
 go_ret
 exact ⟨rfl, HB8.out⟩
end Go.Ev
