/-
  The law arboretumlaw11.TreeOrders, walked over the contracts of all that it calls.
-/
import Derived.Test.YtgfmhppkmogdhaaGreatDoorMOEvInsert
import Derived.Test.YtgfmhppkmogdhaaGreatDoorMOGwOrders0
set_option linter.unusedVariables false
set_option linter.unusedSimpArgs false
set_option linter.unusedVariables false
set_option linter.unusedSimpArgs false
namespace Go.Ev
open Go.Proofs Go.RowKit

set_option maxHeartbeats 8000000 in
set_option maxRecDepth 100000 in
theorem orders_walk (hAl : ∀ W, Calls Tryz.prog 27 #[] W (TrueB W)) (A : Option Addr) (n c : Nat) (ops : List OpL) (w : World) (h : OpsAt w (.slice A n c) ops) :
    Calls Tryz.prog 6 #[.slice A n c] w (TrueB w) := by
  have HOps := Lib.hid h
  have HL := Lib.hid (light_any A n c ops w h)
  have HAl := Lib.hid hAl
  obtain ⟨hv, hml, hlen⟩ := h
  have hnn : n = ops.length := by obtain ⟨_, _, e, _⟩ := hv; cases e; rfl
  subst hnn
  have HLen := Lib.hid hlen
  have HV := Lib.hid hv
  clear hlen hml hv hAl
  go_enter Tryz.func6, Tryz.ntmps6
  go_wp2_with (fail)
  go_must (refine HL.out.mono ?_)
  rintro e w1 ⟨bl, rfl, hlight, hb1⟩
  have HB1 := Lib.hid hb1
  cases bl with
  | false =>
    clear hlight hb1
    go_wp2_with (fail)
    go_must (refine (HAl.out _).mono ?_)
    rintro e w2 ⟨rfl, hb2⟩
    go_wp2_with (fail)
    go_ret
    exact ⟨rfl, HB1.out.trans (hb2.mono HB1.out.size)⟩
  | true =>
    obtain ⟨hl1, hl2⟩ := hlight rfl
    by_cases h80 : (80 : Int) < (ops.length : Int)
    · clear hlight hb1
      go_wp2_with (fail)
      go_must (refine (HAl.out _).mono ?_)
      rintro e w2 ⟨rfl, hb2⟩
      go_wp2_with (fail)
      go_ret
      exact ⟨rfl, HB1.out.trans (hb2.mono HB1.out.size)⟩
    · have h80n : ops.length ≤ 80 := by omega
      clear hlight hb1 hl1 hl2
      go_wp2_with (fail)
      go_must (refine (begin_any w1).mono ?_)
      rintro e w2 ⟨da, fa, p, ca, ra, rfl, hpa, hsa, hb2⟩
      have HPa := Lib.hid (And.intro hpa (And.intro hsa hb2))
      clear hpa hsa hb2
      go_wp2_with (fail)
      go_must (refine (begin_any w2).mono ?_)
      rintro e w3 ⟨db, fb, q, cb, rb, rfl, hpb, hsb, hb3⟩
      have hT0 : Two w.heap.size p q (fun k => ca.S p k) (fun k => cb.S q k) (.slice none 0 0) 0 [] ra [] rb [] w3 := by
        obtain ⟨hpa, hsa, hb2⟩ := HPa.out
        have z1 := HB1.out.size
        have z2 := hb2.size
        have z3 := hb3.size
        exact ⟨⟨⟨ca, _, 1, hpa.below hb3, treeOk_new ra, fun k => Iff.rfl⟩, fun k hk => by have := hsa k hk; omega⟩, ⟨⟨cb, _, 1, hpb, treeOk_new rb, fun k => Iff.rfl⟩, fun k hk => by have := hsb k hk; omega⟩, World.ownsRow_nil _ _ _ _, fun k hk e => by have := hsb k e; have := hpa.lt k hk; omega, fun k hk => (by cases hk), fun k hk => (by cases hk), by omega⟩
      have HT0 := Lib.hid hT0
      have HB3 := Lib.hid (HB1.out.trans ((HPa.out.2.2.trans (hb3.mono HPa.out.2.2.size)).mono HB1.out.size))
      clear hT0 hpb hsb hb3
      go_wp2_with (fail)
      -- the document's pairs
      go_loopg [13, 14] ops.length (fun gk s13 s14 wr => ∃ i : Nat, s14 = .int .i64 (i : Int) ∧ i + gk = ops.length ∧ Hid (Two w.heap.size p q (fun k => ca.S p k) (fun k => cb.S q k) s13 (growP (kvs (ops.take i)) []).length (growP (kvs (ops.take i)) []) ra [] rb [] wr) ∧ Hid (Below w.heap.size w wr))
      case atStart => exact ⟨0, rfl, by omega, HT0.out, HB3.out⟩
      case round =>
        clear HT0 HB3
        obtain ⟨i, rfl, hi, hg, hbw⟩ := hrel
        by_cases h1 : i < ops.length
        · have h1' : (i : Int) < (ops.length : Int) := by omega
          have hi0 : (0 : Int) ≤ (i : Int) := by omega
          have hw1 : IntKind.i64.wrap ((i : Int) + 1) = (i : Int) + 1 := IntWalk.i64_in _ (by omega)
          obtain ⟨A', c', e0, _, _, hcl⟩ := HV.out.below hbw.out
          cases e0
          obtain ⟨blk, off, rfl, hbl, hcell⟩ := hcl (by omega)
          obtain ⟨_, p1, p2⟩ := opsCs_at ops i h1
          have x1 : wr.cell? ⟨blk, off + i * 3 + 1, none⟩ = _ := hcell _ _ p1
          have x2 : wr.cell? ⟨blk, off + i * 3 + 2, none⟩ = _ := hcell _ _ p2
          obtain ⟨m1, m2⟩ := HLen.out _ (List.getElem_mem h1)
          unfold maxLen at m1 m2
          have hst := kvs_take h1 []
          have hgl : (growP (kvs (ops.take i)) []).length ≤ i := by
            have := growP_len (kvs (ops.take i)) []
            simp only [kvs, List.length_map, List.length_take, List.length_nil] at this
            unfold kvs
            omega
          have hgg : GoodP (growP (kvs (ops.take i)) []) := growP_good fun q hq => by cases hq
          have HST := Lib.hid hst
          clear hst hcell hcl p1 p2
          generalize hk0 : ops[i].key = key at *
          generalize hv0 : ops[i].val = val at *
          generalize ht0 : growP (kvs (ops.take i)) [] = t at *
          have hown := hg.out.row
          obtain ⟨X, cx, rfl, _⟩ := Sl.of_own hown
          clear hk0 hv0 ht0
          cases hgd : goodKV key val with
          | true =>
            obtain ⟨g1, g2, g3⟩ := goodKV_of hgd
            rw [hgd] at HST
            have HF := Lib.hid (refPut_any _ _ t key val wr.drew hown (by omega) (fun q hq => by have := (goodKV_of (hgg q hq)).2.1; omega) g1 g2 g3)
            clear hown hgg hgl m1 m2 g1 g2 g3
            go_wp2_with (fail)
            refine wp_region_any (by kernel_rfl) ?_
            change wpAny _ _ _ _ _ _ _ (World.drew _)
            try simp only [Act.put, lT, l0, lS]
            refine tk 0 (v := ?_) rfl (by kernel_rfl) (fun _ _ _ h => h) (by rfl) ?hy ?_
            case hy => intro w; go_simp; try with_reducible rfl
            try simp only [Act.put, lT, l0, lS]
            refine tk 1 (v := ?_) rfl (by kernel_rfl) (fun _ _ _ h => h) (by rfl) ?hy ?_
            case hy => intro w; go_simp; try with_reducible rfl
            try simp only [Act.put, lT, l0, lS]
            refine tk 2 (v := ?_) rfl (by kernel_rfl) (fun _ _ _ h => h) (by rfl) ?hy ?_
            case hy => intro w; go_simp; try with_reducible rfl
            try simp only [Act.put, lT, l0, lS]
            refine tk 3 (v := ?_) rfl (by kernel_rfl) (fun _ _ _ h => h) (by rfl) ?hy ?_
            case hy => intro w; go_simp; try with_reducible rfl
            try simp only [Act.put, lT, l0, lS]
            refine tk 4 (v := ?_) rfl (by kernel_rfl) (fun _ _ _ h => h) (by rfl) ?hy ?_
            case hy => intro w; go_simp; try with_reducible rfl
            try simp only [Act.put, lT, l0, lS]
            refine tk 6 (v := ?_) rfl (by kernel_rfl) (fun _ _ _ h => h) (by rfl) ?hy ?_
            case hy => intro w; go_simp; try with_reducible rfl
            try simp only [Act.put, lT, l0, lS]
            refine tk 7 (v := ?_) rfl (by kernel_rfl) (fun _ _ _ h => h) (by rfl) ?hy ?_
            case hy => intro w; go_simp; try with_reducible rfl
            try simp only [Act.put, lT, l0, lS]
            refine tk 8 (v := ?_) rfl (by kernel_rfl) (fun _ _ _ h => h) (by rfl) ?hy ?_
            case hy => intro w; go_simp; try with_reducible rfl
            try simp only [Act.put, lT, l0, lS]
            refine tk 9 (v := ?_) rfl (by kernel_rfl) (fun _ _ _ h => h) (by rfl) ?hy ?_
            case hy => intro w; go_simp; try with_reducible rfl
            try simp only [Act.put, lT, l0, lS]
            try simp only [Act.put, lT, l0, lS]
            refine tkR 5 (v := ?_) rfl (by kernel_rfl) (fun _ _ _ h => h) (by rfl) ?hy ?_
            case hy => intro w hE; have q0 := hE.cell x1; go_simp; try with_reducible rfl
            try simp only [Act.put, lT, l0, lS]
            try simp only [Act.put, lT, l0, lS]
            refine tkR 10 (v := ?_) rfl (by kernel_rfl) (fun _ _ _ h => h) (by rfl) ?hy ?_
            case hy => intro w hE; have q0 := hE.cell x2; go_simp; try with_reducible rfl
            try simp only [Act.put, lT, l0, lS]
            refine rd 11 (by kernel_rfl) rfl (fun K hK => ?_)
            go_simp
            (go_must (refine HF.out.mono ?_); rintro e w2 ⟨u, rfl, hu, hb2⟩)
            have hb2' : Below wr.heap.size wr w2 := ((Below.refl _ wr).drew).trans hb2
            have HN := Lib.hid (hg.out.newRow hb2' hu)
            have HBN := Lib.hid (hbw.out.trans (hb2'.mono hbw.out.size))
            obtain ⟨U, cu, rfl, _⟩ := Sl.of_own hu
            clear hu hb2 hb2'
            go_simp
            refine hK _ _ ?_
            clear hK K
            refine rd 12 (by kernel_rfl) rfl (fun K hK => ?_)
            go_simp
            refine hK _ _ ?_
            clear hK K
            try simp only [Act.put, lT, l0, lS]
            refine tk 13 (v := ?_) rfl (by kernel_rfl) (fun _ _ _ h => h) (by rfl) ?hy ?_
            case hy => intro w; go_simp; try with_reducible rfl
            try simp only [Act.put, lT, l0, lS]
            refine tk 14 (v := ?_) rfl (by kernel_rfl) (fun _ _ _ h => h) (by rfl) ?hy ?_
            case hy => intro w; go_simp; try with_reducible rfl
            try simp only [Act.put, lT, l0, lS]
            refine rd 15 (by kernel_rfl) rfl (fun K hK => ?_)
            go_simp
            refine hK _ _ ?_
            clear hK K
            refine rd 16 (by kernel_rfl) rfl (fun K hK => ?_)
            go_simp
            refine hK _ _ ?_
            clear hK K
            refine wpAny_done (by kernel_rfl) ?_ _
            go_wp2_with (fail)
            go_roundg (gk - 1)
            case measure => omega
            case rel => exact ⟨i + 1, by simp, by omega, by show Two _ _ _ _ _ _ _ _ _ _ _ _ _; rw [HST.out]; exact HN.out, HBN.out⟩
          | false =>
            have hnot := goodKV_not hgd
            rw [hgd] at HST
            have HF := Lib.hid (refPut_bad X t.length cx key val wr.drew m1 m2 hnot)
            clear hown hgg hgl m1 m2
            go_wp2_with (fail)
            refine wp_region_any (by kernel_rfl) ?_
            change wpAny _ _ _ _ _ _ _ (World.drew _)
            try simp only [Act.put, lT, l0, lS]
            refine tk 0 (v := ?_) rfl (by kernel_rfl) (fun _ _ _ h => h) (by rfl) ?hy ?_
            case hy => intro w; go_simp; try with_reducible rfl
            try simp only [Act.put, lT, l0, lS]
            refine tk 1 (v := ?_) rfl (by kernel_rfl) (fun _ _ _ h => h) (by rfl) ?hy ?_
            case hy => intro w; go_simp; try with_reducible rfl
            try simp only [Act.put, lT, l0, lS]
            refine tk 2 (v := ?_) rfl (by kernel_rfl) (fun _ _ _ h => h) (by rfl) ?hy ?_
            case hy => intro w; go_simp; try with_reducible rfl
            try simp only [Act.put, lT, l0, lS]
            refine tk 3 (v := ?_) rfl (by kernel_rfl) (fun _ _ _ h => h) (by rfl) ?hy ?_
            case hy => intro w; go_simp; try with_reducible rfl
            try simp only [Act.put, lT, l0, lS]
            refine tk 4 (v := ?_) rfl (by kernel_rfl) (fun _ _ _ h => h) (by rfl) ?hy ?_
            case hy => intro w; go_simp; try with_reducible rfl
            try simp only [Act.put, lT, l0, lS]
            refine tk 6 (v := ?_) rfl (by kernel_rfl) (fun _ _ _ h => h) (by rfl) ?hy ?_
            case hy => intro w; go_simp; try with_reducible rfl
            try simp only [Act.put, lT, l0, lS]
            refine tk 7 (v := ?_) rfl (by kernel_rfl) (fun _ _ _ h => h) (by rfl) ?hy ?_
            case hy => intro w; go_simp; try with_reducible rfl
            try simp only [Act.put, lT, l0, lS]
            refine tk 8 (v := ?_) rfl (by kernel_rfl) (fun _ _ _ h => h) (by rfl) ?hy ?_
            case hy => intro w; go_simp; try with_reducible rfl
            try simp only [Act.put, lT, l0, lS]
            refine tk 9 (v := ?_) rfl (by kernel_rfl) (fun _ _ _ h => h) (by rfl) ?hy ?_
            case hy => intro w; go_simp; try with_reducible rfl
            try simp only [Act.put, lT, l0, lS]
            try simp only [Act.put, lT, l0, lS]
            refine tkR 5 (v := ?_) rfl (by kernel_rfl) (fun _ _ _ h => h) (by rfl) ?hy ?_
            case hy => intro w hE; have q0 := hE.cell x1; go_simp; try with_reducible rfl
            try simp only [Act.put, lT, l0, lS]
            try simp only [Act.put, lT, l0, lS]
            refine tkR 10 (v := ?_) rfl (by kernel_rfl) (fun _ _ _ h => h) (by rfl) ?hy ?_
            case hy => intro w hE; have q0 := hE.cell x2; go_simp; try with_reducible rfl
            try simp only [Act.put, lT, l0, lS]
            refine rd 11 (by kernel_rfl) rfl (fun K hK => ?_)
            go_simp
            (go_must (refine HF.out.mono ?_); rintro e w2 ⟨rfl, rfl⟩)
            go_simp
            refine hK _ _ ?_
            clear hK K
            refine rd 12 (by kernel_rfl) rfl (fun K hK => ?_)
            go_simp
            refine hK _ _ ?_
            clear hK K
            try simp only [Act.put, lT, l0, lS]
            refine tk 13 (v := ?_) rfl (by kernel_rfl) (fun _ _ _ h => h) (by rfl) ?hy ?_
            case hy => intro w; go_simp; try with_reducible rfl
            try simp only [Act.put, lT, l0, lS]
            refine tk 14 (v := ?_) rfl (by kernel_rfl) (fun _ _ _ h => h) (by rfl) ?hy ?_
            case hy => intro w; go_simp; try with_reducible rfl
            try simp only [Act.put, lT, l0, lS]
            refine rd 15 (by kernel_rfl) rfl (fun K hK => ?_)
            go_simp
            refine hK _ _ ?_
            clear hK K
            refine rd 16 (by kernel_rfl) rfl (fun K hK => ?_)
            go_simp
            refine hK _ _ ?_
            clear hK K
            refine wpAny_done (by kernel_rfl) ?_ _
            go_wp2_with (fail)
            go_roundg (gk - 1)
            case measure => omega
            case rel => exact ⟨i + 1, by simp, by omega, by show Two _ _ _ _ _ _ _ _ _ _ _ _ _; rw [HST.out]; exact hg.out.below ((Below.refl _ wr).drew), hbw.out.drew⟩
        · have h1' : ¬ (i : Int) < (ops.length : Int) := by omega
          have hii : i = ops.length := by omega
          have hg2 := hg.out
          rw [hii, List.take_length] at hg2
          obtain ⟨all, hall⟩ : ∃ all, growP (kvs ops) [] = all := ⟨_, rfl⟩
          have hKn : KnO all := ⟨by rw [← hall]; exact growP_rising trivial, by rw [← hall]; exact growP_good (fun q hq => by cases hq), by
            have := growP_len (kvs ops) []
            rw [hall] at this
            simp only [kvs, List.length_map, List.length_nil] at this
            omega⟩
          have hal80 : all.length ≤ 80 := by
            have := growP_len (kvs ops) []
            rw [hall] at this
            simp only [kvs, List.length_map, List.length_nil] at this
            omega
          rw [hall] at hg2
          have HAll := Lib.hid hall
          have HKn := Lib.hid hKn
          have hown := hg2.row
          obtain ⟨X, cx, rfl, _⟩ := Sl.of_own hown
          have HG2 := Lib.hid hg2
          obtain ⟨m, hm⟩ : ∃ m, all.length = m := ⟨_, rfl⟩
          have HM := Lib.hid hm
          rw [hm] at HG2 hal80 ⊢
          clear hg hg2 hown hii hall hKn hm
          go_wp2_with (fail)
          -- forwards into the first tree
          obtain ⟨wo, hwo⟩ : ∃ x, x = wr := ⟨_, rfl⟩
          subst hwo
          go_loopg [6, 17] ops.length (fun gk s6 s17 wr2 => ∃ (r : Int) (i : Nat) (Sa : Nat → Prop), s6 = .int .i64 r ∧ s17 = .int .i64 (i : Int) ∧ i + gk = ops.length ∧ Hid (Two w.heap.size p q Sa (fun k => cb.S q k) (.slice X m cx) m all r (growP (kvs (ops.take i)) []) rb [] wr2) ∧ Hid (Below w.heap.size w wr2))
          case atStart => exact ⟨ra, 0, _, rfl, rfl, by omega, HG2.out, hbw.out⟩
          case round =>
            clear HG2 hbw
            obtain ⟨wr2, hwo⟩ : ∃ x, x = wr := ⟨_, rfl⟩
            subst hwo
            obtain ⟨r, i, Sa, rfl, rfl, hi, hg, hbw⟩ := hrel
            by_cases h1 : i < ops.length
            · have h1' : (i : Int) < (ops.length : Int) := by omega
              have hi0 : (0 : Int) ≤ (i : Int) := by omega
              have hw1 : IntKind.i64.wrap ((i : Int) + 1) = (i : Int) + 1 := IntWalk.i64_in _ (by omega)
              obtain ⟨A', c', e0, _, _, hcl⟩ := HV.out.below hbw.out
              cases e0
              obtain ⟨blk, off, rfl, hbl, hcell⟩ := hcl (by omega)
              obtain ⟨_, p1, p2⟩ := opsCs_at ops i h1
              have x1 : wr2.cell? ⟨blk, off + i * 3 + 1, none⟩ = _ := hcell _ _ p1
              have x2 : wr2.cell? ⟨blk, off + i * 3 + 2, none⟩ = _ := hcell _ _ p2
              obtain ⟨m1, m2⟩ := HLen.out _ (List.getElem_mem h1)
              unfold maxLen at m1 m2
              have hst := kvs_take h1 []
              have hgl : (growP (kvs (ops.take i)) []).length ≤ i := by
                have := growP_len (kvs (ops.take i)) []
                simp only [kvs, List.length_map, List.length_take, List.length_nil] at this
                unfold kvs
                omega
              have hgg : GoodP (growP (kvs (ops.take i)) []) := growP_good fun q hq => by cases hq
              have HST := Lib.hid hst
              clear hst hcell hcl p1 p2
              generalize hk0 : ops[i].key = key at *
              generalize hv0 : ops[i].val = val at *
              generalize ht0 : growP (kvs (ops.take i)) [] = t at *
              clear hk0 hv0 ht0
              cases hgd : goodKV key val with
              | true =>
                rw [hgd] at HST
                have HP := Lib.hid ((hg.out.below (Below.refl _ wr2).drew).a.put (hg.out.size) key val hgd (by omega))
                clear hgg hgl m1 m2
                go_wp2_with (fail)
                refine wp_region_any (by kernel_rfl) ?_
                change wpAny _ _ _ _ _ _ _ (World.drew _)
                try simp only [Act.put, lT, l0, lS]
                refine tk 0 (v := ?_) rfl (by kernel_rfl) (fun _ _ _ h => h) (by rfl) ?hy ?_
                case hy => intro w; go_simp; try with_reducible rfl
                try simp only [Act.put, lT, l0, lS]
                refine tk 1 (v := ?_) rfl (by kernel_rfl) (fun _ _ _ h => h) (by rfl) ?hy ?_
                case hy => intro w; go_simp; try with_reducible rfl
                try simp only [Act.put, lT, l0, lS]
                refine tk 2 (v := ?_) rfl (by kernel_rfl) (fun _ _ _ h => h) (by rfl) ?hy ?_
                case hy => intro w; go_simp; try with_reducible rfl
                try simp only [Act.put, lT, l0, lS]
                refine tk 3 (v := ?_) rfl (by kernel_rfl) (fun _ _ _ h => h) (by rfl) ?hy ?_
                case hy => intro w; go_simp; try with_reducible rfl
                try simp only [Act.put, lT, l0, lS]
                refine tk 4 (v := ?_) rfl (by kernel_rfl) (fun _ _ _ h => h) (by rfl) ?hy ?_
                case hy => intro w; go_simp; try with_reducible rfl
                try simp only [Act.put, lT, l0, lS]
                refine tk 5 (v := ?_) rfl (by kernel_rfl) (fun _ _ _ h => h) (by rfl) ?hy ?_
                case hy => intro w; go_simp; try with_reducible rfl
                try simp only [Act.put, lT, l0, lS]
                refine tk 7 (v := ?_) rfl (by kernel_rfl) (fun _ _ _ h => h) (by rfl) ?hy ?_
                case hy => intro w; go_simp; try with_reducible rfl
                try simp only [Act.put, lT, l0, lS]
                refine tk 8 (v := ?_) rfl (by kernel_rfl) (fun _ _ _ h => h) (by rfl) ?hy ?_
                case hy => intro w; go_simp; try with_reducible rfl
                try simp only [Act.put, lT, l0, lS]
                refine tk 9 (v := ?_) rfl (by kernel_rfl) (fun _ _ _ h => h) (by rfl) ?hy ?_
                case hy => intro w; go_simp; try with_reducible rfl
                try simp only [Act.put, lT, l0, lS]
                refine tk 10 (v := ?_) rfl (by kernel_rfl) (fun _ _ _ h => h) (by rfl) ?hy ?_
                case hy => intro w; go_simp; try with_reducible rfl
                try simp only [Act.put, lT, l0, lS]
                try simp only [Act.put, lT, l0, lS]
                refine tkR 6 (v := ?_) rfl (by kernel_rfl) (fun _ _ _ h => h) (by rfl) ?hy ?_
                case hy => intro w hE; have q0 := hE.cell x1; go_simp; try with_reducible rfl
                try simp only [Act.put, lT, l0, lS]
                try simp only [Act.put, lT, l0, lS]
                refine tkR 11 (v := ?_) rfl (by kernel_rfl) (fun _ _ _ h => h) (by rfl) ?hy ?_
                case hy => intro w hE; have q0 := hE.cell x2; go_simp; try with_reducible rfl
                try simp only [Act.put, lT, l0, lS]
                refine rd 12 (by kernel_rfl) rfl (fun K hK => ?_)
                go_simp
                (go_must (refine HP.out.mono ?_); intro e w3 hput)
                obtain ⟨r', Sa', rfl, hG', hb3⟩ := hg.out.putA (Below.refl _ wr2).drew hput
                have HG' := Lib.hid hG'
                have HB3 := Lib.hid (hbw.out.trans hb3)
                clear hG' hb3 hput
                go_simp
                refine hK _ _ ?_
                clear hK K
                refine rd 13 (by kernel_rfl) rfl (fun K hK => ?_)
                go_simp
                refine hK _ _ ?_
                clear hK K
                try simp only [Act.put, lT, l0, lS]
                refine tk 14 (v := ?_) rfl (by kernel_rfl) (fun _ _ _ h => h) (by rfl) ?hy ?_
                case hy => intro w; go_simp; try with_reducible rfl
                try simp only [Act.put, lT, l0, lS]
                refine tk 15 (v := ?_) rfl (by kernel_rfl) (fun _ _ _ h => h) (by rfl) ?hy ?_
                case hy => intro w; go_simp; try with_reducible rfl
                try simp only [Act.put, lT, l0, lS]
                refine rd 16 (by kernel_rfl) rfl (fun K hK => ?_)
                go_simp
                refine hK _ _ ?_
                clear hK K
                refine rd 17 (by kernel_rfl) rfl (fun K hK => ?_)
                go_simp
                refine hK _ _ ?_
                clear hK K
                refine wpAny_done (by kernel_rfl) ?_ _
                go_wp2_with (fail)
                go_roundg (gk - 1)
                case measure => omega
                case rel => exact ⟨r', i + 1, Sa', rfl, by simp, by omega, by show Two _ _ _ _ _ _ _ _ _ _ _ _ _; rw [HST.out]; exact HG'.out, HB3.out⟩
              | false =>
                have hnot := goodKV_not hgd
                rw [hgd] at HST
                have HP := Lib.hid (treePut_bad p r key val wr2.drew m1 m2 hnot)
                clear hgg hgl m1 m2
                go_wp2_with (fail)
                refine wp_region_any (by kernel_rfl) ?_
                change wpAny _ _ _ _ _ _ _ (World.drew _)
                try simp only [Act.put, lT, l0, lS]
                refine tk 0 (v := ?_) rfl (by kernel_rfl) (fun _ _ _ h => h) (by rfl) ?hy ?_
                case hy => intro w; go_simp; try with_reducible rfl
                try simp only [Act.put, lT, l0, lS]
                refine tk 1 (v := ?_) rfl (by kernel_rfl) (fun _ _ _ h => h) (by rfl) ?hy ?_
                case hy => intro w; go_simp; try with_reducible rfl
                try simp only [Act.put, lT, l0, lS]
                refine tk 2 (v := ?_) rfl (by kernel_rfl) (fun _ _ _ h => h) (by rfl) ?hy ?_
                case hy => intro w; go_simp; try with_reducible rfl
                try simp only [Act.put, lT, l0, lS]
                refine tk 3 (v := ?_) rfl (by kernel_rfl) (fun _ _ _ h => h) (by rfl) ?hy ?_
                case hy => intro w; go_simp; try with_reducible rfl
                try simp only [Act.put, lT, l0, lS]
                refine tk 4 (v := ?_) rfl (by kernel_rfl) (fun _ _ _ h => h) (by rfl) ?hy ?_
                case hy => intro w; go_simp; try with_reducible rfl
                try simp only [Act.put, lT, l0, lS]
                refine tk 5 (v := ?_) rfl (by kernel_rfl) (fun _ _ _ h => h) (by rfl) ?hy ?_
                case hy => intro w; go_simp; try with_reducible rfl
                try simp only [Act.put, lT, l0, lS]
                refine tk 7 (v := ?_) rfl (by kernel_rfl) (fun _ _ _ h => h) (by rfl) ?hy ?_
                case hy => intro w; go_simp; try with_reducible rfl
                try simp only [Act.put, lT, l0, lS]
                refine tk 8 (v := ?_) rfl (by kernel_rfl) (fun _ _ _ h => h) (by rfl) ?hy ?_
                case hy => intro w; go_simp; try with_reducible rfl
                try simp only [Act.put, lT, l0, lS]
                refine tk 9 (v := ?_) rfl (by kernel_rfl) (fun _ _ _ h => h) (by rfl) ?hy ?_
                case hy => intro w; go_simp; try with_reducible rfl
                try simp only [Act.put, lT, l0, lS]
                refine tk 10 (v := ?_) rfl (by kernel_rfl) (fun _ _ _ h => h) (by rfl) ?hy ?_
                case hy => intro w; go_simp; try with_reducible rfl
                try simp only [Act.put, lT, l0, lS]
                try simp only [Act.put, lT, l0, lS]
                refine tkR 6 (v := ?_) rfl (by kernel_rfl) (fun _ _ _ h => h) (by rfl) ?hy ?_
                case hy => intro w hE; have q0 := hE.cell x1; go_simp; try with_reducible rfl
                try simp only [Act.put, lT, l0, lS]
                try simp only [Act.put, lT, l0, lS]
                refine tkR 11 (v := ?_) rfl (by kernel_rfl) (fun _ _ _ h => h) (by rfl) ?hy ?_
                case hy => intro w hE; have q0 := hE.cell x2; go_simp; try with_reducible rfl
                try simp only [Act.put, lT, l0, lS]
                refine rd 12 (by kernel_rfl) rfl (fun K hK => ?_)
                go_simp
                (go_must (refine HP.out.mono ?_); rintro e w3 ⟨rfl, rfl⟩)
                go_simp
                refine hK _ _ ?_
                clear hK K
                refine rd 13 (by kernel_rfl) rfl (fun K hK => ?_)
                go_simp
                refine hK _ _ ?_
                clear hK K
                try simp only [Act.put, lT, l0, lS]
                refine tk 14 (v := ?_) rfl (by kernel_rfl) (fun _ _ _ h => h) (by rfl) ?hy ?_
                case hy => intro w; go_simp; try with_reducible rfl
                try simp only [Act.put, lT, l0, lS]
                refine tk 15 (v := ?_) rfl (by kernel_rfl) (fun _ _ _ h => h) (by rfl) ?hy ?_
                case hy => intro w; go_simp; try with_reducible rfl
                try simp only [Act.put, lT, l0, lS]
                refine rd 16 (by kernel_rfl) rfl (fun K hK => ?_)
                go_simp
                refine hK _ _ ?_
                clear hK K
                refine rd 17 (by kernel_rfl) rfl (fun K hK => ?_)
                go_simp
                refine hK _ _ ?_
                clear hK K
                refine wpAny_done (by kernel_rfl) ?_ _
                go_wp2_with (fail)
                go_roundg (gk - 1)
                case measure => omega
                case rel => exact ⟨r, i + 1, Sa, rfl, by simp, by omega, by show Two _ _ _ _ _ _ _ _ _ _ _ _ _; rw [HST.out]; exact hg.out.below ((Below.refl _ wr2).drew), hbw.out.drew⟩
            · have h1' : ¬ (i : Int) < (ops.length : Int) := by omega
              have hii : i = ops.length := by omega
              have hg2 := hg.out
              rw [hii, List.take_length, HAll.out] at hg2
              have HG2 := Lib.hid hg2
              have hwm : IntKind.i64.wrap ((m : Int) - 1) = (m : Int) - 1 := IntWalk.i64_in _ (by omega)
              clear hg hg2 hii
              go_wp2_with (fail)
              -- backwards into the second one
              go_loopg [11, 20] m (fun gk s11 s20 wr3 => ∃ (r2 z : Int) (j : Nat) (Sb : Nat → Prop), s11 = .int .i64 r2 ∧ s20 = .int .i64 z ∧ z = (j : Int) - 1 ∧ j ≤ m ∧ j ≤ gk ∧ Hid (Two w.heap.size p q Sa Sb (.slice X m cx) m all r all r2 (all.drop j) wr3) ∧ Hid (Below w.heap.size w wr3))
              case atStart => exact ⟨rb, (m : Int) - 1, m, _, rfl, rfl, rfl, Nat.le_refl _, Nat.le_refl _, by show Two _ _ _ _ _ _ _ _ _ _ _ _ _; rw [← HM.out, List.drop_length, HM.out]; exact HG2.out, hbw.out⟩
              case round =>
                clear HG2 hbw
                obtain ⟨wr3, hwo⟩ : ∃ x, x = wr := ⟨_, rfl⟩
                subst hwo
                obtain ⟨r2, z, j, Sb, rfl, rfl, hz, hjm, hjg, hg, hbw⟩ := hrel
                cases j with
                | succ j =>
                  have hzj : z = (j : Int) := by omega
                  subst hzj
                  clear hz
                  have hj0 : (0 : Int) ≤ (j : Int) := by omega
                  have hj1 : (j : Int) < (m : Int) := by omega
                  have hwj : IntKind.i64.wrap ((j : Int) - 1) = (j : Int) - 1 := IntWalk.i64_in _ (by omega)
                  have hjl : j < all.length := by have := HM.out; omega
                  obtain ⟨_, _, e0, _, _, hcl⟩ := Sl.of_own hg.out.row
                  cases e0
                  obtain ⟨ba, oa, rfl, _, hca⟩ := hcl (by omega)
                  obtain ⟨p1, p2⟩ := pairsCs_at all j hjl
                  obtain ⟨u, hu⟩ : ∃ u, all[j] = u := ⟨_, rfl⟩
                  have hu2 : all[j]? = some u := by rw [List.getElem?_eq_getElem hjl, hu]
                  rw [hu] at p1 p2
                  have x1 : wr3.cell? ⟨ba, oa + j * 2, none⟩ = _ := hca _ _ p1
                  have x2 : wr3.cell? ⟨ba, oa + j * 2 + 1, none⟩ = _ := hca _ _ p2
                  have HP := Lib.hid ((hg.out.below (Below.refl _ wr3).drew).b.put (hg.out.size) u.1 u.2 (HKn.out.good u (List.mem_of_getElem? hu2)) (by rw [List.length_drop, HM.out]; omega))
                  rw [insP_drop HKn.out.rise hu2] at HP
                  clear hca hcl p1 p2 hu hu2 hjl
                  obtain ⟨uk, uv⟩ := u
                  simp only at x1 x2 HP
                  go_wp2_with (fail)
                  refine wp_region_any (by kernel_rfl) ?_
                  change wpAny _ _ _ _ _ _ _ (World.drew _)
                  try simp only [Act.put, lT, l0, lS]
                  refine tk 0 (v := ?_) rfl (by kernel_rfl) (fun _ _ _ h => h) (by rfl) ?hy ?_
                  case hy => intro w; go_simp; try with_reducible rfl
                  try simp only [Act.put, lT, l0, lS]
                  refine tk 1 (v := ?_) rfl (by kernel_rfl) (fun _ _ _ h => h) (by rfl) ?hy ?_
                  case hy => intro w; go_simp; try with_reducible rfl
                  try simp only [Act.put, lT, l0, lS]
                  refine tk 2 (v := ?_) rfl (by kernel_rfl) (fun _ _ _ h => h) (by rfl) ?hy ?_
                  case hy => intro w; go_simp; try with_reducible rfl
                  try simp only [Act.put, lT, l0, lS]
                  refine tk 3 (v := ?_) rfl (by kernel_rfl) (fun _ _ _ h => h) (by rfl) ?hy ?_
                  case hy => intro w; go_simp; try with_reducible rfl
                  try simp only [Act.put, lT, l0, lS]
                  refine tk 4 (v := ?_) rfl (by kernel_rfl) (fun _ _ _ h => h) (by rfl) ?hy ?_
                  case hy => intro w; go_simp; try with_reducible rfl
                  try simp only [Act.put, lT, l0, lS]
                  refine tk 5 (v := ?_) rfl (by kernel_rfl) (fun _ _ _ h => h) (by rfl) ?hy ?_
                  case hy => intro w; go_simp; try with_reducible rfl
                  try simp only [Act.put, lT, l0, lS]
                  refine tk 7 (v := ?_) rfl (by kernel_rfl) (fun _ _ _ h => h) (by rfl) ?hy ?_
                  case hy => intro w; go_simp; try with_reducible rfl
                  try simp only [Act.put, lT, l0, lS]
                  refine tk 8 (v := ?_) rfl (by kernel_rfl) (fun _ _ _ h => h) (by rfl) ?hy ?_
                  case hy => intro w; go_simp; try with_reducible rfl
                  try simp only [Act.put, lT, l0, lS]
                  refine tk 9 (v := ?_) rfl (by kernel_rfl) (fun _ _ _ h => h) (by rfl) ?hy ?_
                  case hy => intro w; go_simp; try with_reducible rfl
                  try simp only [Act.put, lT, l0, lS]
                  refine tk 10 (v := ?_) rfl (by kernel_rfl) (fun _ _ _ h => h) (by rfl) ?hy ?_
                  case hy => intro w; go_simp; try with_reducible rfl
                  try simp only [Act.put, lT, l0, lS]
                  try simp only [Act.put, lT, l0, lS]
                  refine tkR 6 (v := ?_) rfl (by kernel_rfl) (fun _ _ _ h => h) (by rfl) ?hy ?_
                  case hy => intro w hE; have q0 := hE.cell x1; go_simp; try with_reducible rfl
                  try simp only [Act.put, lT, l0, lS]
                  try simp only [Act.put, lT, l0, lS]
                  refine tkR 11 (v := ?_) rfl (by kernel_rfl) (fun _ _ _ h => h) (by rfl) ?hy ?_
                  case hy => intro w hE; have q0 := hE.cell x2; go_simp; try with_reducible rfl
                  try simp only [Act.put, lT, l0, lS]
                  refine rd 12 (by kernel_rfl) rfl (fun K hK => ?_)
                  go_simp
                  (go_must (refine HP.out.mono ?_); intro e w3 hput)
                  obtain ⟨r', Sb', rfl, hG', hb3⟩ := hg.out.putB (Below.refl _ wr3).drew hput
                  have HG' := Lib.hid hG'
                  have HB3 := Lib.hid (hbw.out.trans hb3)
                  clear hG' hb3 hput
                  go_simp
                  refine hK _ _ ?_
                  clear hK K
                  refine rd 13 (by kernel_rfl) rfl (fun K hK => ?_)
                  go_simp
                  refine hK _ _ ?_
                  clear hK K
                  try simp only [Act.put, lT, l0, lS]
                  refine tk 14 (v := ?_) rfl (by kernel_rfl) (fun _ _ _ h => h) (by rfl) ?hy ?_
                  case hy => intro w; go_simp; try with_reducible rfl
                  try simp only [Act.put, lT, l0, lS]
                  refine tk 15 (v := ?_) rfl (by kernel_rfl) (fun _ _ _ h => h) (by rfl) ?hy ?_
                  case hy => intro w; go_simp; try with_reducible rfl
                  try simp only [Act.put, lT, l0, lS]
                  refine rd 16 (by kernel_rfl) rfl (fun K hK => ?_)
                  go_simp
                  refine hK _ _ ?_
                  clear hK K
                  refine rd 17 (by kernel_rfl) rfl (fun K hK => ?_)
                  go_simp
                  refine hK _ _ ?_
                  clear hK K
                  refine wpAny_done (by kernel_rfl) ?_ _
                  go_wp2_with (fail)
                  go_roundg (gk - 1)
                  case measure => omega
                  case rel => exact ⟨r', (j : Int) - 1, j, Sb', rfl, rfl, rfl, by omega, by omega, HG'.out, HB3.out⟩
                | zero =>
                  have hzj : z = -1 := by omega
                  subst hzj
                  rw [List.drop_zero] at hg
                  have HT := Lib.hid hg.out
                  have HBW := Lib.hid hbw.out
                  clear hg hbw hz
                  go_wp2_with (fail)
                  go_loopg [23] m (fun gk s23 wr4 => ∃ i : Nat, s23 = .int .i64 (i : Int) ∧ i + gk = m ∧ Hid (Below wr3.heap.size wr3 wr4))
                  case atStart => exact ⟨0, rfl, by omega, Below.refl _ _⟩
                  case round =>
                    obtain ⟨wr4, hwo⟩ : ∃ x, x = wr := ⟨_, rfl⟩
                    subst hwo
                    obtain ⟨i, rfl, hi, hbw⟩ := hrel
                    by_cases h1 : i < m
                    · have h1' : (i : Int) < (m : Int) := by omega
                      have hi0 : (0 : Int) ≤ (i : Int) := by omega
                      have hw1 : IntKind.i64.wrap ((i : Int) + 1) = (i : Int) + 1 := IntWalk.i64_in _ (by omega)
                      have hil : i < all.length := by have := HM.out; omega
                      have hTw := HT.out.below hbw.out
                      obtain ⟨_, _, e0, _, _, hcl⟩ := Sl.of_own hTw.row
                      cases e0
                      obtain ⟨ba, oa, rfl, _, hca⟩ := hcl (by omega)
                      obtain ⟨p1, p2⟩ := pairsCs_at all i hil
                      obtain ⟨u, hu⟩ : ∃ u, all[i] = u := ⟨_, rfl⟩
                      have hu2 : all[i]? = some u := by rw [List.getElem?_eq_getElem hil, hu]
                      rw [hu] at p1 p2
                      have x1 : wr4.cell? ⟨ba, oa + i * 2, none⟩ = _ := hca _ _ p1
                      have HGa := Lib.hid (hTw.a.get HKn.out.few HKn.out.rise HKn.out.good hu2)
                      have HGb : Hid (∀ W, Below wr4.heap.size wr4 W → Calls Tryz.prog 25 #[ptrV q, .int .i64 r2, strV u.1] W fun e w' => e = .returned (.tuple #[strV u.2, .int .i64 0]) ∧ Below W.heap.size W w') := fun W hW => (hTw.below hW).b.get HKn.out.few HKn.out.rise HKn.out.good hu2
                      have HC : Hid (∀ W, Below wr4.heap.size wr4 W → W.cell? ⟨ba, oa + i * 2, none⟩ = some (strV u.1) ∧ W.cell? ⟨ba, oa + i * 2 + 1, none⟩ = some (strV u.2)) := fun W hW => by
                        obtain ⟨_, _, e0, _, _, hcl⟩ := Sl.of_own (hTw.below hW).row
                        cases e0
                        obtain ⟨ba', oa', e1, _, hca⟩ := hcl (by omega)
                        cases e1
                        exact ⟨hca _ _ p1, hca _ _ p2⟩
                      clear hca hcl p1 p2 hu hu2 hil hTw
                      obtain ⟨uk, uv⟩ := u
                      simp only at x1 HGa HGb HC
                      go_wp2_with (fail)
                      go_must (refine HGa.out.mono ?_)
                      rintro e w5 ⟨rfl, hb5⟩
                      obtain ⟨y1, _⟩ := HC.out w5 hb5
                      have HGb5 := Lib.hid (HGb.out w5 hb5)
                      have HB5 := Lib.hid hb5
                      clear hb5
                      go_wp2_with (fail)
                      go_must (refine HGb5.out.mono ?_)
                      rintro e w6 ⟨rfl, hb6⟩
                      have hb46 := HB5.out.trans (hb6.mono HB5.out.size)
                      obtain ⟨_, y2⟩ := HC.out w6 hb46
                      have HB6 := Lib.hid (hbw.out.trans (hb46.mono hbw.out.size))
                      clear hb6 hb46 y1 x1
                      go_wp2_with (fail)
                      go_roundg (gk - 1)
                      case measure => omega
                      case rel => exact ⟨i + 1, by simp, by omega, HB6.out⟩
                    · have h1' : ¬ (i : Int) < (m : Int) := by omega
                      have hTw := HT.out.below hbw.out
                      have hCa := hTw.a.count HKn.out.few
                      have HCb : Hid (∀ W, Below wr4.heap.size wr4 W → Calls Tryz.prog 31 #[ptrV q, .int .i64 r2] W fun e w' => e = .returned (.tuple #[.int .i64 (m : Int), .int .i64 0]) ∧ Below W.heap.size W w') := fun W hW => by
                        have := (hTw.below hW).b.count HKn.out.few
                        rw [HM.out] at this
                        exact this
                      rw [HM.out] at hCa
                      have HCa := Lib.hid hCa
                      have HBw := Lib.hid (HBW.out.trans (hbw.out.mono HBW.out.size))
                      clear hCa hTw hbw
                      go_wp2_with (fail)
                      go_must (refine HCa.out.mono ?_)
                      rintro e w5 ⟨rfl, hb5⟩
                      have HCb5 := Lib.hid (HCb.out w5 hb5)
                      have HB5 := Lib.hid (HBw.out.trans (hb5.mono HBw.out.size))
                      clear hb5
                      go_wp2_with (fail)
                      go_must (refine HCb5.out.mono ?_)
                      rintro e w6 ⟨rfl, hb6⟩
                      have HB6 := Lib.hid (HB5.out.trans (hb6.mono HB5.out.size))
                      clear hb6
                      go_wp2_with (fail)
                      go_must (refine (HAl.out _).mono ?_)
                      rintro e w7 ⟨rfl, hb7⟩
                      go_wp2_with (fail)
                      go_ret
                      exact ⟨rfl, HB6.out.trans (hb7.mono HB6.out.size)⟩

theorem call_treeOrders (hAl : ∀ W, Calls Tryz.prog 27 #[] W (TrueB W)) (A : Option Addr) (n c : Nat) (ops : List OpL) (w : World) (h : OpsAt w (.slice A n c) ops) :
    Calls Tryz.prog 6 #[.slice A n c] w (TrueB w) := orders_walk hAl A n c ops w h
end Go.Ev
