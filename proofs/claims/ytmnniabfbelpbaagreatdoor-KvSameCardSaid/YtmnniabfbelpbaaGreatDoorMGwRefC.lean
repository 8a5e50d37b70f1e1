/-
  Texts of this claim.
-/
import Derived.Test.YtmnniabfbelpbaaGreatDoorMGvBuckFew
set_option linter.unusedVariables false
set_option linter.unusedSimpArgs false
set_option maxHeartbeats 8000000
set_option maxRecDepth 100000
namespace Go.Ev
open Go.Proofs Go.RowKit
abbrev sesV (x : Ses) : Value := .agg #[.int .i64 x.who, .int .i64 x.seq, .int .i64 x.err, strV x.val, .int .i64 x.num]
abbrev repV (x : Ses) : Value := .agg #[.int .i64 x.err, strV x.val, .int .i64 x.num]
def SesGood (x : Ses) : Prop := I64 x.who ∧ I64 x.seq ∧ I64 x.err ∧ I64 x.num ∧ x.val.length ≤ 2000
theorem layS_len {x : Ses} (h : SesGood x) : (layS x).length ≤ 2060 ∧ (layS x).length ≤ x.val.length + 60 := by
 obtain ⟨h1, h2, h3, h4, h5⟩ := h
 have e1 := varsB_len [x.who, x.seq, x.err, x.num] (by
  intro y hy
  simp only [List.mem_cons, List.not_mem_nil, or_false] at hy
  rcases hy with rfl | rfl | rfl | rfl <;> assumption)
 have e2 := (varB_len (x.val.length : Int) ⟨by omega, by omega⟩).2
 simp only [List.length_cons, List.length_nil] at e1
 unfold layS
 simp only [textsB, textB, List.length_append, List.length_nil]
 omega
theorem sl_blk {W : World} {g : Nat} {T : TypeId} (l : List Value) (h : Blk W g T l.toArray) : Sl W 1 (.slice (some ⟨g, 0, none⟩) l.length l.length) l.length l :=
 ⟨_, _, rfl, Nat.le_refl _, by omega, fun _ => ⟨_, _, rfl, h.lt, fun j u hu => by
  rw [Nat.zero_add, h.cell j]
  simpa using hu⟩⟩
theorem cat_bytes (a b : Bytes) : (⟨a.toArray⟩ : ByteArray) ++ ⟨b.toArray⟩ = ⟨(a ++ b).toArray⟩ := by
 apply ByteArray.ext
 simp
theorem lay_ok (x : Ses) (w : World) (h : SesGood x) :
  Calls Tryz.prog 39 #[sesV x] w fun e w' => e = .returned (strV (layS x)) ∧ Below w.heap.size w w' := by
 obtain ⟨h1, h2, h3, h4, h5⟩ := h
 have hT0 : (textsB [x.val]).length ≤ 100000 := by
  have e2 := (varB_len (x.val.length : Int) ⟨by omega, by omega⟩).2
  simp only [textsB, textB, List.length_append, List.length_nil]
  omega
 have hV0 : (varsB [x.who, x.seq, x.err, x.num]).length ≤ 100000 := by
  have := varsB_len [x.who, x.seq, x.err, x.num] (by
   intro y hy
   simp only [List.mem_cons, List.not_mem_nil, or_false] at hy
   rcases hy with rfl | rfl | rfl | rfl <;> assumption)
  simp only [List.length_cons, List.length_nil] at this
  omega
 have HV : Hid (∀ W g, Sl W 1 (.slice (some ⟨g, 0, none⟩) 4 4) 4 [.int .i64 x.who, .int .i64 x.seq, .int .i64 x.err, .int .i64 x.num] → Calls Tryz.prog 38 #[.slice (some ⟨g, 0, none⟩) 4 4] W fun e w' => e = .returned (strV (varsB [x.who, x.seq, x.err, x.num])) ∧ Below W.heap.size W w') := fun W g hs => vars_any _ 4 4 _ W hs (by
  intro y hy
  simp only [List.mem_cons, List.not_mem_nil, or_false] at hy
  rcases hy with rfl | rfl | rfl | rfl <;> assumption) (by omega)
 have HT : Hid (∀ W g, Sl W 1 (.slice (some ⟨g, 0, none⟩) 1 1) 1 [strV x.val] → Calls Tryz.prog 68 #[.slice (some ⟨g, 0, none⟩) 1 1] W fun e w' => e = .returned (strV (textsB [x.val])) ∧ Below W.heap.size W w') := fun W g hs => texts_any _ 1 1 _ W hs hT0 (by omega)
 obtain ⟨vb, hvb⟩ := nmz (varsB [x.who, x.seq, x.err, x.num])
 obtain ⟨tb, htb⟩ := nmz (textsB [x.val])
 rw [hvb] at HV
 rw [htb] at HT
 have HL : Hid (layS x = vb ++ tb) := by show layS x = _; rw [← hvb, ← htb]; rfl
 have l2 : tb.length ≤ 100000 := by rw [← htb]; exact hT0
 have l1 : vb.length ≤ 100000 := by rw [← hvb]; exact hV0
 have l3 : ¬ 9223372036854775807 < vb.length + tb.length := by omega
 clear hvb htb hT0 hV0
 have b0 : Blk (w.alloc (.cells #[.int .i64 x.who, .int .i64 x.seq, .int .i64 x.err, strV x.val, .int .i64 x.num] 89)) w.heap.size 89 #[.int .i64 x.who, .int .i64 x.seq, .int .i64 x.err, strV x.val, .int .i64 x.num] := Blk.new _ _ _
 have c0 := b0.cell 0
 have c1 := b0.cell 1
 have c2 := b0.cell 2
 have c3 := b0.cell 3
 have c4 := b0.cell 4
 clear b0 h1 h2 h3 h4 h5
 go_enter Tryz.func39, Tryz.ntmps39
 go_wp2_with (fail)
 refine wRz ?_
 try simp only [lAz]
 refine tA 0 ?_; try simp only [lAz]
 refine tA 2 ?_; try simp only [lAz]
 refine tA 4 ?_; try simp only [lAz]
 refine tA 5 ?_; try simp only [lAz]
 refine tA 7 ?_; try simp only [lAz]
 refine tA 8 ?_; try simp only [lAz]
 refine tA 12 ?_; try simp only [lAz]
 refine tA 13 ?_; try simp only [lAz]
 refine rA 1 (v := ?_) (hy := ?hy) ?_; case hy => (intro w hE; have q0 := hE.cell c0; go_simp; try with_reducible rfl)
 try simp only [lAz]
 refine rA 3 (v := ?_) (hy := ?hy) ?_; case hy => (intro w hE; have q0 := hE.cell c1; go_simp; try with_reducible rfl)
 try simp only [lAz]
 refine rA 6 (v := ?_) (hy := ?hy) ?_; case hy => (intro w hE; have q0 := hE.cell c2; go_simp; try with_reducible rfl)
 try simp only [lAz]
 refine rA 9 (v := ?_) (hy := ?hy) ?_; case hy => (intro w hE; have q0 := hE.cell c4; go_simp; try with_reducible rfl)
 try simp only [lAz]
 refine wpAny_ready (rs := [10, 14]) (by kernel_rfl) (by simp) (aCz (fun K hK => ?_) (aCz (fun K hK => ?_) AllReady.nil))
 focus
  go_simp
  apply hK
  clear hK K
  refine wpAny_ready (rs := [11, 14]) (by kernel_rfl) (by simp) (aCz (fun K hK => ?_) (aCz (fun K hK => ?_) AllReady.nil))
 rotate_left
 focus
  go_simp
  apply hK
  clear hK K
  refine wpAny_ready (rs := [11, 15]) (by kernel_rfl) (by simp) (aCz (fun K hK => ?_) (aCz (fun K hK => ?_) AllReady.nil))
 rotate_left
 focus
  go_simp
  apply hK
  clear hK K
  refine wpAny_ready (rs := [11]) (by kernel_rfl) (by simp) (aCz (fun K hK => ?_) AllReady.nil)
 rotate_left
 focus
  go_simp
  apply hK
  clear hK K
  refine wpAny_ready (rs := [10, 15]) (by kernel_rfl) (by simp) (aCz (fun K hK => ?_) (aCz (fun K hK => ?_) AllReady.nil))
 rotate_left
 focus
  go_simp
  apply hK
  clear hK K
  refine rZz 10 fun K hK => ?_; go_simp; apply hK; clear hK K
  refine wpAny_ready (rs := [11]) (by kernel_rfl) (by simp) (aCz (fun K hK => ?_) AllReady.nil)
 rotate_left 4
 focus
  go_simp
  apply hK
  clear hK K
  refine wpAny_ready (rs := [11, 15]) (by kernel_rfl) (by simp) (aCz (fun K hK => ?_) (aCz (fun K hK => ?_) AllReady.nil))
 rotate_left
 focus
  go_simp
  apply hK
  clear hK K
  refine wpAny_ready (rs := [11]) (by kernel_rfl) (by simp) (aCz (fun K hK => ?_) AllReady.nil)
 all_goals
  go_simp
  (go_must (refine (HV.out _ _ ?sl).mono ?_); (case sl => refine sl_blk (T := 3) [.int .i64 x.who, .int .i64 x.seq, .int .i64 x.err, .int .i64 x.num] ?_; (with_reducible first | exact Blk.new' (by simp) | exact Blk.drew (Blk.new' (by simp)) | exact Blk.alloc (Blk.new' (by simp)) _ | exact Blk.drew (Blk.alloc (Blk.new' (by simp)) _) | exact Blk.alloc (Blk.drew (Blk.new' (by simp))) _ | exact Blk.below' (Blk.new' (by simp)) (by assumption) | exact Blk.below' (Blk.drew (Blk.new' (by simp))) (by assumption) | exact Blk.below' (Blk.alloc (Blk.new' (by simp)) _) (by assumption) | exact Blk.below' (Blk.drew (Blk.alloc (Blk.new' (by simp)) _)) (by assumption))); rintro e wv ⟨rfl, hbv⟩)
  have HBv : Hid (Below w.heap.size w wv) := Below.trans (by repeat (first | exact Below.refl _ _ | refine Below.drew ?_ | refine Below.alloc ?_ (by first | omega | (simp; omega) | simp) _)) (hbv.mono (by first | omega | (simp; omega) | simp))
  have hzv := HBv.out.size
  have hzb := hbv.size
  try have b3 : Blk wv w.heap.size 89 #[.int .i64 x.who, .int .i64 x.seq, .int .i64 x.err, strV x.val, .int .i64 x.num] := (by repeat (first | with_reducible refine Blk.drew ?_ | (with_reducible refine Blk.new' ?_; first | rfl | (simp; done)) | with_reducible refine Blk.alloc ?_ _ | with_reducible refine Blk.below' ?_ (by assumption)))
  try have n3 := b3.cell 3
  go_simp
  apply hK
  clear hK K
  try (refine rd 14 (by decide +kernel) rfl (fun K hK => ?_); go_simp; apply hK; clear hK K)
  try (refine rd 15 (by decide +kernel) rfl (fun K hK => ?_); go_simp; apply hK; clear hK K)
  refine rZz 16 fun K hK => ?_; go_simp
  (go_must (refine (HT.out _ _ ?sl).mono ?_); (case sl => refine sl_blk (T := 9) [strV x.val] ?_; (with_reducible first | exact Blk.new' (by simp) | exact Blk.drew (Blk.new' (by simp)) | (refine Blk.below' ?_ hbv; first | exact Blk.drew (Blk.new' (by simp)) | exact Blk.drew (Blk.alloc (Blk.new' (by simp)) _) | exact Blk.new' (by simp) | exact Blk.alloc (Blk.new' (by simp)) _))); rintro e wt ⟨rfl, hbt⟩)
  have HBt : Hid (Below w.heap.size w wt) := Below.trans (HBv.out.trans (by repeat (first | exact Below.refl _ _ | refine Below.drew ?_ | refine Below.alloc ?_ (by first | omega | (simp; omega) | simp) _))) (hbt.mono (by first | omega | (simp; omega) | simp))
  clear hbt hbv
  go_simp
  apply hK
  clear hK K
  refine rZz 17 fun K hK => ?_; go_simp; apply hK; clear hK K
  refine rZz 18 fun K hK => ?_; go_simp; apply hK; clear hK K
  refine wDz ?_
  go_wp2_with (fail)
  go_ret
  exact ⟨by rw [HL.out]; exact congrArg (fun s => Ending.returned (.string s)) (cat_bytes vb tb), HBt.out⟩
theorem RdTo.go {r : Nat} {w w' : World} {v : Value} {R : Rd} {e : Ending} (h : RdTo r w v R e w') : e = .returned v ∧ RdAt w' r R ∧ Keeps (· = r) w w' := h
theorem read_ok (x : Ses) (w : World) (h : SesGood x) :
  Calls Tryz.prog 69 #[strV (layS x)] w fun e w' => e = .returned (.tuple #[sesV x, .int .i64 0]) ∧ Below w.heap.size w w' := by
 have hll := (layS_len h).1
 obtain ⟨h1, h2, h3, h4, h5⟩ := h
 obtain ⟨b4, hb4⟩ := nmz (textB x.val)
 obtain ⟨b3, hb3⟩ := nmz (varB x.num ++ b4)
 obtain ⟨b2, hb2⟩ := nmz (varB x.err ++ b3)
 obtain ⟨b1, hb1⟩ := nmz (varB x.seq ++ b2)
 obtain ⟨b0, hb0⟩ := nmz (layS x)
 have e0 : b0 = varB x.who ++ b1 := by
  rw [← hb0, ← hb1, ← hb2, ← hb3, ← hb4]
  simp [layS, varsB, textsB]
 have r0 : Rd.var ⟨b0, 0⟩ = (x.who, ⟨b1, 0⟩) := by rw [e0]; exact Rd.var_var _ h1 _
 have r1 : Rd.var ⟨b1, 0⟩ = (x.seq, ⟨b2, 0⟩) := by rw [← hb1]; exact Rd.var_var _ h2 _
 have r2 : Rd.var ⟨b2, 0⟩ = (x.err, ⟨b3, 0⟩) := by rw [← hb2]; exact Rd.var_var _ h3 _
 have r3 : Rd.var ⟨b3, 0⟩ = (x.num, ⟨b4, 0⟩) := by rw [← hb3]; exact Rd.var_var _ h4 _
 have r4 : Rd.text 2000 ⟨b4, 0⟩ = (x.val, ⟨[], 0⟩) := by
  rw [← hb4]
  have := Rd.text_text x.val 2000 (by omega) (by omega) []
  rwa [List.append_nil] at this
 have HR := Hdz (Anz r0 (Anz r1 (Anz r2 (Anz r3 r4))))
 rw [hb0] at hll ⊢
 have H5 := Hdz h5
 clear r0 r1 r2 r3 r4 e0 hb0 hb1 hb2 hb3 hb4 h1 h2 h3 h4 h5
 have HN : Hid (∀ W, Calls Tryz.prog 58 #[.string ⟨b0.toArray⟩] W (NewRd b0 W)) := fun W => newReader_any b0 W (by omega)
 have HVar : Hid (∀ W r R, RdAt W r R → Calls Tryz.prog 59 #[.pointer (some ⟨r, 0, none⟩)] W (RdTo r W (.int .i64 R.var.1) R.var.2)) := fun W r R hr => var_any r R W hr
 go_enter Tryz.func69, Tryz.ntmps69
 go_wp2_with (fail)
 go_must (refine (HN.out _).mono ?_)
 rintro e w1 ⟨r, rfl, hr, hrz, hbl⟩
 have hz : w.heap.size < r := by simp at hrz; omega
 have HB1 : Hid (Below w.heap.size w w1) := ((Below.refl _ w).alloc (Nat.le_refl _) _).trans (hbl.mono (by simp))
 have HC1 : Hid (Blk w1 w.heap.size 89 #[.int .i64 0, .int .i64 0, .int .i64 0, strV [], .int .i64 0]) := Blk.below' (Blk.new _ _ _) hbl
 have HV := Hdz (HVar.out w1 r _ hr)
 clear hbl hr hrz
 go_wp2_with (fail)
 go_must (refine HV.out.mono ?_)
 rintro e w2 hto
 obtain ⟨rfl, hr, hk2⟩ := hto.go
 rw [HR.out.1] at hr ⊢
 have HV := Hdz (HVar.out w2 r _ hr)
 have HK2 := Hdz hk2
 clear hto hr hk2
 go_wp2_with (fail)
 go_must (refine HV.out.mono ?_)
 rintro e w3 hto
 obtain ⟨rfl, hr, hk3⟩ := hto.go
 rw [HR.out.2.1] at hr ⊢
 have HV := Hdz (HVar.out w3 r _ hr)
 have HK3 := Hdz (HK2.out.trans hk3 fun i _ e => e)
 clear hto hr hk3
 go_wp2_with (fail)
 go_must (refine HV.out.mono ?_)
 rintro e w4 hto
 obtain ⟨rfl, hr, hk4⟩ := hto.go
 rw [HR.out.2.2.1] at hr ⊢
 have HV := Hdz (HVar.out w4 r _ hr)
 have HK4 := Hdz (HK3.out.trans hk4 fun i _ e => e)
 clear hto hr hk4
 go_wp2_with (fail)
 go_must (refine HV.out.mono ?_)
 rintro e w5 hto
 obtain ⟨rfl, hr, hk5⟩ := hto.go
 rw [HR.out.2.2.2.1] at hr ⊢
 have HV := Hdz (text_any r _ 2000 w5 hr)
 have HK5 := Hdz (HK4.out.trans hk5 fun i _ e => e)
 clear hto hr hk5
 go_wp2_with (fail)
 go_must (refine HV.out.mono ?_)
 rintro e w6 hto
 obtain ⟨rfl, hr, hk6⟩ := hto.go
 rw [HR.out.2.2.2.2] at hr ⊢
 have HC := Hdz (clone_any ⟨x.val.toArray⟩ w6 (by show x.val.length ≤ _; have := H5.out; omega))
 have HK6 := Hdz (HK5.out.trans hk6 fun i _ e => e)
 have HRd := Hdz hr
 clear hto hr hk6
 go_wp2_with (fail)
 go_must (refine HC.out.mono ?_)
 rintro e w7 ⟨rfl, hb7⟩
 have HK7 : Hid (Keeps (· = r) w1 w7) := HK6.out.trans (Keeps.of_below (S := fun _ => False) hb7) fun i _ e => e.elim
 have HRd7 := Hdz (HRd.out.keeps (Keeps.of_below (S := fun _ => False) hb7) id)
 clear hb7
 go_wp2_with (fail)
 obtain ⟨w8, hw8⟩ := nmz (w7.alloc (.cells #[.int .i64 x.who, .int .i64 x.seq, .int .i64 x.err, strV x.val, .int .i64 x.num] 89))
 have hba : Below w7.heap.size w7 w8 := by rw [← hw8]; exact (Below.refl _ _).alloc (Nat.le_refl _) _
 have bx : Blk w8 w7.heap.size 89 #[.int .i64 x.who, .int .i64 x.seq, .int .i64 x.err, strV x.val, .int .i64 x.num] := by rw [← hw8]; exact Blk.new _ _ _
 have HK8 : Hid (Keeps (· = r) w1 w8) := HK7.out.trans (Keeps.of_below (S := fun _ => False) hba) fun i _ e => e.elim
 have bz := HC1.out.keeps HK8.out (by omega)
 have HE := Hdz (end_any r _ w8 (HRd7.out.keeps (Keeps.of_below (S := fun _ => False) hba) id))
 have hend : Rd.end ⟨[], 0⟩ = 0 := by rfl
 rw [hend] at HE
 obtain ⟨g5, hg5⟩ := nmz (w7.heap.size)
 rw [hg5] at bx
 have HBz := Hdz bz
 have HBx := Hdz bx
 rw [hw8, hg5]
 have x0 := bx.cell 0
 have x1 := bx.cell 1
 have x2 := bx.cell 2
 have x3 := bx.cell 3
 have x4 := bx.cell 4
 have z0 := bz.cell 0
 have z1 := bz.cell 1
 have z2 := bz.cell 2
 have z3 := bz.cell 3
 have z4 := bz.cell 4
 have f0 := bz.frozen 0
 have f1 := bz.frozen 1
 have f2 := bz.frozen 2
 have f3 := bz.frozen 3
 have f4 := bz.frozen 4
 clear bz bx hw8 hba hg5 hend
 go_must (refine HE.out.mono ?_)
 rintro e w9 ⟨rfl, rfl⟩
 go_wp2_with (fail)
 have hfin := ((((HBz.out.set 0 (.int .i64 x.who)).set 1 (.int .i64 x.seq)).set 2 (.int .i64 x.err)).set 3 (strV x.val)).set 4 (.int .i64 x.num)
 refine bodyPost_ret (res_row [.int .i64 x.who, .int .i64 x.seq, .int .i64 x.err, strV x.val, .int .i64 x.num] rfl rfl rfl (by kernel_rfl) hfin) rfl ?_
 have KF := (((((Keeps.refl (fun k => k = w.heap.size) w9).setCell (p := ⟨w.heap.size, 0, none⟩) (fun _ => rfl) (.int .i64 x.who)).setCell (p := ⟨w.heap.size, 1, none⟩) (fun _ => rfl) (.int .i64 x.seq)).setCell (p := ⟨w.heap.size, 2, none⟩) (fun _ => rfl) (.int .i64 x.err)).setCell (p := ⟨w.heap.size, 3, none⟩) (fun _ => rfl) (strV x.val)).setCell (p := ⟨w.heap.size, 4, none⟩) (fun _ => rfl) (.int .i64 x.num)
 have hs1 := HB1.out.size
 have hs8 := HK8.out.size
 exact ⟨rfl, (HB1.out.trans (HK8.out.below hs1 fun i hi e => by omega)).trans (KF.below (by omega) fun i hi e => by omega)⟩
theorem pgInv_new : PgInv 2 [] [] [] := by
 refine ⟨List.nodup_nil, List.nodup_nil, List.nodup_nil, fun k => Iff.rfl, fun k => ⟨fun h => by omega, fun h => by rcases h with h | h <;> cases h⟩, (fun k h => by cases h), (fun k v h => by cases h), Nat.le_refl _, (fun k v h => by cases h)⟩
theorem pages_new : Pages [] (fun _ => none) := fun _ => rfl
theorem pgOk_new {m : Nat} (hm : 4 ≤ m ∧ m ≤ 3000) {w : World} {p d f mb db wb sb B : Nat} {sy nw : Value} (h : Blk w p 158 #[ptrV d, ptrV f, .int .i64 2, .int .i64 2, .int .i64 1, .map (some mb), .map (some db), .map (some wb), ptrV sb])
  (hf : Blk w f 221 #[.slice none 0 0, .slice none 0 0, .map none]) (hd : DevAt w d m 2 sy nw) (m1 : MapI w mb [] 0) (m2 : MapI w db [] 0) (m3 : MapI w wb [] 0) (hs : Pl w sb (.slice none 0 0) [])
  (hdB : d < B) (hfB : f < B) (hsy : ∀ k, sy.ownBlock = some k → k < B) (hnw : ∀ k, nw.ownBlock = some k → k < B) (hp : B ≤ p) (h1 : p < mb) (h2 : mb < db) (h3 : db < wb) (h4 : wb < sb) :
  PgOk w p ⟨d, f, mb, db, wb, sb, .slice none 0 0, sy, nw⟩ m (fun _ => none) 0 := by
 have hdf : d ≠ f := by
  rintro rfl
  have := (hd.blk.eq hf).1
  revert this
  decide
 have hsyd : ∀ k, sy.ownBlock = some k → k ≠ d ∧ k ≠ f := fun k e => by
  obtain ⟨cs, hr⟩ := hd.srow
  exact ⟨own_ne hr hd.blk (by decide) k e, own_ne hr hf (by decide) k e⟩
 have hnwd : ∀ k, nw.ownBlock = some k → k ≠ d ∧ k ≠ f := fun k e => by
  obtain ⟨cs, hr⟩ := hd.nrow
  exact ⟨own_ne hr hd.blk (by decide) k e, own_ne hr hf (by decide) k e⟩
 refine ⟨2, [], [], 0, 0, 0, [], ⟨h, hf, hd, m1, m2, m3, hs, ?_, ?_, ?_, ?_, ⟨Nat.le_refl _, by omega⟩, Clk.nil _⟩, pgInv_new, pages_new, rfl⟩
 ·simp only [Pc.ids, List.nodup_cons, List.mem_cons, List.not_mem_nil, or_false, not_or, List.nodup_nil, not_false_eq_true, and_true]
  refine ⟨⟨?_, ?_, ?_, ?_, ?_, ?_⟩, ⟨hdf, ?_, ?_, ?_, ?_⟩, ⟨?_, ?_, ?_, ?_⟩, ⟨?_, ?_, ?_⟩, ⟨?_, ?_⟩, ?_⟩ <;> omega
 ·intro k e; cases e
 ·intro k e hm
  have a := hsyd k e
  have b := hsy k e
  simp only [Pc.ids, List.mem_cons, List.not_mem_nil, or_false] at hm
  rcases hm with hm | hm | hm | hm | hm | hm | hm <;> omega
 ·intro k e hm
  have a := hnwd k e
  have b := hnw k e
  simp only [Pc.ids, List.mem_cons, List.not_mem_nil, or_false] at hm
  rcases hm with hm | hm | hm | hm | hm | hm | hm <;> omega
def PNewP (m d f : Nat) (sy nw : Value) (w : World) (e : Ending) (w' : World) : Prop :=
 ∃ p c, e = .returned (.tuple #[ptrV p, .int .i64 0]) ∧ PgOk w' p c m (fun _ => none) 0 ∧ (∀ k, c.S p k → k = d ∨ k = f ∨ sy.ownBlock = some k ∨ nw.ownBlock = some k ∨ w.heap.size ≤ k) ∧ Below w.heap.size w w'
theorem pnew_end {m : Nat} (hm : 4 ≤ m ∧ m ≤ 3000) {d f p : Nat} {sy nw : Value} {w w1 w2 w3 : World} (hd : DevAt w d m 2 sy nw) (hf : Blk w f 221 #[.slice none 0 0, .slice none 0 0, .map none]) (h1 : Below w.heap.size w w1) (hp : p = w1.heap.size) (e2 : w1.alloc (.cells (pg0 d f) 158) = w2) {e : Ending} (hc : ClearP p d f w2 e w3) :
  PNewP m d f sy nw w (.returned (.tuple #[ptrV p, .int .i64 0])) w3 := by
 have hb2 : Below w.heap.size w w2 := by subst e2; exact h1.alloc h1.size _
 have z2 : w2.heap.size = w1.heap.size + 1 := by subst e2; simp
 have hz := h1.size
 obtain ⟨_, mb, db, wb, sb, k1, k2, k3, k4, k5, k6, k7, k8, k9, kK⟩ := hc
 have hb3 : Below w.heap.size w w3 := hb2.trans (kK.below (by omega) (fun i hi e => by omega))
 have hd3 : DevAt w3 d m 2 sy nw := hd.keeps (S := fun _ => False) (Keeps.of_below hb3) fun _ _ h => h
 have hf3 := hf.below' hb3
 refine ⟨p, _, rfl, pgOk_new hm (B := w.heap.size) k1 hf3 hd3 k2 k3 k4 k5 hd.blk.lt hf.lt ?_ ?_ (by omega) (by omega) k7 k8 k9, ?_, hb3⟩
 ·intro k e; obtain ⟨cs, hr⟩ := hd.srow; exact (hr.lt k e).2
 ·intro k e; obtain ⟨cs, hr⟩ := hd.nrow; exact (hr.lt k e).2
 ·rintro k (hk | hk | hk | hk)
  ·simp only [Pc.ids, List.mem_cons, List.not_mem_nil, or_false] at hk
   rcases hk with hk | hk | hk | hk | hk | hk | hk
   ·right; right; right; right; omega
   ·left; omega
   ·right; left; omega
   ·right; right; right; right; omega
   ·right; right; right; right; omega
   ·right; right; right; right; omega
   ·right; right; right; right; omega
  ·cases hk
  ·exact .inr (.inr (.inl hk))
  ·exact .inr (.inr (.inr (.inl hk)))
theorem pagerNew_any {m : Nat} (hm : 4 ≤ m ∧ m ≤ 3000) (d f : Nat) (sy nw : Value) (w : World) (hd : DevAt w d m 2 sy nw) (hf : Blk w f 221 #[.slice none 0 0, .slice none 0 0, .map none]) :
  Calls Tryz.prog 51 #[ptrV d, ptrV f, .int .i64 2, .int .i64 1] w (PNewP m d f sy nw w) := by
 have hb0 : Below w.heap.size w (w.alloc (.cells #[.int .i64 2] 3)).drew := ((Below.refl _ w).alloc (Nat.le_refl _) _).drew
 have bx : Blk (w.alloc (.cells #[.int .i64 2] 3)).drew w.heap.size 3 #[.int .i64 2] := (Blk.new _ _ _).drew
 have x0 : (w.alloc (.cells #[.int .i64 2] 3)).drew.cell? ⟨w.heap.size, 0, none⟩ = some (.int .i64 2) := bx.cell 0
 have hL := Hdz (devLen_any d m 2 sy nw _ (hd.keeps (S := fun _ => False) (Keeps.of_below hb0) fun _ _ h => h))
 have hA := Hdz (freeAll_any f _ (hf.below' hb0))
 have hE := Hdz (fun (w1 w2 w3 : World) (p : Nat) (h1 : Below w.heap.size w w1) (hp : p = w1.heap.size) e2 e hc => pnew_end hm (w1 := w1) (w2 := w2) (w3 := w3) (e := e) hd hf h1 hp e2 hc)
 have hzz : (w.alloc (.cells #[.int .i64 2] 3)).drew.heap.size = w.heap.size + 1 := by simp
 have HB := Hdz hb0
 have HBX := Hdz bx
 have X0 := Hdz x0
 clear hd hf hb0 bx x0
 go_enter Tryz.func51, Tryz.ntmps51
 go_wp2_with (fail)
 have x0 := X0.out
 refine wRz ?_
 try simp only [lAz]
 refine tA 0 ?_; try simp only [lAz]
 refine tA 1 ?_; try simp only [lAz]
 refine tA 2 ?_; try simp only [lAz]
 refine tA 3 ?_; try simp only [lAz]
 refine tA 4 ?_; try simp only [lAz]
 refine tA 5 ?_; try simp only [lAz]
 refine tA 6 ?_; try simp only [lAz]
 refine rZz 7 fun K hK => ?_; go_simp; apply hK; clear hK K
 try simp only [lAz]
 refine tA 8 ?_; try simp only [lAz]
 refine tA 9 ?_; try simp only [lAz]
 refine tA 10 ?_; try simp only [lAz]
 refine tA 12 ?_; try simp only [lAz]
 refine wpAny_ready (rs := [11, 13]) (by kernel_rfl) (by simp) (aCz (fun K hK => ?_) (aCz (fun K hK => ?_) AllReady.nil))
 ·go_simp
  apply hK
  clear hK K
  refine rZz 13 fun K hK => ?_; go_simp
  (go_must (refine hL.out.mono ?_); rintro e w2 ⟨rfl, rfl⟩)
  go_simp
  apply hK
  clear hK K
  try simp only [lAz]
  refine tA 14 ?_; try simp only [lAz]
  refine tA 15 ?_; try simp only [lAz]
  refine tA 16 ?_; try simp only [lAz]
  refine tA 17 ?_; try simp only [lAz]
  refine tA 18 ?_; try simp only [lAz]
  refine tA 19 ?_; try simp only [lAz]
  refine wDz ?_
  go_wp2_with (fail)
  go_must (refine hA.out.mono ?_)
  rintro e w3 ⟨rfl, hb3⟩
  have x3 : w3.cell? ⟨w.heap.size, 0, none⟩ = some (.int .i64 2) := (HBX.out.below' hb3).cell 0
  have hz3 := hb3.size
  go_wp2_with (fail)
  go_must (refine (containsNil_any _ _).mono ?_)
  rintro e w4 ⟨rfl, rfl⟩
  go_wp2_with (fail)
  go_must (refine (clear_any w3.heap.size d f _ (Blk.new _ _ _)).mono ?_)
  intro e w5 hc
  have HC := Hdz hc
  obtain ⟨rfl, _⟩ := hc
  go_wp2_with (fail)
  go_ret2
  exact hE.out w3 _ w5 w3.heap.size (HB.out.trans (hb3.mono (by simp))) rfl rfl _ HC.out
 ·go_simp
  (go_must (refine hL.out.mono ?_); rintro e w2 ⟨rfl, rfl⟩)
  go_simp
  apply hK
  clear hK K
  refine rZz 11 fun K hK => ?_; go_simp; apply hK; clear hK K
  try simp only [lAz]
  refine tA 14 ?_; try simp only [lAz]
  refine tA 15 ?_; try simp only [lAz]
  refine tA 16 ?_; try simp only [lAz]
  refine tA 17 ?_; try simp only [lAz]
  refine tA 18 ?_; try simp only [lAz]
  refine tA 19 ?_; try simp only [lAz]
  refine wDz ?_
  go_wp2_with (fail)
  go_must (refine hA.out.mono ?_)
  rintro e w3 ⟨rfl, hb3⟩
  have x3 : w3.cell? ⟨w.heap.size, 0, none⟩ = some (.int .i64 2) := (HBX.out.below' hb3).cell 0
  have hz3 := hb3.size
  go_wp2_with (fail)
  go_must (refine (containsNil_any _ _).mono ?_)
  rintro e w4 ⟨rfl, rfl⟩
  go_wp2_with (fail)
  go_must (refine (clear_any w3.heap.size d f _ (Blk.new _ _ _)).mono ?_)
  intro e w5 hc
  have HC := Hdz hc
  obtain ⟨rfl, _⟩ := hc
  go_wp2_with (fail)
  go_ret2
  exact hE.out w3 _ w5 w3.heap.size (HB.out.trans (hb3.mono (by simp))) rfl rfl _ HC.out
def BaseP (m : Nat) (w : World) (e : Ending) (w' : World) : Prop :=
 ∃ d g f h sy nw, e = .returned (.tuple #[ptrV d, ptrV g, ptrV f, ptrV h, .bool true]) ∧ DevAt w' d m 2 sy nw ∧ Blk w' f 221 #[.slice none 0 0, .slice none 0 0, .map none] ∧ w.heap.size ≤ d ∧ w.heap.size ≤ f ∧ (∀ k, sy.ownBlock = some k → w.heap.size ≤ k) ∧ (∀ k, nw.ownBlock = some k → w.heap.size ≤ k) ∧ Below w.heap.size w w'
theorem devNew3 {m : Nat} (hm : 4 ≤ m ∧ m ≤ 3000) (w : World) : Calls Tryz.prog 83 #[.int .i64 (m : Int)] w fun e w' => e = .returned (.tuple #[ptrV w.heap.size, .int .i64 0]) ∧ DevAt w' w.heap.size m 0 (.slice none 0 0) (.slice none 0 0) ∧ Below w.heap.size w w' ∧ w'.heap.size = w.heap.size + 1 :=
 (devNew_any m w (by omega) hm.2).mono fun e w' ⟨h1, h2⟩ => ⟨h1, h2 ▸ DevAt.new m w hm.2, h2 ▸ (Below.refl _ w).alloc (Nat.le_refl _) _, by rw [← h2]; simp⟩
theorem refNew3 {m : Nat} (hm : 4 ≤ m ∧ m ≤ 3000) (w : World) : Calls Tryz.prog 84 #[.int .i64 (m : Int)] w fun e w' => e = .returned (.tuple #[ptrV w.heap.size, .int .i64 0]) ∧ Blk w' w.heap.size 212 (refDev m) ∧ Below w.heap.size w w' ∧ w'.heap.size = w.heap.size + 1 :=
 (refNew_any m w (by omega) hm.2).mono fun e w' ⟨h1, h2⟩ => ⟨h1, h2 ▸ Blk.new _ _ _, h2 ▸ (Below.refl _ w).alloc (Nat.le_refl _) _, by rw [← h2]; simp⟩
theorem freeNew3 (w : World) : Calls Tryz.prog 87 #[.slice none 0 0] w fun e w' => e = .returned (ptrV w.heap.size) ∧ Blk w' w.heap.size 221 #[.slice none 0 0, .slice none 0 0, .map none] ∧ Below w.heap.size w w' ∧ w'.heap.size = w.heap.size + 1 :=
 (freeNew_any w).mono fun e w' ⟨h1, h2⟩ => ⟨h1, h2 ▸ Blk.new _ _ _, h2 ▸ (Below.refl _ w).alloc (Nat.le_refl _) _, by rw [← h2]; simp⟩
theorem base_end {m : Nat} {w w1 w2 w3 w4 w5 w6 : World} {sy nw : Value} {T : TypeId} {V : Array Value} (a1 : DevAt w1 w.heap.size m 0 (.slice none 0 0) (.slice none 0 0)) (b1 : Below w.heap.size w w1) (z1 : w1.heap.size = w.heap.size + 1)
  (b2 : Below w1.heap.size w1 w2) (z2 : w2.heap.size = w1.heap.size + 1) (a2 : Blk w2 w1.heap.size 212 (refDev m))
  (a3 : DevAt w3 w.heap.size m 2 sy nw) (k3 : GrowK w.heap.size (.slice none 0 0) (.slice none 0 0) sy nw w2 w3) (k4 : Keeps (fun k => k = w1.heap.size) w3 w4) (a5 : Blk w5 w4.heap.size 221 #[.slice none 0 0, .slice none 0 0, .map none])
  (b5 : Below w4.heap.size w4 w5) (b6 : Below w5.heap.size w5 w6) :
  BaseP m w (.returned (.tuple #[ptrV w.heap.size, ptrV w1.heap.size, ptrV w4.heap.size, ptrV w6.heap.size, .bool true])) (w6.alloc (.cells V T)) := by
 have hz3 := k3.keeps.size
 have hz4 := k4.size
 have hz5 := b5.size
 have hz6 := b6.size
 have c2 : Below w.heap.size w w2 := b1.trans (b2.mono (by omega))
 have c3 : Below w.heap.size w w3 := c2.trans (k3.keeps.below (by omega) (fun i hi e => by
  rcases e with e | e | e
  ·omega
  ·cases e
  ·cases e))
 have c4 : Below w.heap.size w w4 := c3.trans (k4.below (by omega) (fun i hi e => by omega))
 have c5 : Below w.heap.size w w5 := c4.trans (b5.mono (by omega))
 have c6 : Below w.heap.size w w6 := c5.trans (b6.mono (by omega))
 have c7 : Below w.heap.size w (w6.alloc (.cells V T)) := c6.alloc (by omega) _
 have a2' : Blk w3 w1.heap.size 212 (refDev m) := a2.keeps k3.keeps (fun e => by
  rcases e with e | e | e
  ·omega
  ·cases e
  ·cases e)
 have a4 : DevAt w4 w.heap.size m 2 sy nw := a3.keeps k4 (fun k hk e => by
  subst e
  rcases hk with e | e | e
  ·omega
  ·obtain ⟨cs, hr⟩ := a3.srow
   exact own_ne hr a2' (by decide) _ e rfl
  ·obtain ⟨cs, hr⟩ := a3.nrow
   exact own_ne hr a2' (by decide) _ e rfl)
 have b46 : Below w4.heap.size w4 (w6.alloc (.cells V T)) := (b5.trans (b6.mono (by omega))).alloc (by omega) _
 have a6 : DevAt (w6.alloc (.cells V T)) w.heap.size m 2 sy nw := a4.keeps (S := fun _ => False) (Keeps.of_below b46) fun _ _ h => h
 refine ⟨w.heap.size, w1.heap.size, w4.heap.size, w6.heap.size, sy, nw, rfl, a6, (a5.below' b6).alloc _, Nat.le_refl _, by omega, fun k e => ?_, fun k e => ?_, c7⟩
 ·rcases k3.sy k e with h | h
  ·cases h
  ·omega
 ·rcases k3.nw k e with h | h
  ·cases h
  ·omega
theorem base_any {m : Nat} (hm : 4 ≤ m ∧ m ≤ 3000) (w : World) : Calls Tryz.prog 50 #[.int .i64 (m : Int), .int .i64 2, .slice none 0 0] w (BaseP m w) := by
 go_enter Tryz.func50, Tryz.ntmps50
 go_wp2_with (fail)
 go_must (refine (devNew3 hm w).mono ?_)
 rintro e w1 ⟨rfl, a1, b1, z1⟩
 have A1 := Hdz a1
 have B1 := Hdz b1
 have Z1 := Hdz z1
 clear a1 b1 z1
 go_wp2_with (fail)
 go_must (refine (refNew3 hm w1).mono ?_)
 rintro e w2 ⟨rfl, a2, b2, z2⟩
 have a1' : DevAt w2 w.heap.size m 0 (.slice none 0 0) (.slice none 0 0) := A1.out.keeps (S := fun _ => False) (Keeps.of_below b2) fun _ _ h => h
 have A2 := Hdz a2
 have B2 := Hdz b2
 have Z2 := Hdz z2
 have hG := Hdz (devTo_any w.heap.size m 0 2 _ _ w2 a1' (by omega) (by omega))
 clear a2 b2 z2 a1'
 go_wp2_with (fail)
 go_must (refine hG.out.mono ?_)
 rintro e w3 ⟨rfl, sy, nw, a3, k3⟩
 have hR := Hdz (refGrow_any hm (A2.out.keeps k3.keeps (fun e => by
  have := Z1.out
  rcases e with e | e | e
  ·omega
  ·cases e
  ·cases e)))
 have A3 := Hdz a3
 have K3 := Hdz k3
 clear a3 k3 hG
 go_wp2_with (fail)
 go_must (refine hR.out.mono ?_)
 rintro e w4 ⟨rfl, k4⟩
 have K4 := Hdz k4
 clear k4 hR
 go_wp2_with (fail)
 go_must (refine (freeNew3 w4).mono ?_)
 rintro e w5 ⟨rfl, a5, b5, z5⟩
 have A5 := Hdz a5
 have B5 := Hdz b5
 clear a5 b5 z5
 go_wp2_with (fail)
 go_must (refine (refSorted_nil w5).mono ?_)
 rintro e w6 ⟨rfl, b6⟩
 have B6 := Hdz b6
 clear b6
 go_wp2_with (fail)
 refine bodyPost_ret (v := .tuple #[ptrV w.heap.size, ptrV w1.heap.size, ptrV w4.heap.size, ptrV w6.heap.size, .bool true]) (by simp [results, Tryz.results50, go_sem]) rfl ?_
 exact base_end A1.out B1.out Z1.out B2.out Z2.out A2.out A3.out K3.out K4.out A5.out B5.out B6.out
def TNewP (m p : Nat) (c : Pc) (w : World) (e : Ending) (w' : World) : Prop :=
 ∃ root c', e = .returned (.tuple #[.int .i64 root, .int .i64 0]) ∧ PgOk w' p c' m (updS (fun _ => none) root (some ⟨2, 0, []⟩)) 1 ∧ PgK p c c' w w'
theorem treeNew_any {m : Nat} (hm : 4 ≤ m ∧ m ≤ 3000) (p : Nat) (c : Pc) (w : World) (h : PgOk w p c m (fun _ => none) 0) : Calls Tryz.prog 52 #[ptrV p] w (TNewP m p c w) := by
 have hM := Hdz (make_any ⟨2, 0, []⟩ w h (by simp [Pg.ok]) (by omega))
 clear h
 go_enter Tryz.func52, Tryz.ntmps52
 go_wp2_with (fail)
 go_must (refine hM.out.mono ?_)
 rintro e w1 ⟨root, c', rfl, _, _, _, hp, hk⟩
 have HP := Hdz hp
 have HK := Hdz hk
 clear hp hk
 go_wp2_with (fail)
 go_ret2
 exact ⟨root, c', rfl, HP.out, HK.out⟩
def BeginM (m : Nat) (w : World) (e : Ending) (w' : World) : Prop :=
 ∃ d f p c root, e = .returned (.tuple #[ptrV d, ptrV f, ptrV p, .int .i64 root, .bool true]) ∧ PgOk w' p c m (updS (fun _ => none) root (some ⟨2, 0, []⟩)) 1 ∧ (∀ k, c.S p k → w.heap.size ≤ k) ∧ Below w.heap.size w w'
theorem begin_m {m : Nat} (hm : 4 ≤ m ∧ m ≤ 3000) (w : World) : Calls Tryz.prog 27 #[.int .i64 (m : Int)] w (BeginM m w) := by
 go_enter Tryz.func27, Tryz.ntmps27
 go_wp2_with (fail)
 go_must (refine (base_any hm w).mono ?_)
 rintro e w1 ⟨d, g, f, h, sy, nw, rfl, hd, hf, d1, d2, d3, d4, b1⟩
 have hN := Hdz (pagerNew_any hm d f sy nw w1 hd hf)
 have B1 := Hdz b1
 clear hd hf b1
 go_wp2_with (fail)
 go_must (refine hN.out.mono ?_)
 rintro e w2 ⟨p, c, rfl, hp, hs, b2⟩
 have hT := Hdz (treeNew_any hm p c w2 hp)
 have hz1 := B1.out.size
 have HS := Hdz (show ∀ k, c.S p k → w.heap.size ≤ k from fun k hk => by
  rcases hs k hk with h | h | h | h | h
  ·omega
  ·omega
  ·exact d3 k h
  ·exact d4 k h
  ·omega)
 have B2 := Hdz b2
 clear hp hs b2 hN
 go_wp2_with (fail)
 go_must (refine hT.out.mono ?_)
 rintro e w3 ⟨root, c', rfl, hp, hk⟩
 have HP := Hdz hp
 have HK := Hdz hk
 clear hp hk hT
 go_wp2_with (fail)
 refine bodyPost_ret (v := .tuple #[ptrV d, ptrV f, ptrV p, .int .i64 root, .bool true]) (by simp [results, Tryz.results27, go_sem]) rfl ?_
 have hz2 := B2.out.size
 refine ⟨d, f, p, c', root, rfl, HP.out, fun k hk => ?_, ?_⟩
 ·rcases HK.out.sub k hk with h | h
  ·exact HS.out k h
  ·omega
 ·exact (B1.out.trans (B2.out.mono hz1)).trans (HK.out.keeps.below (by omega) fun i hi e => by have := HS.out i e; omega)
abbrev BeginP (w : World) (e : Ending) (w' : World) : Prop := BeginM 3000 w e w'
theorem begin_any (w : World) : Calls Tryz.prog 27 #[.int .i64 3000] w (BeginP w) := begin_m (m := 3000) (by omega) w
end Go.Ev
namespace Go.Ev
open Go.RowKit
theorem wp_append_sl {P : Program} {w : World} {o : Oper} {a : Act} {K : Act → World → Prop} {Q : Exit → Act → World → Prop} (s x : Operand) (t : TypeId)
  (ho : o.op = .call { callee := .builtin .append, args := #[s, x], argTypes := #[t, t] })
  (base : Nat) (e : TypeId) (i : TypeInfo) (z : Value) (size bytes : Nat) (ht : P.underlying t = some (.slice e)) (hi : P.info? e = some i) (hz : i.zero = some z)
  (hsize : i.size = size) (hby : i.bytes = bytes) (hzs : z.cells.size = size) (hsz : 0 < size)
  (v : Value) (n : Nat) (xs : List Value) (hs : a.eval s = v) (hown : w.ownsRow base e size v n xs)
  (A : Option Addr) (m c : Nat) (news : List Value) (hx : a.eval x = .slice A m c) (hsl : Sl w size (.slice A m c) m news) (hA : A = none → c = 0) (h1 : ∀ u ∈ news, u.oneCell' = true)
  (h63 : n + m ≤ maxLen) (hbytes : (n + m) * bytes ≤ 140737488355328) (hbase : base ≤ w.heap.size)
  (h : ∀ v' w', w'.ownsRow base e size v' (n + m) (xs ++ news) → w.grownBy w' v.ownBlock → K (a.put o.dst v') w') : o.wp P a w K Q := by
 obtain ⟨A', c', e0, h0, h2, h3⟩ := hsl
 cases e0
 cases A with
 | none =>
  have hm : m = 0 := by
   by_cases hp : 0 < m
   ·obtain ⟨_, _, he, _⟩ := h3 hp; cases he
   ·omega
  subst hm
  have hc := hA rfl
  subst hc
  have hn : news = [] := List.eq_nil_of_length_eq_zero (by simpa using h2)
  subst hn
  have hrun := run_append_owned_none (P := P) (w := w) base t o.type e i size ht hi v n xs hown
  have hk := h v w (by simpa using hown) ⟨rfl, rfl, rfl, Nat.le_refl _, fun _ _ _ => rfl⟩
  unfold Oper.wp
  simp [execOp, ho, resolve, invoke, builtin, hs, hx, hrun, Result.andThen]
  exact hk
 | some ad =>
  refine wp_append_at s x t ho base e i z size bytes ht hi hz hsize hby hzs hsz v n xs hs hown ad m c news hx h2 (fun j u hu => ?_) h1 h63 hbytes hbase fun v' w' h4 h5 _ => h v' w' h4 h5
  have hj := (List.getElem?_eq_some_iff.1 hu).1
  have hm : 0 < m := by
   cases m with
   | zero => rw [h2] at hj; simp at hj
   | succ m => omega
  obtain ⟨b, o', he, _, h6⟩ := h3 hm
  cases he
  rw [addr_add]
  exact h6 j u hu
open Go.Proofs
theorem infoBucket : (Tryz.prog.info? 78).map (fun i => (i.zero, i.size, i.bytes)) = some (some (.agg #[strV [], .slice none 0 0]), 2, 40) := by kernel_rfl
def NoB (w : World) (A : Option Addr) (n : Nat) (key : Bytes) : Prop :=
 (n = 0 ∧ A = none) ∨ ∃ g nm, A = some ⟨g, 0, none⟩ ∧ 0 < n ∧ n ≤ 1000 ∧ w.cell? ⟨g, 0, none⟩ = some (strV nm) ∧ g < w.heap.size ∧ lessB nm key = false ∧ (nm == key) = false ∧ nm.length ≤ 100
theorem findB_no (A : Option Addr) (n c : Nat) (key : Bytes) (w : World) (h : NoB w A n key) (hk : key.length ≤ 100) :
  Calls Tryz.prog 31 #[.slice A n c, strV key] w fun e w' => e = .returned (.tuple #[.int .i64 0, .bool false]) ∧ Below w.heap.size w w' := by
 rcases h with ⟨rfl, rfl⟩ | ⟨g, nm, rfl, h1, h2, h3, h4, h5, h6, h7⟩
 ·go_enter Tryz.func31, Tryz.ntmps31
  go_wp2_with (fail)
  go_loopg [6] 0 (fun gk s6 wr => s6 = .int .i64 0 ∧ wr = w)
  case atStart => exact ⟨rfl, rfl⟩
  case round =>
   obtain ⟨rfl, rfl⟩ := hrel
   go_wp2_with (fail)
   refine wRz ?_
   try simp only [lAz]
   refine tA 0 ?_; try simp only [lAz]
   refine tA 1 ?_; try simp only [lAz]
   refine tA 2 ?_; try simp only [lAz]
   refine tA 3 ?_; try simp only [lAz]
   refine tA 4 ?_; try simp only [lAz]
   refine tA 5 ?_; try simp only [lAz]
   refine sA 6 ?_; try simp only [lAz]
   refine sA 7 ?_; try simp only [lAz]
   refine sA 8 ?_; try simp only [lAz]
   refine sA 9 ?_; try simp only [lAz]
   refine sA 10 ?_; try simp only [lAz]
   refine sA 11 ?_; try simp only [lAz]
   refine sA 12 ?_; try simp only [lAz]
   refine tA 13 ?_; try simp only [lAz]
   refine tA 14 ?_; try simp only [lAz]
   refine tA 15 ?_; try simp only [lAz]
   refine wDz ?_
   go_wp2_with (fail)
   refine bodyPost_ret (v := .tuple #[.int .i64 0, .bool false]) (by simp [results, Tryz.results31, go_sem]) rfl ?_
   exact ⟨rfl, (Below.refl _ _).drew⟩
 ·have HL := Hdz (less_any nm key w (by omega) (by omega))
  rw [h5] at HL
  have hn0 : (0 : Int) < (n : Int) := by omega
  clear h5
  go_enter Tryz.func31, Tryz.ntmps31
  go_wp2_with (fail)
  go_loopg [6] 0 (fun gk s6 wr => s6 = .int .i64 0 ∧ wr = w)
  case atStart => exact ⟨rfl, rfl⟩
  case round =>
   obtain ⟨rfl, rfl⟩ := hrel
   go_wp2_with (fail)
   go_must (refine HL.out.mono ?_)
   rintro e w1 ⟨rfl, hb1⟩
   have x1 : w1.drew.cell? ⟨g, 0, none⟩ = some (strV nm) := (hb1.drew.cell (p := ⟨g, 0, none⟩) h4).trans h3
   have HB1 := Hdz hb1.drew
   clear hb1
   go_wp2_with (fail)
   refine wRz ?_
   try simp only [lAz]
   refine tA 0 ?_; try simp only [lAz]
   refine tA 1 ?_; try simp only [lAz]
   refine tA 2 ?_; try simp only [lAz]
   refine tA 3 ?_; try simp only [lAz]
   refine tA 4 ?_; try simp only [lAz]
   refine tA 5 ?_; try simp only [lAz]
   refine tA 6 ?_; try simp only [lAz]
   refine tA 7 ?_; try simp only [lAz]
   refine tA 8 ?_; try simp only [lAz]
   refine tA 9 ?_; try simp only [lAz]
   refine rA 10 (v := ?_) (hy := ?hy) ?_; case hy => (intro w hE; have q0 := hE.cell x1; go_simp; try with_reducible rfl)
   try simp only [lAz]
   refine tA 11 ?_; try simp only [lAz]
   refine tA 12 ?_; try simp only [lAz]
   refine tA 13 ?_; try simp only [lAz]
   refine tA 14 ?_; try simp only [lAz]
   refine tA 15 ?_; try simp only [lAz]
   refine wDz ?_
   go_wp2_with (fail)
   refine bodyPost_ret (v := .tuple #[.int .i64 0, .bool false]) (by simp [results, Tryz.results31, go_sem]) rfl ?_
   exact ⟨rfl, HB1.out⟩
theorem lookB_no (A : Option Addr) (n c : Nat) (key : Bytes) (w : World) (h : NoB w A n key) (hk1 : 1 ≤ key.length) (hk : key.length ≤ 40) :
  Calls Tryz.prog 30 #[.slice A n c, strV key] w fun e w' => e = .returned (.tuple #[.int .i64 0, .int .i64 7]) ∧ Below w.heap.size w w' := by
 have hG := good_any key w (by omega)
 have e1 : decide (1 ≤ key.length) = true := by simpa using hk1
 have e2 : decide (key.length ≤ 40) = true := by simpa using hk
 rw [e1, e2] at hG
 have HG := Hdz hG
 have HF := Hdz (findB_no A n c key w h (by omega))
 clear hG h e1 e2 hk1 hk
 go_enter Tryz.func30, Tryz.ntmps30
 go_wp2_with (fail)
 go_must (refine HG.out.mono ?_)
 rintro e w1 ⟨rfl, rfl⟩
 go_wp2_with (fail)
 go_must (refine HF.out.mono ?_)
 rintro e w2 ⟨rfl, hb2⟩
 go_wp2_with (fail)
 refine bodyPost_ret (v := .tuple #[.int .i64 0, .int .i64 7]) (by simp [results, Tryz.results30, go_sem]) rfl ?_
 exact ⟨rfl, hb2⟩
theorem sl_bucket (w : World) (nm : Bytes) (T : TypeId) : Sl (w.alloc (.cells #[strV nm, .slice none 0 0] T)) 2 (.slice (some ⟨w.heap.size, 0, none⟩) 1 1) 1 [strV nm, .slice none 0 0] := by
 refine ⟨_, _, rfl, Nat.le_refl _, rfl, fun _ => ⟨w.heap.size, 0, rfl, by simp, fun j u hu => ?_⟩⟩
 have hb := Blk.new w T #[strV nm, .slice none 0 0]
 match j with
 | 0 => cases hu; exact hb.cell 0
 | 1 => cases hu; exact hb.cell 1
 | j + 2 => simp at hu
def MakeRP (B : Nat) (nm : Bytes) (n : Nat) (cs : List Value) (w : World) (e : Ending) (w' : World) : Prop :=
 ∃ u, e = .returned (.tuple #[u, .int .i64 0]) ∧ w'.ownsRow B 78 2 u (n + 1) ([strV nm, .slice none 0 0] ++ cs) ∧ Below B w w'
theorem makeR_nil (key : Bytes) (w : World) (hk1 : 1 ≤ key.length) (hk : key.length ≤ 40) :
  Calls Tryz.prog 16 #[.slice none 0 0, strV key] w (MakeRP w.heap.size key 0 [] w) := by
 obtain ⟨i0, hi, q0, q1, q2⟩ := info_parts infoBucket
 have HL : Hid (∀ w1, Below w.heap.size w w1 → Calls Tryz.prog 30 #[.slice none 0 0, strV key] w1 fun e w' => e = .returned (.tuple #[.int .i64 0, .int .i64 7]) ∧ Below w1.heap.size w1 w') := fun w1 _ => lookB_no none 0 0 key w1 (.inl ⟨rfl, rfl⟩) hk1 hk
 have HF : Hid (∀ w1, Below w.heap.size w w1 → Calls Tryz.prog 31 #[.slice none 0 0, strV key] w1 fun e w' => e = .returned (.tuple #[.int .i64 0, .bool false]) ∧ Below w1.heap.size w1 w') := fun w1 _ => findB_no none 0 0 key w1 (.inl ⟨rfl, rfl⟩) (by omega)
 clear hk1 hk
 go_enter Tryz.func16, Tryz.ntmps16
 go_wp2_with (fail)
 go_must (refine (HL.out _ (Below.refl _ _)).mono ?_)
 rintro e w1 ⟨rfl, hb1⟩
 have HB1 := Hdz hb1
 clear hb1
 go_wp2_with (fail)
 go_must (refine (HF.out _ HB1.out).mono ?_)
 rintro e w2 ⟨rfl, hb2⟩
 have HB2 := Hdz (HB1.out.trans (hb2.mono HB1.out.size)).drew
 have hz2 : w.heap.size ≤ w2.drew.heap.size := HB2.out.size
 clear hb2
 go_wp2_with (fail)
 refine wRz ?_
 try simp only [lAz]
 refine tA 0 ?_; try simp only [lAz]
 refine tA 1 ?_; try simp only [lAz]
 refine tA 2 ?_; try simp only [lAz]
 refine tA 4 ?_; try simp only [lAz]
 refine tA 5 ?_; try simp only [lAz]
 refine tA 8 ?_; try simp only [lAz]
 refine tA 9 ?_; try simp only [lAz]
 refine tA 10 ?_; try simp only [lAz]
 refine wpAny_ready (rs := [3, 6]) (by kernel_rfl) (by simp) (aCz (fun K hK => ?_) (aCz (fun K hK => ?_) AllReady.nil))
 ·skip
  refine if_on rfl ?_
  go_must (refine wp_append_sl _ _ 27 rfl w.heap.size 78 i0 _ 2 40 Tryz.underlying27 hi q0 q1 q2 rfl (by decide) (.slice none 0 0) 0 [] rfl (World.ownsRow_nil _ _ _ _) none 0 0 [] rfl (Sl.nil ..) (fun _ => rfl) (by simp) (by unfold maxLen; omega) (by omega) hz2 ?_)
  intro v1 w3 own1 gr1
  have hb3 : Below w.heap.size w w3 := HB2.out.grown gr1 hz2 (fun k hk => by cases hk)
  have hz3 := hb3.size
  obtain ⟨A1, c1, rfl, -⟩ := Sl.of_own own1
  apply hK
  clear hK K
  refine rZz 6 fun K hK => ?_; go_simp; apply hK; clear hK K
  have own1 := own1.alloc (.cells #[strV key, .slice none 0 0] 78)
  have HB4 := Hdz (hb3.alloc hz3 (.cells #[strV key, .slice none 0 0] 78))
  have HS4 := Hdz (sl_bucket w3 key 78)
  refine rZz 7 fun K hK => ?_; refine if_on rfl ?_
  go_must (refine wp_append_sl _ _ 27 rfl w.heap.size 78 i0 _ 2 40 Tryz.underlying27 hi q0 q1 q2 rfl (by decide) _ 0 [] rfl own1 (some _) 1 1 [strV key, .slice none 0 0] rfl HS4.out (fun h => by cases h) (by simp [Value.oneCell']) (by unfold maxLen; omega) (by omega) HB4.out.size ?_)
  intro v2 w5 own2 gr2
  have hb5 : Below w.heap.size w w5 := HB4.out.grown gr2 HB4.out.size (fun k hk => (own1.lt k hk).1)
  have hz5 := hb5.size
  obtain ⟨A2, c2, rfl, -⟩ := Sl.of_own own2
  apply hK
  clear hK K
  refine rZz 11 fun K hK => ?_; refine if_on rfl ?_
  go_must (refine wp_append_sl _ _ 27 rfl w.heap.size 78 i0 _ 2 40 Tryz.underlying27 hi q0 q1 q2 rfl (by decide) _ 1 _ rfl own2 none 0 0 [] rfl (Sl.nil ..) (fun _ => rfl) (by simp) (by unfold maxLen; omega) (by omega) hz5 ?_)
  intro v3 w6 own3 gr3
  have hb6 : Below w.heap.size w w6 := hb5.grown gr3 hz5 (fun k hk => (own2.lt k hk).1)
  obtain ⟨A3, c3, rfl, -⟩ := Sl.of_own own3
  apply hK
  clear hK K
  refine rZz 12 fun K hK => ?_; go_simp; apply hK; clear hK K
  refine rZz 13 fun K hK => ?_; go_simp; apply hK; clear hK K
  refine wDz ?_
  go_wp2_with (fail)
  refine bodyPost_ret (v := .tuple #[.slice A3 1 c3, .int .i64 0]) (by simp [results, Tryz.results16, go_sem]) rfl ?_
  exact ⟨_, rfl, by simpa using own3, hb6⟩
 ·skip
  go_simp
  apply hK
  clear hK K
  have HB3 := Hdz (HB2.out.alloc hz2 (.cells #[strV key, .slice none 0 0] 78))
  have HS3 := Hdz (sl_bucket w2.drew key 78)
  refine rZz 3 fun K hK => ?_; refine if_on rfl ?_
  go_must (refine wp_append_sl _ _ 27 rfl w.heap.size 78 i0 _ 2 40 Tryz.underlying27 hi q0 q1 q2 rfl (by decide) (.slice none 0 0) 0 [] rfl (World.ownsRow_nil _ _ _ _) none 0 0 [] rfl (Sl.nil ..) (fun _ => rfl) (by simp) (by unfold maxLen; omega) (by omega) HB3.out.size ?_)
  intro v1 w3 own1 gr1
  have hb3 : Below w.heap.size w w3 := HB3.out.grown gr1 HB3.out.size (fun k hk => by cases hk)
  have hz3 := hb3.size
  have HS4 := Hdz (HS3.out.below ((Below.refl _ _).grown gr1 (Nat.le_refl _) (fun k hk => by cases hk)))
  have HB4 := Hdz hb3
  obtain ⟨A1, c1, rfl, -⟩ := Sl.of_own own1
  apply hK
  clear hK K
  refine rZz 7 fun K hK => ?_; refine if_on rfl ?_
  go_must (refine wp_append_sl _ _ 27 rfl w.heap.size 78 i0 _ 2 40 Tryz.underlying27 hi q0 q1 q2 rfl (by decide) _ 0 [] rfl own1 (some _) 1 1 [strV key, .slice none 0 0] rfl HS4.out (fun h => by cases h) (by simp [Value.oneCell']) (by unfold maxLen; omega) (by omega) HB4.out.size ?_)
  intro v2 w5 own2 gr2
  have hb5 : Below w.heap.size w w5 := HB4.out.grown gr2 HB4.out.size (fun k hk => (own1.lt k hk).1)
  have hz5 := hb5.size
  obtain ⟨A2, c2, rfl, -⟩ := Sl.of_own own2
  apply hK
  clear hK K
  refine rZz 11 fun K hK => ?_; refine if_on rfl ?_
  go_must (refine wp_append_sl _ _ 27 rfl w.heap.size 78 i0 _ 2 40 Tryz.underlying27 hi q0 q1 q2 rfl (by decide) _ 1 _ rfl own2 none 0 0 [] rfl (Sl.nil ..) (fun _ => rfl) (by simp) (by unfold maxLen; omega) (by omega) hz5 ?_)
  intro v3 w6 own3 gr3
  have hb6 : Below w.heap.size w w6 := hb5.grown gr3 hz5 (fun k hk => (own2.lt k hk).1)
  obtain ⟨A3, c3, rfl, -⟩ := Sl.of_own own3
  apply hK
  clear hK K
  refine rZz 12 fun K hK => ?_; go_simp; apply hK; clear hK K
  refine rZz 13 fun K hK => ?_; go_simp; apply hK; clear hK K
  refine wDz ?_
  go_wp2_with (fail)
  refine bodyPost_ret (v := .tuple #[.slice A3 1 c3, .int .i64 0]) (by simp [results, Tryz.results16, go_sem]) rfl ?_
  exact ⟨_, rfl, by simpa using own3, hb6⟩
def Ahead1 (w : World) (g : Nat) (key : Bytes) : Prop :=
 ∃ nm, w.cell? ⟨g, 0, none⟩ = some (strV nm) ∧ g < w.heap.size ∧ lessB nm key = true ∧ nm.length ≤ 100
theorem Ahead1.below {w w' : World} {g : Nat} {key : Bytes} (h : Ahead1 w g key) (hb : Below w.heap.size w w') : Ahead1 w' g key := by
 obtain ⟨nm, h1, h2, h3⟩ := h
 exact ⟨nm, (hb.cell (p := ⟨g, 0, none⟩) h2).trans h1, Nat.lt_of_lt_of_le h2 hb.size, h3⟩
theorem findB_end (g c : Nat) (key : Bytes) (w : World) (h : Ahead1 w g key) (hk : key.length ≤ 100) :
  Calls Tryz.prog 31 #[.slice (some ⟨g, 0, none⟩) 1 c, strV key] w fun e w' => e = .returned (.tuple #[.int .i64 1, .bool false]) ∧ Below w.heap.size w w' := by
 obtain ⟨nm, h3, h4, h5, h7⟩ := h
 have HL := Hdz (less_any nm key w (by omega) (by omega))
 rw [h5] at HL
 clear h5
 go_enter Tryz.func31, Tryz.ntmps31
 go_wp2_with (fail)
 go_loopg [6] 1 (fun gk s6 wr => (gk = 1 ∧ s6 = .int .i64 0 ∧ wr = w) ∨ (gk = 0 ∧ s6 = .int .i64 1 ∧ Below w.heap.size w wr))
 case atStart => exact .inl ⟨rfl, rfl, rfl⟩
 case round =>
  rcases hrel with ⟨rfl, rfl, rfl⟩ | ⟨rfl, rfl, hbw⟩
  ·go_wp2_with (fail)
   go_must (refine HL.out.mono ?_)
   rintro e w1 ⟨rfl, hb1⟩
   have HB1 := Hdz hb1
   clear hb1
   go_wp2_with (fail)
   go_roundg 0
   case measure => omega
   case rel => exact .inr ⟨rfl, rfl, HB1.out⟩
  ·have HB := Hdz hbw
   clear hbw HL h3
   go_wp2_with (fail)
   refine wRz ?_
   try simp only [lAz]
   refine tA 0 ?_; try simp only [lAz]
   refine tA 1 ?_; try simp only [lAz]
   refine tA 2 ?_; try simp only [lAz]
   refine tA 3 ?_; try simp only [lAz]
   refine tA 4 ?_; try simp only [lAz]
   refine tA 5 ?_; try simp only [lAz]
   refine sA 6 ?_; try simp only [lAz]
   refine sA 7 ?_; try simp only [lAz]
   refine sA 8 ?_; try simp only [lAz]
   refine sA 9 ?_; try simp only [lAz]
   refine sA 10 ?_; try simp only [lAz]
   refine sA 11 ?_; try simp only [lAz]
   refine sA 12 ?_; try simp only [lAz]
   refine tA 13 ?_; try simp only [lAz]
   refine rZz 14 fun K hK => ?_; go_simp; apply hK; clear hK K
   refine rZz 15 fun K hK => ?_; go_simp; apply hK; clear hK K
   refine wDz ?_
   go_wp2_with (fail)
   refine bodyPost_ret (v := .tuple #[.int .i64 1, .bool false]) (by simp [results, Tryz.results31, go_sem]) rfl ?_
   exact ⟨rfl, HB.out.drew⟩
theorem lookB_end (g c : Nat) (key : Bytes) (w : World) (h : Ahead1 w g key) (hk1 : 1 ≤ key.length) (hk : key.length ≤ 40) :
  Calls Tryz.prog 30 #[.slice (some ⟨g, 0, none⟩) 1 c, strV key] w fun e w' => e = .returned (.tuple #[.int .i64 0, .int .i64 7]) ∧ Below w.heap.size w w' := by
 have hG := good_any key w (by omega)
 have e1 : decide (1 ≤ key.length) = true := by simpa using hk1
 have e2 : decide (key.length ≤ 40) = true := by simpa using hk
 rw [e1, e2] at hG
 have HG := Hdz hG
 have HF := Hdz (findB_end g c key w h (by omega))
 clear hG h e1 e2 hk1 hk
 go_enter Tryz.func30, Tryz.ntmps30
 go_wp2_with (fail)
 go_must (refine HG.out.mono ?_)
 rintro e w1 ⟨rfl, rfl⟩
 go_wp2_with (fail)
 go_must (refine HF.out.mono ?_)
 rintro e w2 ⟨rfl, hb2⟩
 go_wp2_with (fail)
 refine bodyPost_ret (v := .tuple #[.int .i64 0, .int .i64 7]) (by simp [results, Tryz.results30, go_sem]) rfl ?_
 exact ⟨rfl, hb2⟩
def MakeEP (B : Nat) (nm key : Bytes) (w : World) (e : Ending) (w' : World) : Prop :=
 ∃ u, e = .returned (.tuple #[u, .int .i64 0]) ∧ w'.ownsRow B 78 2 u 2 [strV nm, .slice none 0 0, strV key, .slice none 0 0] ∧ Below B w w'
theorem makeR_end (B : Nat) (nm key : Bytes) (x : Value) (w : World) (hx : w.ownsRow B 78 2 x 1 [strV nm, .slice none 0 0]) (hless : lessB nm key = true) (hnm : nm.length ≤ 100) (hk1 : 1 ≤ key.length) (hk : key.length ≤ 40) :
  Calls Tryz.prog 16 #[x, strV key] w (MakeEP w.heap.size nm key w) := by
 obtain ⟨i0, hi, q0, q1, q2⟩ := info_parts infoBucket
 have hx0 := hx
 obtain ⟨_, ⟨rfl, h0⟩ | ⟨g, cap, cur, rfl, -, -, hnc, -⟩⟩ := hx0
 ·simp at h0
 have hsl := Sl.of_own hx
 have hcell := hsl
 obtain ⟨_, _, e0, _, _, hcl⟩ := hcell
 cases e0
 obtain ⟨g', o', e1, hg, hc⟩ := hcl (by omega)
 cases e1
 have hN : Ahead1 w g key := ⟨nm, by simpa using hc 0 _ rfl, hg, hless, hnm⟩
 have HL : Hid (∀ w1, Below w.heap.size w w1 → Calls Tryz.prog 30 #[.slice (some ⟨g, 0, none⟩) 1 cap, strV key] w1 fun e w' => e = .returned (.tuple #[.int .i64 0, .int .i64 7]) ∧ Below w1.heap.size w1 w') := fun w1 hb => lookB_end g cap key w1 (hN.below hb) hk1 hk
 have HF : Hid (∀ w1, Below w.heap.size w w1 → Calls Tryz.prog 31 #[.slice (some ⟨g, 0, none⟩) 1 cap, strV key] w1 fun e w' => e = .returned (.tuple #[.int .i64 1, .bool false]) ∧ Below w1.heap.size w1 w') := fun w1 hb => findB_end g cap key w1 (hN.below hb) (by omega)
 obtain ⟨A0, hA0⟩ := nmz ((if cap = 1 then some (⟨g, 0, none⟩ : Addr) else some ⟨g, 2, none⟩))
 have hA0n : A0 = none → cap - 1 = 0 := by rintro rfl; split at hA0 <;> cases hA0
 have HA0 := Hdz hA0n
 have HSl := Hdz hsl
 have hcap : 1 ≤ cap := hnc
 have hcapi : (1 : Int) ≤ (cap : Int) := by omega
 clear hA0n hN hless hnm hsl hcl hg hc hnc hx
 clear hk1 hk
 go_enter Tryz.func16, Tryz.ntmps16
 go_wp2_with (fail)
 go_must (refine (HL.out _ (Below.refl _ _)).mono ?_)
 rintro e w1 ⟨rfl, hb1⟩
 have HB1 := Hdz hb1
 clear hb1
 go_wp2_with (fail)
 go_must (refine (HF.out _ HB1.out).mono ?_)
 rintro e w2 ⟨rfl, hb2⟩
 have HB2 := Hdz (HB1.out.trans (hb2.mono HB1.out.size)).drew
 have hz2 : w.heap.size ≤ w2.drew.heap.size := HB2.out.size
 clear hb2
 go_wp2_with (fail)
 refine wRz ?_
 try simp only [lAz]
 refine tA 0 ?_; try simp only [lAz]
 refine tA 1 ?_; try simp only [lAz]
 refine tA 2 ?_; try simp only [lAz]
 refine tA 4 ?_; try simp only [lAz]
 refine tA 5 ?_; try simp only [lAz]
 refine tA 8 ?_; try simp only [lAz]
 refine tA 9 ?_; try simp only [lAz]
 refine tA 10 ?_; try simp only [lAz]
 refine wpAny_ready (rs := [3, 6]) (by kernel_rfl) (by simp) (aCz (fun K hK => ?_) (aCz (fun K hK => ?_) AllReady.nil))
 ·skip
  refine if_on rfl ?_
  go_must (refine wp_append_sl _ _ 27 rfl w.heap.size 78 i0 _ 2 40 Tryz.underlying27 hi q0 q1 q2 rfl (by decide) (.slice none 0 0) 0 [] rfl (World.ownsRow_nil _ _ _ _) (some ⟨g, 0, none⟩) 1 cap [strV nm, .slice none 0 0] rfl (HSl.out.below HB2.out) (fun h => by cases h) (by simp [Value.oneCell']) (by unfold maxLen; omega) (by omega) hz2 ?_)
  intro v1 w3 own1 gr1
  have hb3 : Below w.heap.size w w3 := HB2.out.grown gr1 hz2 (fun k hk => by cases hk)
  have hz3 := hb3.size
  obtain ⟨A1, c1, rfl, -⟩ := Sl.of_own own1
  apply hK
  clear hK K
  refine rZz 6 fun K hK => ?_; go_simp; apply hK; clear hK K
  have own1 := own1.alloc (.cells #[strV key, .slice none 0 0] 78)
  have HB4 := Hdz (hb3.alloc hz3 (.cells #[strV key, .slice none 0 0] 78))
  have HS4 := Hdz (sl_bucket w3 key 78)
  refine rZz 7 fun K hK => ?_; refine if_on rfl ?_
  go_must (refine wp_append_sl _ _ 27 rfl w.heap.size 78 i0 _ 2 40 Tryz.underlying27 hi q0 q1 q2 rfl (by decide) _ 1 [strV nm, .slice none 0 0] rfl own1 (some _) 1 1 [strV key, .slice none 0 0] rfl HS4.out (fun h => by cases h) (by simp [Value.oneCell']) (by unfold maxLen; omega) (by omega) HB4.out.size ?_)
  intro v2 w5 own2 gr2
  have hb5 : Below w.heap.size w w5 := HB4.out.grown gr2 HB4.out.size (fun k hk => (own1.lt k hk).1)
  have hz5 := hb5.size
  obtain ⟨A2, c2, rfl, -⟩ := Sl.of_own own2
  apply hK
  clear hK K
  refine rZz 11 fun K hK => ?_; refine if_on rfl ?_
  go_must (refine wp_append_sl _ _ 27 rfl w.heap.size 78 i0 _ 2 40 Tryz.underlying27 hi q0 q1 q2 rfl (by decide) _ 2 _ rfl own2 A0 0 (cap - 1) [] rfl (Sl.nil ..) HA0.out (by simp) (by unfold maxLen; omega) (by omega) hz5 ?_)
  intro v3 w6 own3 gr3
  have hb6 : Below w.heap.size w w6 := hb5.grown gr3 hz5 (fun k hk => (own2.lt k hk).1)
  obtain ⟨A3, c3, rfl, -⟩ := Sl.of_own own3
  apply hK
  clear hK K
  refine rZz 12 fun K hK => ?_; go_simp; apply hK; clear hK K
  refine rZz 13 fun K hK => ?_; go_simp; apply hK; clear hK K
  refine wDz ?_
  go_wp2_with (fail)
  refine bodyPost_ret (v := .tuple #[.slice A3 2 c3, .int .i64 0]) (by simp [results, Tryz.results16, go_sem]) rfl ?_
  exact ⟨_, rfl, by simpa using own3, hb6⟩
 ·skip
  go_simp
  apply hK
  clear hK K
  have HB3 := Hdz (HB2.out.alloc hz2 (.cells #[strV key, .slice none 0 0] 78))
  have HS3 := Hdz (sl_bucket w2.drew key 78)
  refine rZz 3 fun K hK => ?_; refine if_on rfl ?_
  go_must (refine wp_append_sl _ _ 27 rfl w.heap.size 78 i0 _ 2 40 Tryz.underlying27 hi q0 q1 q2 rfl (by decide) (.slice none 0 0) 0 [] rfl (World.ownsRow_nil _ _ _ _) (some ⟨g, 0, none⟩) 1 cap [strV nm, .slice none 0 0] rfl (HSl.out.below HB3.out) (fun h => by cases h) (by simp [Value.oneCell']) (by unfold maxLen; omega) (by omega) HB3.out.size ?_)
  intro v1 w3 own1 gr1
  have hb3 : Below w.heap.size w w3 := HB3.out.grown gr1 HB3.out.size (fun k hk => by cases hk)
  have hz3 := hb3.size
  have HS4 := Hdz (HS3.out.below ((Below.refl _ _).grown gr1 (Nat.le_refl _) (fun k hk => by cases hk)))
  have HB4 := Hdz hb3
  obtain ⟨A1, c1, rfl, -⟩ := Sl.of_own own1
  apply hK
  clear hK K
  refine rZz 7 fun K hK => ?_; refine if_on rfl ?_
  go_must (refine wp_append_sl _ _ 27 rfl w.heap.size 78 i0 _ 2 40 Tryz.underlying27 hi q0 q1 q2 rfl (by decide) _ 1 [strV nm, .slice none 0 0] rfl own1 (some _) 1 1 [strV key, .slice none 0 0] rfl HS4.out (fun h => by cases h) (by simp [Value.oneCell']) (by unfold maxLen; omega) (by omega) HB4.out.size ?_)
  intro v2 w5 own2 gr2
  have hb5 : Below w.heap.size w w5 := HB4.out.grown gr2 HB4.out.size (fun k hk => (own1.lt k hk).1)
  have hz5 := hb5.size
  obtain ⟨A2, c2, rfl, -⟩ := Sl.of_own own2
  apply hK
  clear hK K
  refine rZz 11 fun K hK => ?_; refine if_on rfl ?_
  go_must (refine wp_append_sl _ _ 27 rfl w.heap.size 78 i0 _ 2 40 Tryz.underlying27 hi q0 q1 q2 rfl (by decide) _ 2 _ rfl own2 A0 0 (cap - 1) [] rfl (Sl.nil ..) HA0.out (by simp) (by unfold maxLen; omega) (by omega) hz5 ?_)
  intro v3 w6 own3 gr3
  have hb6 : Below w.heap.size w w6 := hb5.grown gr3 hz5 (fun k hk => (own2.lt k hk).1)
  obtain ⟨A3, c3, rfl, -⟩ := Sl.of_own own3
  apply hK
  clear hK K
  refine rZz 12 fun K hK => ?_; go_simp; apply hK; clear hK K
  refine rZz 13 fun K hK => ?_; go_simp; apply hK; clear hK K
  refine wDz ?_
  go_wp2_with (fail)
  refine bodyPost_ret (v := .tuple #[.slice A3 2 c3, .int .i64 0]) (by simp [results, Tryz.results16, go_sem]) rfl ?_
  exact ⟨_, rfl, by simpa using own3, hb6⟩
end Go.Ev
