/-
  Texts of this claim.
-/
import Derived.Test.YtmfoiaaehkandaaGreatDoorMOGwSess4
set_option linter.unusedVariables false
set_option linter.unusedSimpArgs false
set_option maxHeartbeats 8000000
set_option maxRecDepth 100000
namespace Go.Ev
open Go.Proofs Go.RowKit
theorem res_row3 {fn:Func} {p u u2:Tmp} {t:TypeId} {b:Nat} {tmps:Array Value} {w:World} {x x2:Value} (vs:List Value) (h:fn.results=#[.cell p t,.tmp u,.tmp u2]) (hp:tmps.getD p undef=ptrV b) (hu:tmps.getD u undef=x) (hu2:tmps.getD u2 undef=x2) (hB:rowB0 Tryz.prog t vs.length=true) (hb:Blk w b t vs.toArray) :
  (results fn tmps).run Tryz.prog w=.ok (.tuple #[.agg vs.toArray,x,x2]) w:=by
 have e:(results fn tmps).run Tryz.prog w=((asAddr (tmps.getD p undef)).run Tryz.prog w).andThen λ a w₁=>((loadVar t a).run Tryz.prog w₁).andThen λ v w₂=>.ok (.tuple #[v,tmps.getD u undef,tmps.getD u2 undef]) w₂:=by
  simp only [results,h]
  simp [Sem.run_bind,Result.andThen]
 rw [e,hp]
 have:=load_var (w:=w) (t:=t) (b:=b) vs hB (λ j v hj=>by rw [hb.cell j];simpa using hj)
 simp only [asAddr,Sem.run_pure,Result.andThen_ok,this,hu,hu2]
theorem blk3_end {W w1:World} {b:Nat} {T:TypeId} {a0 a1 a2:Value} (r0 r1 r2:Value) (hb:Below W.heap.size W w1) (hB:W.heap.size<=b) (bz:Blk w1 b T #[a0,a1,a2]) :
  Blk (((w1.setCell ⟨b,0,none⟩ r0).setCell ⟨b,1,none⟩ r1).setCell ⟨b,2,none⟩ r2) b T #[r0,r1,r2]/\Below W.heap.size W (((w1.setCell ⟨b,0,none⟩ r0).setCell ⟨b,1,none⟩ r1).setCell ⟨b,2,none⟩ r2):=by
 have KF:=(((Keeps.refl (λ k=>k=b) w1).setCell (p:=⟨b,0,none⟩) (λ _=>rfl) r0).setCell (p:=⟨b,1,none⟩) (λ _=>rfl) r1).setCell (p:=⟨b,2,none⟩) (λ _=>rfl) r2
 exact ⟨((bz.set 0 r0).set 1 r1).set 2 r2,hb.trans (KF.below hb.size λ i hi e=>by omega)⟩
section
variable {D:DB} {F:Nat->Prop} {bb q n:Nat} {l:List (Nat × Ses)} {W W':World}
theorem Sn.lookNo (h:Sn D F bb q n l W) (hq:q<=19000) (id seq:Int) (hx:lookS l id=none) :
  Calls Tryz.prog 69 #[ptrV bb,.int .i64 id,.int .i64 seq] W λ e w'=>e=.returned (.tuple #[repV noSes,.bool false,.int .i64 24])/\Below W.heap.size W w':=by
 have HF:Hid (∀ W1,Below W.heap.size W W1->Calls Tryz.prog 111 #[ptrV bb,.int .i64 id] W1 λ e w'=>e=.returned (foundV (lookS l id))/\Below W1.heap.size W1 w'):=λ W1 hb=>(h.below hb).found (by omega) id
 rw [hx] at HF
 clear h hx
 go_enter Tryz.func69,Tryz.ntmps69
 go_wp2_with (fail)
 go_must (refine (HF.out _ ((Below.refl _ W).alloc (Nat.le_refl _) _)).mono ?_)
 rintro e w1 ⟨rfl,hb1⟩
 have HB1:Hid (Below W.heap.size W w1):=((Below.refl _ W).alloc (Nat.le_refl _) _).trans (hb1.mono (by simp))
 have bz:Blk w1 W.heap.size 72 #[.int .i64 0,strV [],.int .i64 0]:=Blk.below' (Blk.new _ _ _) hb1
 have HBz:=Hdz bz
 have hz:W.heap.size<w1.heap.size:=bz.lt
 have z0:=bz.cell 0
 have z1:=bz.cell 1
 have z2:=bz.cell 2
 have f0:=bz.frozen 0
 have f1:=bz.frozen 1
 have f2:=bz.frozen 2
 clear hb1 bz
 simp only [foundV,Option.getD,Option.isSome,if_true,Bool.false_eq_true,if_false]
 go_wp2_with (fail)
 obtain ⟨g1,g2⟩:=blk3_end (.int .i64 0) (strV []) (.int .i64 0) HB1.out (Nat.le_refl _) HBz.out
 refine bodyPost_ret (res_row3 [.int .i64 0,strV [],.int .i64 0] rfl rfl rfl rfl (by kernel_rfl) (g1.alloc _)) rfl ?_
 exact ⟨rfl,g2.alloc g2.size _⟩
theorem Sn.lookStale1 {x:Ses} (h:Sn D F bb q n l W) (hq:q<=19000) (id seq:Int) (hx:lookS l id=some x) (h1:seq<x.seq) :
  Calls Tryz.prog 69 #[ptrV bb,.int .i64 id,.int .i64 seq] W λ e w'=>e=.returned (.tuple #[repV noSes,.bool false,.int .i64 25])/\Below W.heap.size W w':=by
 have HF:Hid (∀ W1,Below W.heap.size W W1->Calls Tryz.prog 111 #[ptrV bb,.int .i64 id] W1 λ e w'=>e=.returned (foundV (lookS l id))/\Below W1.heap.size W1 w'):=λ W1 hb=>(h.below hb).found (by omega) id
 rw [hx] at HF
 have d1:decide (seq<x.seq)=true:=decide_eq_true h1
 clear h hx h1
 go_enter Tryz.func69,Tryz.ntmps69
 go_wp2_with (fail)
 go_must (refine (HF.out _ ((Below.refl _ W).alloc (Nat.le_refl _) _)).mono ?_)
 rintro e w1 ⟨rfl,hb1⟩
 have HB1:Hid (Below W.heap.size W w1):=((Below.refl _ W).alloc (Nat.le_refl _) _).trans (hb1.mono (by simp))
 have bz:Blk w1 W.heap.size 72 #[.int .i64 0,strV [],.int .i64 0]:=Blk.below' (Blk.new _ _ _) hb1
 have HBz:=Hdz bz
 have hz:W.heap.size<w1.heap.size:=bz.lt
 have z0:=bz.cell 0
 have z1:=bz.cell 1
 have z2:=bz.cell 2
 have f0:=bz.frozen 0
 have f1:=bz.frozen 1
 have f2:=bz.frozen 2
 clear hb1 bz
 simp only [foundV,Option.getD,Option.isSome,if_true,Bool.false_eq_true,if_false]
 go_wp2_with (fail)
 obtain ⟨g1,g2⟩:=blk3_end (.int .i64 0) (strV []) (.int .i64 0) HB1.out (Nat.le_refl _) HBz.out
 refine bodyPost_ret (res_row3 [.int .i64 0,strV [],.int .i64 0] rfl rfl rfl rfl (by kernel_rfl) (g1.alloc _)) rfl ?_
 exact ⟨rfl,g2.alloc g2.size _⟩
theorem Sn.lookOld {x:Ses} (h:Sn D F bb q n l W) (hq:q<=19000) (id seq:Int) (hx:lookS l id=some x) (h1:seq=x.seq) (h2:¬ seq<1) :
  Calls Tryz.prog 69 #[ptrV bb,.int .i64 id,.int .i64 seq] W λ e w'=>e=.returned (.tuple #[repV x,.bool true,.int .i64 0])/\Below W.heap.size W w':=by
 have HF:Hid (∀ W1,Below W.heap.size W W1->Calls Tryz.prog 111 #[ptrV bb,.int .i64 id] W1 λ e w'=>e=.returned (foundV (lookS l id))/\Below W1.heap.size W1 w'):=λ W1 hb=>(h.below hb).found (by omega) id
 rw [hx] at HF
 have d1:decide (seq<x.seq)=false:=decide_eq_false (by omega)
 have d2:decide (seq<1)=false:=decide_eq_false h2
 have d3:(seq==x.seq)=true:=beq_iff_eq.2 h1
 clear h hx h1 h2
 go_enter Tryz.func69,Tryz.ntmps69
 go_wp2_with (fail)
 go_must (refine (HF.out _ ((Below.refl _ W).alloc (Nat.le_refl _) _)).mono ?_)
 rintro e w1 ⟨rfl,hb1⟩
 have HB1:Hid (Below W.heap.size W w1):=((Below.refl _ W).alloc (Nat.le_refl _) _).trans (hb1.mono (by simp))
 have bz:Blk w1 W.heap.size 72 #[.int .i64 0,strV [],.int .i64 0]:=Blk.below' (Blk.new _ _ _) hb1
 have HBz:=Hdz bz
 have hz:W.heap.size<w1.heap.size:=bz.lt
 have z0:=bz.cell 0
 have z1:=bz.cell 1
 have z2:=bz.cell 2
 have f0:=bz.frozen 0
 have f1:=bz.frozen 1
 have f2:=bz.frozen 2
 clear hb1 bz
 simp only [foundV,Option.getD,Option.isSome,if_true,Bool.false_eq_true,if_false]
 go_wp2_with (fail)
 obtain ⟨g1,g2⟩:=blk3_end (.int .i64 x.err) (strV x.val) (.int .i64 x.num) HB1.out (Nat.le_refl _) HBz.out
 refine bodyPost_ret (res_row3 [.int .i64 x.err,strV x.val,.int .i64 x.num] rfl rfl rfl rfl (by kernel_rfl) (g1.alloc _)) rfl ?_
 exact ⟨rfl,g2.alloc g2.size _⟩
theorem Sn.lookNew {x:Ses} (h:Sn D F bb q n l W) (hq:q<=19000) (id seq:Int) (hx:lookS l id=some x) (h1:x.seq<seq) (h2:¬ seq<1) :
  Calls Tryz.prog 69 #[ptrV bb,.int .i64 id,.int .i64 seq] W λ e w'=>e=.returned (.tuple #[repV noSes,.bool false,.int .i64 0])/\Below W.heap.size W w':=by
 have HF:Hid (∀ W1,Below W.heap.size W W1->Calls Tryz.prog 111 #[ptrV bb,.int .i64 id] W1 λ e w'=>e=.returned (foundV (lookS l id))/\Below W1.heap.size W1 w'):=λ W1 hb=>(h.below hb).found (by omega) id
 rw [hx] at HF
 have d1:decide (seq<x.seq)=false:=decide_eq_false (by omega)
 have d2:decide (seq<1)=false:=decide_eq_false h2
 have d3:(seq==x.seq)=false:=beq_eq_false_iff_ne.2 (by omega)
 clear h hx h1 h2
 go_enter Tryz.func69,Tryz.ntmps69
 go_wp2_with (fail)
 go_must (refine (HF.out _ ((Below.refl _ W).alloc (Nat.le_refl _) _)).mono ?_)
 rintro e w1 ⟨rfl,hb1⟩
 have HB1:Hid (Below W.heap.size W w1):=((Below.refl _ W).alloc (Nat.le_refl _) _).trans (hb1.mono (by simp))
 have bz:Blk w1 W.heap.size 72 #[.int .i64 0,strV [],.int .i64 0]:=Blk.below' (Blk.new _ _ _) hb1
 have HBz:=Hdz bz
 have hz:W.heap.size<w1.heap.size:=bz.lt
 have z0:=bz.cell 0
 have z1:=bz.cell 1
 have z2:=bz.cell 2
 have f0:=bz.frozen 0
 have f1:=bz.frozen 1
 have f2:=bz.frozen 2
 clear hb1 bz
 simp only [foundV,Option.getD,Option.isSome,if_true,Bool.false_eq_true,if_false]
 go_wp2_with (fail)
 obtain ⟨g1,g2⟩:=blk3_end (.int .i64 0) (strV []) (.int .i64 0) HB1.out (Nat.le_refl _) HBz.out
 refine bodyPost_ret (res_row3 [.int .i64 0,strV [],.int .i64 0] rfl rfl rfl rfl (by kernel_rfl) (g1.alloc _)) rfl ?_
 exact ⟨rfl,g2.alloc g2.size _⟩
theorem setS_good {id:Nat} {s:Ses}:∀ {l:List (Nat × Ses)},(∀ x∈l,SesGood x.2/\x.2.val.length<=2000)->SesGood s/\s.val.length<=2000->∀ x∈setS id s l,SesGood x.2/\x.2.val.length<=2000
 | [],_,_,x,hx=>by cases hx
 | y :: l,h,hs,x,hx=>by
  simp only [setS] at hx
  split at hx
  ·rcases List.mem_cons.1 hx with rfl | hx
   ·exact hs
   ·exact h x (List.mem_cons_of_mem _ hx)
  ·rcases List.mem_cons.1 hx with rfl | hx
   ·exact h _ (List.mem_cons_self ..)
   ·exact setS_good (λ z hz=>h z (List.mem_cons_of_mem _ hz)) hs x hx
theorem setS_len {id:Nat} {s:Ses} (l:List (Nat × Ses)):(setS id s l).length=l.length:=by
 have:=congrArg List.length (setS_ids (id:=id) (s:=s) l)
 simpa using this
abbrev newS (x y:Ses) (seq:Int):Ses:=⟨x.who,seq,y.err,y.num,y.val⟩
theorem Sn.saveNew {x:Ses} (h:Sn D F bb q n l W) (hq:q<=18000) (id:Nat) (hi1:1<=id) (hi8:id<=99999999) (seq:Int) (y:Ses) (hx:getS id l=some x) (h1:x.seq<seq) (h2:¬ seq<1) (hs:I64 seq) (hy:SesGood y) (hyv:y.val.length<=1000) :
  Calls Tryz.prog 71 #[ptrV bb,.int .i64 (id:Int),.int .i64 seq,repV y] W λ e w'=>e=.returned (.int .i64 0)/\Sn D F bb (q+1) n (setS id (newS x y seq) l) w'/\Keeps F W w':=by
 have hlk:lookS l (id:Int)=some x:=by rw [lookS_nat hi1 hi8,hx]
 have hxg:=(getS_good h.good hx).1
 have hng:SesGood (newS x y seq):=⟨hxg.1,hs,hy.2.2.1,hy.2.2.2.1,hy.2.2.2.2⟩
 have HL:Hid (∀ W1,Below W.heap.size W W1->Calls Tryz.prog 69 #[ptrV bb,.int .i64 (id:Int),.int .i64 seq] W1 λ e w'=>e=.returned (.tuple #[repV noSes,.bool false,.int .i64 0])/\Below W1.heap.size W1 w'):=λ W1 hb=>(h.below hb).lookNew (by omega) (id:Int) seq hlk h1 h2
 have HF:Hid (∀ W1,Below W.heap.size W W1->Calls Tryz.prog 111 #[ptrV bb,.int .i64 (id:Int)] W1 λ e w'=>e=.returned (foundV (some x))/\Below W1.heap.size W1 w'):=λ W1 hb=>by
  have:=(h.below hb).found (by omega) (id:Int)
  rwa [hlk] at this
 have HK:=Hdz (λ W1=>key_ok id W1 hi8)
 have HLy:=Hdz (λ W1=>lay_ok (newS x y seq) W1 hng)
 have HH:=Hdz h
 have HP:Hid (∀ W1,Below W.heap.size W W1->Calls Tryz.prog 49 #[ptrV bb,strV sessK,strV (dig 8 id),strV (layS (newS x y seq))] W1 λ e w'=>e=.returned (.int .i64 0)/\Sn D F bb (q+1) n (setS id (newS x y seq) l) w'/\Keeps F W1 w'):=λ W1 hb=>by
  have hS:=h.below hb
  refine hS.put (by omega) _ _ (goodKV_small (by rw [dig_len];omega) (by rw [dig_len];omega) ?_) (ss_put hi8 hS.ok (by rw [hx];simp)) hS.ok.set (setS_good hS.good ⟨hng,Nat.le_trans hyv (by decide)⟩) (by rw [setS_len];exact hS.few)
  have:=(layS_len hng).2
  have e:(newS x y seq).val=y.val:=rfl
  rw [e] at this
  omega
 obtain ⟨kb,hkb⟩:=nmz (dig 8 id)
 obtain ⟨lb,hlb⟩:=nmz (layS (newS x y seq))
 rw [hkb] at HK HP
 rw [hlb] at HLy HP
 clear h hx h1 h2 hs hy hyv hlk hxg hng hkb hlb hi1 hi8
 go_enter Tryz.func71,Tryz.ntmps71
 go_wp2_with (fail)
 go_must (refine (HL.out _ ((Below.refl _ W).alloc (Nat.le_refl _) _)).mono ?_)
 rintro e w1 ⟨rfl,hb1⟩
 have HB1:Hid (Below W.heap.size W w1):=((Below.refl _ W).alloc (Nat.le_refl _) _).trans (hb1.mono (by simp))
 have HR1:Hid (Blk w1 W.heap.size 72 #[.int .i64 y.err,strV y.val,.int .i64 y.num]):=Blk.below' (Blk.new _ _ _) hb1
 clear hb1
 go_wp2_with (fail)
 go_must (refine (HF.out _ (HB1.out.alloc HB1.out.size _)).mono ?_)
 rintro e w3 ⟨rfl,hb3⟩
 have hba:=HB1.out.alloc HB1.out.size (.cells #[.int .i64 0,strV [],.int .i64 0] 72)
 have HB3:Hid (Below W.heap.size W w3):=hba.trans (hb3.mono hba.size)
 have br:=Blk.below' (HR1.out.alloc (.cells #[.int .i64 0,strV [],.int .i64 0] 72)) hb3
 have hz:W.heap.size<w3.heap.size:=br.lt
 have HR3:=Hdz br
 clear hb3 hba br
 simp only [foundV,Option.getD,Option.isSome,if_true,Bool.false_eq_true,if_false]
 go_wp2_with (fail)
 obtain ⟨g,hg⟩:=nmz (w3.heap.size)
 obtain ⟨w4,hw4⟩:=nmz (w3.alloc (.cells #[.int .i64 x.who,.int .i64 x.seq,.int .i64 x.err,strV x.val,.int .i64 x.num] 187))
 have hba:Below w3.heap.size w3 w4:=by rw [<- hw4];exact (Below.refl _ _).alloc (Nat.le_refl _) _
 have HX4:Hid (Blk w4 g 187 #[.int .i64 x.who,.int .i64 x.seq,.int .i64 x.err,strV x.val,.int .i64 x.num]):=by rw [<- hw4,<- hg];exact Blk.new _ _ _
 have HB4:Hid (Below W.heap.size W w4):=HB3.out.trans (hba.mono HB3.out.size)
 have br:=Blk.below' HR3.out hba
 have r0:w4.drew.cell? ⟨W.heap.size,0,none⟩=some (.int .i64 y.err):=br.drew.cell 0
 have q0:=br.cell 0
 have q1:=br.cell 1
 have q2:=br.cell 2
 have r1:w4.drew.cell? ⟨W.heap.size,1,none⟩=some (strV y.val):=br.drew.cell 1
 have r2:w4.drew.cell? ⟨W.heap.size,2,none⟩=some (.int .i64 y.num):=br.drew.cell 2
 have bx:=HX4.out.drew
 have x0:=bx.cell 0
 have x1:=bx.cell 1
 have x2:=bx.cell 2
 have x3:=bx.cell 3
 have x4:=bx.cell 4
 have f0:=bx.frozen 0
 have f1:=bx.frozen 1
 have f2:=bx.frozen 2
 have f3:=bx.frozen 3
 have f4:=bx.frozen 4
 have bx:=HX4.out
 have y0:=bx.cell 0
 have y1:=bx.cell 1
 have y2:=bx.cell 2
 have y3:=bx.cell 3
 have y4:=bx.cell 4
 have e0:=bx.frozen 0
 have e1:=bx.frozen 1
 have e2:=bx.frozen 2
 have e3:=bx.frozen 3
 have e4:=bx.frozen 4
 have hgz:W.heap.size<=g:=by omega
 rw [hw4,hg]
 have HG:=Hdz hgz
 have hgz':W.heap.size<g:=by omega
 clear br bx hba hw4 hg hz
 refine wRz ?_
 try simp only [lAz]
 refine tA 0 ?_;try simp only [lAz]
 refine tA 2 ?_;try simp only [lAz]
 refine wpAny_ready (rs:=[1,3]) (by kernel_rfl) (by simp) (aCz (λ K hK=>?_) (aCz (λ K hK=>?_) AllReady.nil))
 ·skip
  go_simp
  apply hK
  clear hK K
  refine rZz 3 λ K hK=>?_;go_simp;apply hK;clear hK K
  try simp only [lAz]
  refine tA 4 ?_;try simp only [lAz]
  refine rZz 5 λ K hK=>?_;go_simp;apply hK;clear hK K
  refine wDz ?_
  have hb5:=((((HX4.out.set 1 (.int .i64 seq)).set 2 (.int .i64 y.err)).set 3 (strV y.val)).set 4 (.int .i64 y.num)).drew.drew
  have KF:=(((((Keeps.refl (λ k=>k=g) w4).setCell (p:=⟨g,1,none⟩) (λ _=>rfl) (.int .i64 seq)).setCell (p:=⟨g,2,none⟩) (λ _=>rfl) (.int .i64 y.err)).setCell (p:=⟨g,3,none⟩) (λ _=>rfl) (strV y.val)).setCell (p:=⟨g,4,none⟩) (λ _=>rfl) (.int .i64 y.num)).drew.drew
  have hb5':=HB4.out.trans (KF.below HB4.out.size λ i hi e=>by have:=HG.out;omega)
  obtain ⟨w5,hw5⟩:=nmz (((((w4.setCell ⟨g,1,none⟩ (.int .i64 seq)).setCell ⟨g,2,none⟩ (.int .i64 y.err)).setCell ⟨g,3,none⟩ (strV y.val)).setCell ⟨g,4,none⟩ (.int .i64 y.num)).drew.drew)
  rw [hw5] at hb5 hb5'
  have HX5:Hid (Blk w5 g 187 #[.int .i64 x.who,.int .i64 seq,.int .i64 y.err,strV y.val,.int .i64 y.num]):=hb5
  have HB5:=Hdz hb5'
  have x0:=hb5.cell 0
  have x1:=hb5.cell 1
  have x2:=hb5.cell 2
  have x3:=hb5.cell 3
  have x4:=hb5.cell 4
  clear KF hb5 hb5'
  go_wp2_with (fail)
  refine wRz ?_
  rw [hw5]
  clear hw5
  try simp only [lAz]
  refine tA 0 ?_;try simp only [lAz]
  refine tA 1 ?_;try simp only [lAz]
  refine wpAny_ready (rs:=[2,3]) (by kernel_rfl) (by simp) (aCz (λ K hK=>?_) (aCz (λ K hK=>?_) AllReady.nil))
  ·skip
   go_simp
   (go_must (refine (HK.out _).mono ?_);rintro e w6 ⟨rfl,hb6⟩)
   have HB6:=Hdz (HB5.out.trans (hb6.mono HB5.out.size))
   have b6:=Blk.below' HX5.out hb6
   have x0:=b6.cell 0
   have x1:=b6.cell 1
   have x2:=b6.cell 2
   have x3:=b6.cell 3
   have x4:=b6.cell 4
   clear hb6 b6
   go_simp
   apply hK
   clear hK K
   refine rZz 3 λ K hK=>?_;go_simp;apply hK;clear hK K
   refine rZz 4 λ K hK=>?_;go_simp
   (go_must (refine (HLy.out _).mono ?_);rintro e w7 ⟨rfl,hb7⟩)
   have HB7:=Hdz (HB6.out.trans (hb7.mono HB6.out.size))
   clear hb7
   go_simp
   apply hK
   clear hK K
   refine rZz 5 λ K hK=>?_;go_simp
   (go_must (refine (HP.out _ HB7.out).mono ?_);rintro e w8 ⟨rfl,hS8,hk8⟩)
   have HE:=Hdz (Anz hS8 ((Keeps.of_below (S:=F) HB7.out).go hk8))
   clear hS8 hk8
   go_simp
   apply hK
   clear hK K
   refine rZz 6 λ K hK=>?_;go_simp;apply hK;clear hK K
   refine wDz ?_
   go_wp2_with (fail)
   go_ret
   exact ⟨rfl,HE.out⟩
  ·skip
   go_simp
   apply hK
   clear hK K
   refine rZz 2 λ K hK=>?_;go_simp
   (go_must (refine (HK.out _).mono ?_);rintro e w6 ⟨rfl,hb6⟩)
   have HB6:=Hdz (HB5.out.trans (hb6.mono HB5.out.size))
   clear hb6
   go_simp
   apply hK
   clear hK K
   refine rZz 4 λ K hK=>?_;go_simp
   (go_must (refine (HLy.out _).mono ?_);rintro e w7 ⟨rfl,hb7⟩)
   have HB7:=Hdz (HB6.out.trans (hb7.mono HB6.out.size))
   clear hb7
   go_simp
   apply hK
   clear hK K
   refine rZz 5 λ K hK=>?_;go_simp
   (go_must (refine (HP.out _ HB7.out).mono ?_);rintro e w8 ⟨rfl,hS8,hk8⟩)
   have HE:=Hdz (Anz hS8 ((Keeps.of_below (S:=F) HB7.out).go hk8))
   clear hS8 hk8
   go_simp
   apply hK
   clear hK K
   refine rZz 6 λ K hK=>?_;go_simp;apply hK;clear hK K
   refine wDz ?_
   go_wp2_with (fail)
   go_ret
   exact ⟨rfl,HE.out⟩
 ·skip
  go_simp
  apply hK
  clear hK K
  refine rZz 1 λ K hK=>?_;go_simp;apply hK;clear hK K
  try simp only [lAz]
  refine tA 4 ?_;try simp only [lAz]
  refine rZz 5 λ K hK=>?_;go_simp;apply hK;clear hK K
  refine wDz ?_
  have hb5:=((((HX4.out.set 1 (.int .i64 seq)).set 2 (.int .i64 y.err)).set 3 (strV y.val)).set 4 (.int .i64 y.num)).drew.drew
  have KF:=(((((Keeps.refl (λ k=>k=g) w4).setCell (p:=⟨g,1,none⟩) (λ _=>rfl) (.int .i64 seq)).setCell (p:=⟨g,2,none⟩) (λ _=>rfl) (.int .i64 y.err)).setCell (p:=⟨g,3,none⟩) (λ _=>rfl) (strV y.val)).setCell (p:=⟨g,4,none⟩) (λ _=>rfl) (.int .i64 y.num)).drew.drew
  have hb5':=HB4.out.trans (KF.below HB4.out.size λ i hi e=>by have:=HG.out;omega)
  obtain ⟨w5,hw5⟩:=nmz (((((w4.setCell ⟨g,1,none⟩ (.int .i64 seq)).setCell ⟨g,2,none⟩ (.int .i64 y.err)).setCell ⟨g,3,none⟩ (strV y.val)).setCell ⟨g,4,none⟩ (.int .i64 y.num)).drew.drew)
  rw [hw5] at hb5 hb5'
  have HX5:Hid (Blk w5 g 187 #[.int .i64 x.who,.int .i64 seq,.int .i64 y.err,strV y.val,.int .i64 y.num]):=hb5
  have HB5:=Hdz hb5'
  have x0:=hb5.cell 0
  have x1:=hb5.cell 1
  have x2:=hb5.cell 2
  have x3:=hb5.cell 3
  have x4:=hb5.cell 4
  clear KF hb5 hb5'
  go_wp2_with (fail)
  refine wRz ?_
  rw [hw5]
  clear hw5
  try simp only [lAz]
  refine tA 0 ?_;try simp only [lAz]
  refine tA 1 ?_;try simp only [lAz]
  refine wpAny_ready (rs:=[2,3]) (by kernel_rfl) (by simp) (aCz (λ K hK=>?_) (aCz (λ K hK=>?_) AllReady.nil))
  ·skip
   go_simp
   (go_must (refine (HK.out _).mono ?_);rintro e w6 ⟨rfl,hb6⟩)
   have HB6:=Hdz (HB5.out.trans (hb6.mono HB5.out.size))
   have b6:=Blk.below' HX5.out hb6
   have x0:=b6.cell 0
   have x1:=b6.cell 1
   have x2:=b6.cell 2
   have x3:=b6.cell 3
   have x4:=b6.cell 4
   clear hb6 b6
   go_simp
   apply hK
   clear hK K
   refine rZz 3 λ K hK=>?_;go_simp;apply hK;clear hK K
   refine rZz 4 λ K hK=>?_;go_simp
   (go_must (refine (HLy.out _).mono ?_);rintro e w7 ⟨rfl,hb7⟩)
   have HB7:=Hdz (HB6.out.trans (hb7.mono HB6.out.size))
   clear hb7
   go_simp
   apply hK
   clear hK K
   refine rZz 5 λ K hK=>?_;go_simp
   (go_must (refine (HP.out _ HB7.out).mono ?_);rintro e w8 ⟨rfl,hS8,hk8⟩)
   have HE:=Hdz (Anz hS8 ((Keeps.of_below (S:=F) HB7.out).go hk8))
   clear hS8 hk8
   go_simp
   apply hK
   clear hK K
   refine rZz 6 λ K hK=>?_;go_simp;apply hK;clear hK K
   refine wDz ?_
   go_wp2_with (fail)
   go_ret
   exact ⟨rfl,HE.out⟩
  ·skip
   go_simp
   apply hK
   clear hK K
   refine rZz 2 λ K hK=>?_;go_simp
   (go_must (refine (HK.out _).mono ?_);rintro e w6 ⟨rfl,hb6⟩)
   have HB6:=Hdz (HB5.out.trans (hb6.mono HB5.out.size))
   clear hb6
   go_simp
   apply hK
   clear hK K
   refine rZz 4 λ K hK=>?_;go_simp
   (go_must (refine (HLy.out _).mono ?_);rintro e w7 ⟨rfl,hb7⟩)
   have HB7:=Hdz (HB6.out.trans (hb7.mono HB6.out.size))
   clear hb7
   go_simp
   apply hK
   clear hK K
   refine rZz 5 λ K hK=>?_;go_simp
   (go_must (refine (HP.out _ HB7.out).mono ?_);rintro e w8 ⟨rfl,hS8,hk8⟩)
   have HE:=Hdz (Anz hS8 ((Keeps.of_below (S:=F) HB7.out).go hk8))
   clear hS8 hk8
   go_simp
   apply hK
   clear hK K
   refine rZz 6 λ K hK=>?_;go_simp;apply hK;clear hK K
   refine wDz ?_
   go_wp2_with (fail)
   go_ret
   exact ⟨rfl,HE.out⟩
end
end Go.Ev
