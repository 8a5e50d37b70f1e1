/-
  Texts of this claim.
-/
import Derived.Test.YtmfoiaaehkandaaGreatDoorMOGwKops
import Derived.Test.YtmfoiaaehkandaaGreatDoorMOGwKv5
set_option linter.unusedVariables false
set_option linter.unusedSimpArgs false
namespace Go.Ev
open Go.Proofs Go.RowKit
section
variable {D D':DB} {F:Nat->Prop} {bb q n n':Nat} {l l':List (Nat × Ses)} {W:World}
theorem Sn.doIs (h:Sn D F bb q n l W) (hq:q<=17000) (o:KOp) (hg:GoodK o) (hn:n+1<=99999999) (hD:∀ x∈D.2,x.2.length<=900) (hroom:ndN (D.1+1) (insP o.key o.val D.2)<=300000) (hv0:validK o=0) (h5:o.kind=5\/(∃ x,lookS l o.ses=some x/\x.seq<=o.seq)/\(o.kind=1\/o.kind=2\/o.kind=3)) {e m:Int} {v:Bytes} (hd:doK (D,n,l) o=((e,v,m),(D',n',l'))) :
  Calls Tryz.prog 23 #[ptrV bb,.agg #[.int .i64 o.kind,.int .i64 o.ses,.int .i64 o.seq,strV o.key,strV o.val,strV o.old]] W λ r w'=>r=.returned (.tuple #[rp e v m,.int .i64 0])/\Sn D' F bb (q+3) n' l' w'/\Keeps F W w':=by
 refine (Sn.kvDo (o:=o) h hq hg hn hD hroom).mono ?_
 intro r w' hk
 unfold KDo at hk
 rw [hd] at hk
 exact hk
theorem Sn.spare (h:Sn D F bb q n l W) (o:Obj):Sn D (λ k=>F k/\k≠W.heap.size) bb q n l (W.alloc o):=
 h.fence (G:=λ _=>False) (Keeps.of_below ((Below.refl _ _).alloc (Nat.le_refl _) _)) (λ _ _ _ e=>e) (λ k hk e=>⟨e,by omega⟩) λ k hk=>by
  have hs:(W.alloc o).heap.size=W.heap.size+1:=by simp
  exact ⟨h.size k (by omega),by omega⟩
end
def opReg:KOp:=⟨5,0,0,[],[],[]⟩
def opPutA:KOp:=⟨1,1,1,[107],[97],[]⟩
theorem doReg:doK ((0,[]),0,[]) opReg=((0,[],1),((0,[]),1,[(1,⟨0,0,0,0,[]⟩)])):=by rfl
theorem doPutA:doK ((0,[]),1,[(1,⟨0,0,0,0,[]⟩)]) opPutA=((0,[],0),((1,[([107],[97])]),1,[(1,⟨0,1,0,0,[]⟩)])):=by rfl
theorem doPutB:doK ((1,[([107],[97])]),1,[(1,⟨0,1,0,0,[]⟩)]) opPutA=((0,[],0),((1,[([107],[97])]),1,[(1,⟨0,1,0,0,[]⟩)])):=by rfl
theorem goodReg:GoodK opReg:=⟨by simp [I64,opReg],by simp [I64,opReg],by simp [opReg],by simp [opReg],by simp [opReg]⟩
theorem goodPutA:GoodK opPutA:=⟨by simp [I64,opPutA],by simp [I64,opPutA],by simp [opPutA],by simp [opPutA],by simp [opPutA]⟩
set_option maxHeartbeats 8000000 in
set_option maxRecDepth 100000 in
theorem alive25 (w:World):Calls Tryz.prog 21 #[] w (TrueB w):=by
 go_enter Tryz.func21,Tryz.ntmps21
 go_wp2_with (fail)
 go_must (refine (begin25 w).mono ?_)
 rintro e w1 ⟨bb,u,rfl,hS,hu,hb1⟩
 obtain ⟨A,c,rfl,-⟩:=Sl.of_own hu
 have HR:=Hdz (hS.doIs (by omega) opReg goodReg (by omega) (λ x hx=>by cases hx) (by simp [ndN,sumV,insP,opReg]) (by rfl) (.inl rfl) doReg)
 have HB1:=Hdz hb1
 clear hS hu hb1
 go_wp2_with (fail)
 go_must (refine HR.out.mono ?_)
 rintro e w2 ⟨rfl,hS,hb2⟩
 have HS2:=Hdz hS
 have HB2:=Hdz (HB1.out.trans (hb2.base HB1.out.size λ k e=>e))
 clear hS hb2
 go_wp2_with (fail)
 obtain ⟨u3,hu3⟩:=nmz (w2.alloc (.cells #[.int .i64 0,strV [],.int .i64 1] 72))
 obtain ⟨w3,hw3⟩:=nmz (u3.alloc (.cells #[.int .i64 1,.int .i64 1,.int .i64 1,strV [107],strV [97],strV []] 76))
 obtain ⟨g4,hg4⟩:=nmz (w2.heap.size)
 have hz3:u3.heap.size=g4+1:=by rw [<- hu3,<- hg4];simp
 have hba:Below w2.heap.size w2 u3:=by rw [<- hu3];exact (Below.refl _ _).alloc (Nat.le_refl _) _
 have hba2:Below u3.heap.size u3 w3:=by rw [<- hw3];exact (Below.refl _ _).alloc (Nat.le_refl _) _
 have b4:Blk u3 g4 72 #[.int .i64 0,strV [],.int .i64 1]:=by rw [<- hu3,<- hg4];exact Blk.new _ _ _
 have b6:Blk w3 (g4+1) 76 #[.int .i64 1,.int .i64 1,.int .i64 1,strV [107],strV [97],strV []]:=by rw [<- hw3,<- hz3];exact Blk.new _ _ _
 have b4':=Blk.below' b4 hba2
 have hS3:=HS2.out.spare (.cells #[.int .i64 0,strV [],.int .i64 1] 72)
 rw [hu3] at hS3
 have hS3:=hS3.spare (.cells #[.int .i64 1,.int .i64 1,.int .i64 1,strV [107],strV [97],strV []] 76)
 rw [hw3,hg4,hz3] at hS3
 have hb3:=hba.trans (hba2.mono hba.size)
 have HB3:=Hdz (HB2.out.trans (hb3.mono HB2.out.size))
 have H4:=Hdz b4'
 have H6:=Hdz b6
 rw [hu3,hw3,hg4]
 have HP:=Hdz (hS3.doIs (by omega) opPutA goodPutA (by omega) (λ x hx=>by cases hx) (by simp [ndN,sumV,insP,opPutA]) (by rfl) (.inr ⟨⟨_,rfl,by decide⟩,.inl rfl⟩) doPutA)
 clear hu3 hw3 hg4 hba hba2 b4 b4' b6 hz3 hS3 hb3
 go_must (refine HP.out.mono ?_)
 rintro e w4 ⟨rfl,hS,hk4⟩
 have b4:=H4.out.keeps hk4 λ e=>e.1.2 rfl
 have b6:=H6.out.keeps hk4 λ e=>e.2 rfl
 have HB4:=Hdz (HB3.out.trans (hk4.base HB3.out.size λ k e=>e.1.1))
 obtain ⟨w5,hw5⟩:=nmz (w4.alloc (.cells #[.int .i64 0,strV [],.int .i64 0] 72))
 obtain ⟨g7,hg7⟩:=nmz (w4.heap.size)
 have hba:Below w4.heap.size w4 w5:=by rw [<- hw5];exact (Below.refl _ _).alloc (Nat.le_refl _) _
 have b7:Blk w5 g7 72 #[.int .i64 0,strV [],.int .i64 0]:=by rw [<- hw5,<- hg7];exact Blk.new _ _ _
 have hS5:=hS.spare (.cells #[.int .i64 0,strV [],.int .i64 0] 72)
 rw [hw5,hg7] at hS5
 have HB5:=Hdz (HB4.out.trans (hba.mono HB4.out.size))
 have hn4:g4+1<w4.heap.size:=b6.lt
 have y0:=b6.cell 0
 have y1:=b6.cell 1
 have y2:=b6.cell 2
 have y3:=b6.cell 3
 have y4:=b6.cell 4
 have y5:=b6.cell 5
 have H5:=Hdz (Anz (Blk.below' b4 hba) b7)
 have HW5:=Hdz (Anz hw5 hg7)
 have HP:=Hdz (hS5.doIs (by omega) opPutA goodPutA (by omega) (λ x hx=>by simp at hx;subst hx;simp) (by simp [ndN,sumV,insP,opPutA,lessB,Op.bytesLess]) (by rfl) (.inr ⟨⟨_,rfl,by decide⟩,.inl rfl⟩) doPutB)
 clear hS hk4 hba b7 hS5 hw5 hg7 b4 b6
 go_wp2_with (fail)
 rw [HW5.out.1,HW5.out.2]
 go_must (refine HP.out.mono ?_)
 rintro e w6 ⟨rfl,hS,hk6⟩
 have b4:=H5.out.1.keeps hk6 λ e=>e.1.1.2 rfl
 have b7:=H5.out.2.keeps hk6 λ e=>e.2 rfl
 have HB6:=Hdz (HB5.out.trans (hk6.base HB5.out.size λ k e=>e.1.1.1))
 obtain ⟨w7,hw7⟩:=nmz (w6.alloc (.cells #[.int .i64 0,strV [],.int .i64 0] 72))
 obtain ⟨g9,hg9⟩:=nmz (w6.heap.size)
 have hba:Below w6.heap.size w6 w7:=by rw [<- hw7];exact (Below.refl _ _).alloc (Nat.le_refl _) _
 have b9:Blk w7 g9 72 #[.int .i64 0,strV [],.int .i64 0]:=by rw [<- hw7,<- hg9];exact Blk.new _ _ _
 have hS7:=hS.spare (.cells #[.int .i64 0,strV [],.int .i64 0] 72)
 rw [hw7,hg9] at hS7
 have HB7:=Hdz (HB6.out.trans (hba.mono HB6.out.size))
 have H7:=Hdz (Anz (Blk.below' b4 hba) (Anz (Blk.below' b7 hba) b9))
 have HW7:=Hdz (Anz hw7 hg9)
 have HG:=Hdz (hS7.kvGet (by omega) [107] (by decide) (by decide))
 have eg1:(getR [(([107]:Bytes),([97]:Bytes))] [107]).1=0:=by rfl
 have eg2:(getR [(([107]:Bytes),([97]:Bytes))] [107]).2=[97]:=by rfl
 rw [eg1,eg2] at HG
 clear hS hk6 hba b9 hS7 hw7 hg9 b4 b7 eg1 eg2
 go_wp2_with (fail)
 rw [HW7.out.1,HW7.out.2]
 go_must (refine HG.out.mono ?_)
 rintro e w8 ⟨rfl,hb8⟩
 have hba:=hb8.alloc hb8.size (.cells #[.int .i64 0,strV [97],.int .i64 0] 72)
 have b4:=H7.out.1.below' hba
 have b7:=H7.out.2.1.below' hba
 have b9:=H7.out.2.2.below' hba
 have x0:=b4.cell 0
 have x1:=b4.cell 1
 have x2:=b4.cell 2
 have z0:=b7.cell 0
 have z1:=b7.cell 1
 have z2:=b7.cell 2
 have t0:=b9.cell 0
 have t1:=b9.cell 1
 have t2:=b9.cell 2
 have HB8:=Hdz (HB7.out.trans (hba.mono HB7.out.size))
 clear hb8 hba b4 b7 b9
 go_wp2_with (fail)
 go_ret
 exact ⟨rfl,HB8.out⟩
end Go.Ev
