/-
  Texts of this claim.
-/
import Derived.Test.YtmfoiaaehkandaaGreatDoorMBGwKeepInit
import Derived.Test.YtmfoiaaehkandaaGreatDoorMBGwKeepLd
set_option linter.unusedVariables false
set_option linter.unusedSimpArgs false
namespace Go.Ev
open Go.Proofs Go.RowKit
theorem keeps8 {w1:World} {b:Nat} (r0 r1 r2 r3 r4 r5 r6 r7:Value):Keeps (λ k=>k=b) w1 ((((((((w1.setCell ⟨b,0,none⟩ r0).setCell ⟨b,1,none⟩ r1).setCell ⟨b,2,none⟩ r2).setCell ⟨b,3,none⟩ r3).setCell ⟨b,4,none⟩ r4).setCell ⟨b,5,none⟩ r5).setCell ⟨b,6,none⟩ r6).setCell ⟨b,7,none⟩ r7):=
 ((((((((Keeps.refl (λ k=>k=b) w1).setCell (p:=⟨b,0,none⟩) (λ _=>rfl) r0).setCell (p:=⟨b,1,none⟩) (λ _=>rfl) r1).setCell (p:=⟨b,2,none⟩) (λ _=>rfl) r2).setCell (p:=⟨b,3,none⟩) (λ _=>rfl) r3).setCell (p:=⟨b,4,none⟩) (λ _=>rfl) r4).setCell (p:=⟨b,5,none⟩) (λ _=>rfl) r5).setCell (p:=⟨b,6,none⟩) (λ _=>rfl) r6).setCell (p:=⟨b,7,none⟩) (λ _=>rfl) r7
theorem blk8 {w1:World} {b:Nat} {T:TypeId} {a0 a1 a2 a3 a4 a5 a6 a7:Value} (r0 r1 r2 r3 r4 r5 r6 r7:Value) (bz:Blk w1 b T #[a0,a1,a2,a3,a4,a5,a6,a7]) :
  Blk ((((((((w1.setCell ⟨b,0,none⟩ r0).setCell ⟨b,1,none⟩ r1).setCell ⟨b,2,none⟩ r2).setCell ⟨b,3,none⟩ r3).setCell ⟨b,4,none⟩ r4).setCell ⟨b,5,none⟩ r5).setCell ⟨b,6,none⟩ r6).setCell ⟨b,7,none⟩ r7) b T #[r0,r1,r2,r3,r4,r5,r6,r7]:=by
 have h:=(((((((bz.set 0 r0).set 1 r1).set 2 r2).set 3 r3).set 4 r4).set 5 r5).set 6 r6).set 7 r7
 simpa using h
structure Kept (x y z i u:Int) (l:List Int) (a:Int) (es:List LogE):Prop where
 hard:I64 x/\I64 y/\I64 z
 snap:(0<=i/\I64 i)/\0<=u/\I64 u
 mem:ValidM l
 app:I64 a
 log:LogOk es
 foll:FollowT i u es
def stZ:Array Value:=#[.int .i64 0,.int .i64 0,.int .i64 0,.int .i64 0,.int .i64 0,.slice none 0 0,.slice none 0 0,.int .i64 0]
def LdS (gs gr:Nat) (cs:Array Value) (rest:Bytes) (W2 w:World):Prop:=Blk w gs 56 cs/\Blk w gr 9 #[strV rest]/\Keeps (λ k=>k=gs\/k=gr) W2 w
def LoadI (gs gr:Nat) (W2:World) (x y z i u:Int) (l:List Int) (a:Int) (es:List LogE):Nat->World->Prop
 | 0,w=>LdS gs gr stZ [] W2 w
 | 1,w=>LdS gs gr #[.int .i64 x,.int .i64 y,.int .i64 z,.int .i64 0,.int .i64 0,.slice none 0 0,.slice none 0 0,.int .i64 0] [] W2 w
 | 2,w=>LdS gs gr #[.int .i64 x,.int .i64 y,.int .i64 z,.int .i64 i,.int .i64 u,.slice none 0 0,.slice none 0 0,.int .i64 0] (memB l) W2 w
 | 3,w=>∃ v5,LdS gs gr #[.int .i64 x,.int .i64 y,.int .i64 z,.int .i64 i,.int .i64 u,v5,.slice none 0 0,.int .i64 0] (memB l) W2 w/\w.ownsRow W2.heap.size 3 1 v5 l.length (intsV l)
 | 4,w=>∃ v5,LdS gs gr #[.int .i64 x,.int .i64 y,.int .i64 z,.int .i64 i,.int .i64 u,v5,.slice none 0 0,.int .i64 a] [] W2 w/\w.ownsRow W2.heap.size 3 1 v5 l.length (intsV l)
 | _,w=>∃ v5 v6,LdS gs gr #[.int .i64 x,.int .i64 y,.int .i64 z,.int .i64 i,.int .i64 u,v5,v6,.int .i64 a] [] W2 w/\w.ownsRow W2.heap.size 3 1 v5 l.length (intsV l)/\w.ownsRow W2.heap.size 62 4 v6 es.length (es.flatMap entCs)
theorem LoadI.keeps {gs gr:Nat} {W2 w:World} {x y z i u a:Int} {l:List Int} {es:List LogE}:∀ {k:Nat},LoadI gs gr W2 x y z i u l a es k w->Keeps (λ k=>k=gs\/k=gr) W2 w
 | 0,h=>h.2.2
 | 1,h=>h.2.2
 | 2,h=>h.2.2
 | 3,h=>by obtain ⟨_,h,_⟩:=h;exact h.2.2
 | 4,h=>by obtain ⟨_,h,_⟩:=h;exact h.2.2
 | _+5,h=>by obtain ⟨_,_,h,_⟩:=h;exact h.2.2
theorem LdS.then {gs gr:Nat} {cs cs':Array Value} {r r':Bytes} {W2 w w':World} {e:Ending} (h:LdS gs gr cs r W2 w) (h':LdP gs gr cs' r' w e w'):LdS gs gr cs' r' W2 w':=⟨h'.2.1,h'.2.2.1,h.2.2.trans h'.2.2.2 λ _ _ e=>e⟩
theorem own_far {w w':World} {B gs gr:Nat} {T:TypeId} {z n:Nat} {v:Value} {cs:List Value} (h:w.ownsRow B T z v n cs) (hk:Keeps (λ k=>k=gs\/k=gr) w w') (h1:gs<B) (h2:gr<B):w'.ownsRow B T z v n cs:=
 own_keeps h hk λ k e g=>by
  have:=(h.lt k e).1
  rcases g with rfl | rfl<;>omega
def LoadP (x y z i u:Int) (l:List Int) (a:Int) (es:List LogE) (W:World) (e:Ending) (w':World):Prop:=∃ v5 v6,e=.returned (.tuple #[.agg #[.int .i64 x,.int .i64 y,.int .i64 z,.int .i64 i,.int .i64 u,v5,v6,.int .i64 a],.int .i64 0])/\w'.ownsRow W.heap.size 3 1 v5 l.length (intsV l)/\w'.ownsRow W.heap.size 62 4 v6 es.length (es.flatMap entCs)/\Below W.heap.size W w'
section
variable {F:Nat->Prop} {bb q n:Nat} {W:World} {x y z i u a:Int} {l:List Int} {es:List LogE}
set_option maxHeartbeats 8000000 in
set_option maxRecDepth 100000 in
theorem Kn.load (h:Kn F bb q (keptP (varsB [x,y,z]) (snB i u l) (varsB [a])) (n,logP es) W) (hq:q<=20000) (hK:Kept x y z i u l a es) :
  Calls Tryz.prog 18 #[ptrV bb] W (LoadP x y z i u l a es W):=by
 have hmf:∀ (fn:Fn) (first cap:Array Value) (w:World),(Instr.makeFunc fn first cap).run Tryz.prog w=.ok (.func fn first cap) w:=λ _ _ _ _=>rfl
 obtain ⟨w0,hw0⟩:=nmz ((W.alloc (.cells #[ptrV bb] 46)).alloc (.cells stZ 56))
 have hb0:Below W.heap.size W w0:=by rw [<- hw0];exact ((Below.refl _ _).alloc (Nat.le_refl _) _).alloc (by simp) _
 have b0:Blk w0 W.heap.size 46 #[ptrV bb]:=by rw [<- hw0];exact (Blk.new _ _ _).alloc _
 have b1:Blk w0 (W.heap.size+1) 56 stZ:=by rw [<- hw0];exact Blk.new' (by simp)
 have z0:w0.cell? ⟨W.heap.size,0,none⟩=some (ptrV bb):=b0.cell 0
 have HT:=Hdz ((h.below hb0).treeOf hq hardK (.inl rfl))
 have HH:=Hdz (Anz h hK)
 have HB0:=Hdz (Anz hb0 (Anz b0 b1))
 have HE:Hid ((W.alloc (.cells #[ptrV bb] 46)).alloc (.cells #[.int .i64 0,.int .i64 0,.int .i64 0,.int .i64 0,.int .i64 0,.slice none 0 0,.slice none 0 0,.int .i64 0] 56)=w0):=hw0
 clear h hK hb0 b0 b1 hw0
 go_enter Tryz.func18,Tryz.ntmps18
 go_upto_region 1 with fail
 rw [HE.out]
 go_wp2_with (fail)
 go_must (refine HT.out.mono ?_)
 rintro e w1 ⟨⟨rt,rfl⟩,hb1⟩
 have HB1:=Hdz hb1
 obtain ⟨w2,hw2⟩:=nmz (((w1.alloc (.cells #[.int .i64 0,.int .i64 0,.int .i64 0,.int .i64 0,.int .i64 0,.slice none 0 0,.slice none 0 0,.int .i64 0] 56)).alloc (.cells #[strV []] 9)).alloc (.cells #[.func (.func 51) #[] #[ptrV W.heap.size,ptrV w1.heap.size,ptrV (w1.heap.size+1)],.func (.func 54) #[] #[ptrV W.heap.size,ptrV w1.heap.size,ptrV (w1.heap.size+1)],.func (.func 55) #[] #[ptrV (w1.heap.size+1),ptrV w1.heap.size],.func (.func 57) #[] #[ptrV W.heap.size,ptrV w1.heap.size,ptrV (w1.heap.size+1)],.func (.func 58) #[] #[ptrV W.heap.size,ptrV w1.heap.size],.func (.func 60) #[] #[ptrV w1.heap.size]] 103))
 have hb2:Below w1.heap.size w1 w2:=by rw [<- hw2];exact (((Below.refl _ _).alloc (Nat.le_refl _) _).alloc (by simp) _).alloc (by simp;omega) _
 have br:Blk w2 (w1.heap.size+2) 103 #[.func (.func 51) #[] #[ptrV W.heap.size,ptrV w1.heap.size,ptrV (w1.heap.size+1)],.func (.func 54) #[] #[ptrV W.heap.size,ptrV w1.heap.size,ptrV (w1.heap.size+1)],.func (.func 55) #[] #[ptrV (w1.heap.size+1),ptrV w1.heap.size],.func (.func 57) #[] #[ptrV W.heap.size,ptrV w1.heap.size,ptrV (w1.heap.size+1)],.func (.func 58) #[] #[ptrV W.heap.size,ptrV w1.heap.size],.func (.func 60) #[] #[ptrV w1.heap.size]]:=by rw [<- hw2];exact Blk.new' (by simp)
 have bs:Blk w2 w1.heap.size 56 stZ:=by rw [<- hw2];exact ((Blk.new _ _ _).alloc _).alloc _
 have bt:Blk w2 (w1.heap.size+1) 9 #[strV []]:=by rw [<- hw2];exact (Blk.new' (by simp)).alloc _
 have hbW:Below W.heap.size W w2:=HB0.out.1.trans ((hb1.mono HB0.out.1.size).trans (hb2.mono (Nat.le_trans HB0.out.1.size hb1.size)))
 have g0:Blk w2 W.heap.size 46 #[ptrV bb]:=(HB0.out.2.1.below' hb1).below' hb2
 have g1:Blk w2 (W.heap.size+1) 56 stZ:=(HB0.out.2.2.below' hb1).below' hb2
 have hg1:W.heap.size+1<w1.heap.size:=by have:=HB0.out.2.2.lt;have:=hb1.size;omega
 have hS:Calls Tryz.prog 36 #[.slice (some ⟨w1.heap.size+2,0,none⟩) 6 6] w2 λ e w'=>e=.returned (.int .i64 0)/\LoadI w1.heap.size (w1.heap.size+1) w2 x y z i u l a es 6 w':=by
  have hlr:=br.lt
  have hlt:=bt.lt
  have hK:=HH.out.2
  have hKn:=HH.out.1.gap hbW
  have hn1:¬ (F w1.heap.size/\¬ (W.heap.size<=w1.heap.size/\w1.heap.size<w2.heap.size)):=λ e=>e.2 ⟨by omega,by omega⟩
  have hn2:¬ (F (w1.heap.size+1)/\¬ (W.heap.size<=w1.heap.size+1/\w1.heap.size+1<w2.heap.size)):=λ e=>e.2 ⟨by omega,by omega⟩
  have hsn:=snB_len hK.snap.1.2 hK.snap.2.2 hK.mem.len.2 hK.mem.i64
  refine steps_ok (w1.heap.size+2) 6 6 [(51,#[ptrV W.heap.size,ptrV w1.heap.size,ptrV (w1.heap.size+1)]),(54,#[ptrV W.heap.size,ptrV w1.heap.size,ptrV (w1.heap.size+1)]),(55,#[ptrV (w1.heap.size+1),ptrV w1.heap.size]),(57,#[ptrV W.heap.size,ptrV w1.heap.size,ptrV (w1.heap.size+1)]),(58,#[ptrV W.heap.size,ptrV w1.heap.size]),(60,#[ptrV w1.heap.size])] rfl (by omega) (LoadI w1.heap.size (w1.heap.size+1) w2 x y z i u l a es) w2 ⟨bs,bt,Keeps.refl _ _⟩ ?hrow ?hcall ?hb
  case hrow =>
   intro k w hI j hj
   have hbr:=br.keeps hI.keeps (λ e=>by omega)
   rw [hbr.cell j]
   simp only [List.length_cons,List.length_nil] at hj
   match j,hj with
   | 0,_=>rfl
   | 1,_=>rfl
   | 2,_=>rfl
   | 3,_=>rfl
   | 4,_=>rfl
   | 5,_=>rfl
  case hb =>
   intro k hk w
   simp only [List.length_cons,List.length_nil] at hk
   match k,hk with
   | 0,_=>rfl
   | 1,_=>rfl
   | 2,_=>rfl
   | 3,_=>rfl
   | 4,_=>rfl
   | 5,_=>rfl
  case hcall =>
   intro k hk w hI
   simp only [List.length_cons,List.length_nil] at hk
   have hw:=kept_two hI.keeps hKn hn1 hn2
   have gw:=g0.keeps hI.keeps (λ e=>by omega)
   have hne:w1.heap.size≠w1.heap.size+1:=by omega
   match k,hk with
   | 0,_ =>
    refine (hw.load1 hq x y z (getP_hard _ _ _) hK.hard.1 hK.hard.2.1 hK.hard.2.2 gw hI.1 hI.2.1 hne).mono ?_
    intro e w' hp
    exact ⟨hp.1,LdS.then hI hp⟩
   | 1,_ =>
    refine (hw.load2 hq i u l (getP_snap _ _ _) hK.snap.1.2 hK.snap.2.2 (by omega) gw hI.1 hI.2.1 hne).mono ?_
    intro e w' hp
    exact ⟨hp.1,LdS.then hI hp⟩
   | 2,_ =>
    refine (load3 l hK.mem hI.1 hI.2.1 hne).mono ?_
    rintro e w' ⟨v,hp,ho⟩
    exact ⟨hp.1,v,LdS.then hI hp,own_base ho hI.2.2.size⟩
   | 3,_ =>
    obtain ⟨v5,hI,hO⟩:=hI
    refine (hw.load4 hq a (getP_app _ _ _) hK.app gw hI.1 hI.2.1 hne).mono ?_
    intro e w' hp
    exact ⟨hp.1,v5,LdS.then hI hp,own_far hO hp.2.2.2 (by omega) (by omega)⟩
   | 4,_ =>
    obtain ⟨v5,hI,hO⟩:=hI
    refine (hw.load5 hq hK.log gw hI.1 hI.2.1 hne).mono ?_
    rintro e w' ⟨v,hp,ho⟩
    exact ⟨hp.1,v5,v,LdS.then hI hp,own_far hO hp.2.2.2 (by omega) (by omega),own_base ho hI.2.2.size⟩
   | 5,_ =>
    obtain ⟨v5,v6,hI,hO,hO6⟩:=hI
    have hsl:=Sl.of_own hO6
    have hnil:∀ A m c,v6=.slice A m c->A=none->m=0:=by
     intro A m c e1 e2
     rcases hO6.2 with ⟨e3,e4⟩ | ⟨gg,cap,cur,e3,_⟩
     ·rw [e1] at e3;cases e3;rfl
     ·rw [e1,e2] at e3;cases e3
    obtain ⟨A,c,rfl,-⟩:=hsl
    refine (load6 i u hI.1 (Sl.of_own hO6) rfl (hnil A _ c rfl) (by have:=hK.log.len;omega) hK.snap.1.1 hK.snap.2.1 (λ o ho=>(hK.log.ok o ho).2.2.1) (λ o ho=>by have:=(hK.log.ok o ho).1.data;omega) hK.foll).mono ?_
    rintro e w' ⟨rfl,hb⟩
    exact ⟨rfl,_,_,⟨hI.1.below' hb,hI.2.1.below' hb,hI.2.2.then hb⟩,own_below hO hb,own_below hO6 hb⟩
 have HS:=Hdz hS
 have HE2:=Hdz hw2
 have HG:=Hdz (Anz hbW (Anz g1 hg1))
 have hlt2:=br.lt
 have HLt:=Hdz hlt2
 clear hS br bs bt hbW g0 g1 hb1 hb2 hw2 hg1 hlt2
 go_wp2_with (fail)
 rw [HE2.out]
 go_must (refine HS.out.mono ?_)
 rintro e w3 ⟨rfl,hI⟩
 obtain ⟨v5,v6,hI,hO,hO6⟩:=hI
 obtain ⟨A5,d5,rfl,-⟩:=Sl.of_own hO
 obtain ⟨A6,d6,rfl,-⟩:=Sl.of_own hO6
 have b3:Blk w3 (W.heap.size+1) 56 stZ:=HG.out.2.1.keeps hI.2.2 λ e=>by have:=HG.out.2.2;omega
 have y0:=hI.1.cell 0
 have y1:=hI.1.cell 1
 have y2:=hI.1.cell 2
 have y3:=hI.1.cell 3
 have y4:=hI.1.cell 4
 have y5:=hI.1.cell 5
 have y6:=hI.1.cell 6
 have y7:=hI.1.cell 7
 have x0:w3.cell? ⟨W.heap.size+1,0,none⟩=some (.int .i64 0):=b3.cell 0
 have x1:w3.cell? ⟨W.heap.size+1,1,none⟩=some (.int .i64 0):=b3.cell 1
 have x2:w3.cell? ⟨W.heap.size+1,2,none⟩=some (.int .i64 0):=b3.cell 2
 have x3:w3.cell? ⟨W.heap.size+1,3,none⟩=some (.int .i64 0):=b3.cell 3
 have x4:w3.cell? ⟨W.heap.size+1,4,none⟩=some (.int .i64 0):=b3.cell 4
 have x5:w3.cell? ⟨W.heap.size+1,5,none⟩=some (.slice none 0 0):=b3.cell 5
 have x6:w3.cell? ⟨W.heap.size+1,6,none⟩=some (.slice none 0 0):=b3.cell 6
 have x7:w3.cell? ⟨W.heap.size+1,7,none⟩=some (.int .i64 0):=b3.cell 7
 have f0:=b3.frozen 0
 have f1:=b3.frozen 1
 have f2:=b3.frozen 2
 have f3:=b3.frozen 3
 have f4:=b3.frozen 4
 have f5:=b3.frozen 5
 have f6:=b3.frozen 6
 have f7:=b3.frozen 7
 have HB3:=Hdz b3
 have HI:=Hdz (Anz hI.2.2 (Anz hO hO6))
 clear hI hO hO6 b3
 go_wp2_with (fail)
 have hk8:=keeps8 (w1:=w3) (b:=W.heap.size+1) (.int .i64 x) (.int .i64 y) (.int .i64 z) (.int .i64 i) (.int .i64 u) (.slice A5 l.length d5) (.slice A6 es.length d6) (.int .i64 a)
 have hb8:=blk8 (.int .i64 x) (.int .i64 y) (.int .i64 z) (.int .i64 i) (.int .i64 u) (.slice A5 l.length d5) (.slice A6 es.length d6) (.int .i64 a) HB3.out
 refine bodyPost_ret (res_row [.int .i64 x,.int .i64 y,.int .i64 z,.int .i64 i,.int .i64 u,.slice A5 l.length d5,.slice A6 es.length d6,.int .i64 a] rfl rfl rfl (by kernel_rfl) hb8) rfl ?_
 have hz:=HG.out.1.size
 have hz2:=HG.out.2.2
 have hz3:=HLt.out
 have hkW:Keeps (λ k=>W.heap.size<=k) W _:=((Keeps.of_below (S:=λ k=>W.heap.size<=k) HG.out.1).trans HI.out.1 λ j hj e=>by rcases e with e | e<;>omega).trans hk8 λ j hj e=>by omega
 refine ⟨_,_,rfl,own_base (own_keeps HI.out.2.1 hk8 λ k e e2=>?_) hz,own_base (own_keeps HI.out.2.2 hk8 λ k e e2=>?_) hz,hkW.below (Nat.le_refl _) λ j hj e=>by omega⟩
 ·have:=(HI.out.2.1.lt k e).1
  omega
 ·have:=(HI.out.2.2.lt k e).1
  omega
end
end Go.Ev
