/-
  Texts of this claim.
-/
import Derived.Test.YtmfoiaaehkandaaGreatDoorMBGwKeepLog
import Derived.Test.YtmfoiaaehkandaaGreatDoorMBGwKeepSteps
set_option linter.unusedVariables false
set_option linter.unusedSimpArgs false
namespace Go.Ev
open Go.Proofs Go.RowKit
section
variable {F F0:Nat->Prop} {bb p q:Nat} {H:List Pair} {E:DB} {W W':World}
theorem Hf.gap {most rn:Nat} {L:List Bk} (h:Hf F p bb most rn L W) (hb:Below W.heap.size W W'):Hf (λ k=>F k/\¬ (W.heap.size<=k/\k<W'.heap.size)) p bb most rn L W':=
 h.fence (G:=λ _=>False) (Keeps.of_below hb) (λ _ _ _ e=>e) (λ k hk e=>⟨e,λ hh=>by omega⟩) λ k hk=>⟨h.size k (Nat.le_trans hb.size hk),λ hh=>by omega⟩
def initH:Nat->List Int->List Pair
 | 1,_=>[]
 | 2,_=>[(hardK,varsB [0,0,0])]
 | 3,l=>[(hardK,varsB [0,0,0]),(snapK,snB 0 0 l)]
 | _,l=>keptP (varsB [0,0,0]) (snB 0 0 l) (varsB [0])
def InitI (F:Nat->Prop) (p bb:Nat) (l:List Int) (w2:World):Nat->World->Prop
 | 0,w=>Hf F p bb 3000 0 [] w/\Keeps F w2 w
 | i+1,w=>Kn F bb (2+i) (initH (i+1) l) (0,[]) w/\Keeps F w2 w
theorem InitI.keeps {l:List Int} {w2 w:World}:∀ {i:Nat},InitI F p bb l w2 i w->Keeps F w2 w
 | 0,h=>h.2
 | _+1,h=>h.2
theorem snB_len {i u:Int} (hi:I64 i) (hu:I64 u) {l:List Int} (hl:l.length<=9) (hI:∀ x∈l,I64 x):(snB i u l).length<=200:=by
 have h1:=varsB_len [i,u] (by intro x hx;simp only [List.mem_cons,List.not_mem_nil,or_false] at hx;rcases hx with rfl | rfl;exact hi;exact hu)
 have h2:=varsB_len l hI
 have h3:=varsB_len [(l.length:Int)] (by intro x hx;simp at hx;subst hx;exact ⟨by omega,by omega⟩)
 simp only [snB,memB,List.length_append,List.length_cons,List.length_nil] at h1 h3 ⊢
 omega
theorem kept_small {h s a:Bytes} (h1:h.length<=200) (h2:s.length<=200) (h3:a.length<=200):(keptP h s a).length<=41/\sumV (keptP h s a)<=90000:=by
 refine ⟨by simp [keptP],?_⟩
 simp only [keptP,sumV]
 omega
theorem ValidM.i64 {l:List Int} (h:ValidM l):∀ x∈l,I64 x:=by
 intro x hx
 obtain ⟨i,hi,rfl⟩:=List.getElem_of_mem hx
 have:=h.ids i hi
 exact ⟨by omega,by omega⟩
set_option maxHeartbeats 8000000 in
set_option maxRecDepth 100000 in
theorem Hf.initK (h:Hf F0 p bb 3000 0 [] W) (A:Option Addr) (n c:Nat) (l:List Int) (hv:Sl W 1 (.slice A n c) n (intsV l)) (hl:l.length=n) (hA:∀ b o,A=some ⟨b,o,none⟩->¬ F0 b) (hM:ValidM l) :
  Calls Tryz.prog 14 #[ptrV bb,.slice A n c] W (LogDone F0 bb 5 (keptP (varsB [0,0,0]) (snB 0 0 l) (varsB [0])) (0,[]) W):=by
 have hmf:∀ (fn:Fn) (first cap:Array Value) (w:World),(Instr.makeFunc fn first cap).run Tryz.prog w=.ok (.func fn first cap) w:=λ _ _ _ _=>rfl
 have hn9:n<=9:=by have:=hM.len;omega
 have HH:=Hdz h
 obtain ⟨w0,hw0⟩:=nmz ((W.alloc (.cells #[ptrV bb] 46)).alloc (.cells #[.slice A n c] 35))
 have hb0:Below W.heap.size W w0:=by rw [<- hw0];exact ((Below.refl _ _).alloc (Nat.le_refl _) _).alloc (by simp) _
 have b0:Blk w0 W.heap.size 46 #[ptrV bb]:=by rw [<- hw0];exact (Blk.new _ _ _).alloc _
 have b1:Blk w0 (W.heap.size+1) 35 #[.slice A n c]:=by rw [<- hw0];exact Blk.new' (by simp)
 have z0:w0.cell? ⟨W.heap.size,0,none⟩=some (ptrV bb):=b0.cell 0
 have z1:w0.cell? ⟨W.heap.size+1,0,none⟩=some (.slice A n c):=b1.cell 0
 have HV:=Hdz (validM_ok A n c l w0 (hv.below hb0) hl hM)
 have hT:Calls Tryz.prog 35 #[ptrV bb,strV hardK] w0 (TreeBP [] hardK w0):=by
  obtain ⟨S,root,g1,g2⟩:=(h.below hb0).ex
  exact treeB_ok hardK g1 (by omega) (by decide) (by decide)
 have HT:=Hdz hT
 have HVl:=Hdz (Anz hv (Anz hl (Anz hA hM)))
 have HB0:=Hdz (Anz hb0 (Anz b0 b1))
 have HW0:Hid (w0.heap.size=W.heap.size+2):=by rw [<- hw0];simp [Hid]
 have HE:=Hdz hw0
 clear h hv hl hA hM hT hb0 b0 b1 hw0
 go_enter Tryz.func14,Tryz.ntmps14
 go_upto_region 1 with fail
 rw [HE.out]
 go_wp2_with (fail)
 go_must (refine HV.out.mono ?_)
 rintro e w1 ⟨rfl,rfl⟩
 go_wp2_with (fail)
 go_must (refine HT.out.mono ?_)
 rintro e w1 ⟨he,hb1⟩
 obtain rfl:e=.returned (.tuple #[.int .i64 0,.int .i64 7]):=by
  rcases he with ⟨b,h1,_⟩ | ⟨_,h⟩
  ·cases h1
  ·exact h
 have HB1:=Hdz hb1
 obtain ⟨w2,hw2⟩:=nmz (w1.alloc (.cells #[.func (.func 37) #[] #[ptrV W.heap.size],.func (.func 39) #[] #[ptrV W.heap.size],.func (.func 41) #[] #[ptrV W.heap.size,ptrV (W.heap.size+1)],.func (.func 43) #[] #[ptrV W.heap.size]] 103))
 have hb2:Below w1.heap.size w1 w2:=by rw [<- hw2];exact (Below.refl _ _).alloc (Nat.le_refl _) _
 have br:Blk w2 w1.heap.size 103 #[.func (.func 37) #[] #[ptrV W.heap.size],.func (.func 39) #[] #[ptrV W.heap.size],.func (.func 41) #[] #[ptrV W.heap.size,ptrV (W.heap.size+1)],.func (.func 43) #[] #[ptrV W.heap.size]]:=by rw [<- hw2];exact Blk.new _ _ _
 have hbW:Below W.heap.size W w2:=HB0.out.1.trans ((hb1.mono HB0.out.1.size).trans (hb2.mono (Nat.le_trans HB0.out.1.size hb1.size)))
 have g0:Blk w2 W.heap.size 46 #[ptrV bb]:=(HB0.out.2.1.below' hb1).below' hb2
 have g1:Blk w2 (W.heap.size+1) 35 #[.slice A n c]:=(HB0.out.2.2.below' hb1).below' hb2
 have hS:Calls Tryz.prog 36 #[.slice (some ⟨w1.heap.size,0,none⟩) 4 4] w2 (LogDone F0 bb 5 (keptP (varsB [0,0,0]) (snB 0 0 l) (varsB [0])) (0,[]) W):=by
  have hI0:InitI (λ k=>F0 k/\¬ (W.heap.size<=k/\k<w2.heap.size)) p bb l w2 0 w2:=⟨HH.out.gap hbW,Keeps.refl _ _⟩
  have hlt0:=g0.lt
  have hlt1:=g1.lt
  have hlr:=br.lt
  have hsz:W.heap.size<=w1.heap.size:=Nat.le_trans HB0.out.1.size hb1.size
  have hin:∀ {k:Nat},W.heap.size<=k->k<w2.heap.size->¬ (F0 k/\¬ (W.heap.size<=k/\k<w2.heap.size)):=λ h1 h2 e=>e.2 ⟨h1,h2⟩
  refine (steps_ok w1.heap.size 4 4 [(37,#[ptrV W.heap.size]),(39,#[ptrV W.heap.size]),(41,#[ptrV W.heap.size,ptrV (W.heap.size+1)]),(43,#[ptrV W.heap.size])] rfl (by omega) (InitI (λ k=>F0 k/\¬ (W.heap.size<=k/\k<w2.heap.size)) p bb l w2) w2 hI0 ?hrow ?hcall ?hb).mono ?_
  case hrow =>
   intro i w hI j hj
   have hbr:=br.keeps hI.keeps (hin hsz hlr)
   rw [hbr.cell j]
   simp only [List.length_cons,List.length_nil] at hj
   match j,hj with
   | 0,_=>rfl
   | 1,_=>rfl
   | 2,_=>rfl
   | 3,_=>rfl
  case hb =>
   intro i hi w
   simp only [List.length_cons,List.length_nil] at hi
   match i,hi with
   | 0,_=>rfl
   | 1,_=>rfl
   | 2,_=>rfl
   | 3,_=>rfl
  case hcall =>
   intro i hi w hI
   simp only [List.length_cons,List.length_nil] at hi
   have y0:w.cell? ⟨W.heap.size,0,none⟩=some (ptrV bb):=(g0.keeps hI.keeps (hin (Nat.le_refl _) hlt0)).cell 0
   have y1:w.cell? ⟨W.heap.size+1,0,none⟩=some (.slice A n c):=(g1.keeps hI.keeps (hin (by omega) hlt1)).cell 0
   have hI3:∀ x∈[(0:Int),0,0],I64 x:=by intro x hx;simp at hx;subst hx;exact ⟨by omega,by omega⟩
   have hI1:∀ x∈[(0:Int)],I64 x:=by intro x hx;simp at hx;subst hx;exact ⟨by omega,by omega⟩
   have l1:=varsB_len [0,0,0] hI3
   have l2:=varsB_len [0] hI1
   have hz:I64 0:=⟨by omega,by omega⟩
   have l3:=snB_len hz hz HVl.out.2.2.2.len.2 HVl.out.2.2.2.i64
   simp only [List.length_cons,List.length_nil] at l1 l2
   match i,hi with
   | 0,_ =>
    refine (hI.1.init1 y0).mono ?_
    rintro e w' ⟨rfl,hk,hkk⟩
    exact ⟨rfl,hk,hI.2.go hkk⟩
   | 1,_ =>
    have h1:Kn (λ k=>F0 k/\¬ (W.heap.size<=k/\k<w2.heap.size)) bb 2 [] (0,[]) w:=hI.1
    refine (h1.init2 (by omega) y0 ?_).mono ?_
    ·show (insP hardK _ []).length<=41/\_
     rw [insP_1]
     exact ⟨by simp,by simp only [sumV];omega⟩
    rintro e w' ⟨rfl,hk,hkk⟩
    have hk:Kn _ bb 3 (insP hardK (varsB [0,0,0]) []) (0,[]) w':=hk
    rw [insP_1] at hk
    exact ⟨rfl,hk,hI.2.go hkk⟩
   | 2,_ =>
    have hvw:Sl w 1 (.slice A n c) n (intsV l):=(HVl.out.1.below hbW).keeps hI.2 λ A1 m1 c1 b o e1 e2 e=>by
     cases e1
     exact HVl.out.2.2.1 b o e2 e.1
    have h1:Kn (λ k=>F0 k/\¬ (W.heap.size<=k/\k<w2.heap.size)) bb 3 [(hardK,varsB [0,0,0])] (0,[]) w:=hI.1
    refine (h1.init3 (by omega) y0 A n c l y1 hvw HVl.out.2.1 HVl.out.2.2.2.i64 (by omega) ?_).mono ?_
    ·show (insP snapK _ [(hardK,varsB [0,0,0])]).length<=41/\_
     rw [insP_2]
     exact ⟨by simp,by simp only [sumV];omega⟩
    rintro e w' ⟨rfl,hk,hkk⟩
    have hk:Kn _ bb 4 (insP snapK (snB 0 0 l) [(hardK,varsB [0,0,0])]) (0,[]) w':=hk
    rw [insP_2] at hk
    exact ⟨rfl,hk,hI.2.go hkk⟩
   | 3,_ =>
    have h1:Kn (λ k=>F0 k/\¬ (W.heap.size<=k/\k<w2.heap.size)) bb 4 [(hardK,varsB [0,0,0]),(snapK,snB 0 0 l)] (0,[]) w:=hI.1
    refine (h1.init4 (by omega) y0 ?_).mono ?_
    ·show (insP appK _ [(hardK,varsB [0,0,0]),(snapK,snB 0 0 l)]).length<=41/\_
     rw [insP_3]
     exact kept_small (by omega) l3 (by omega)
    rintro e w' ⟨rfl,hk,hkk⟩
    have hk:Kn _ bb 5 (insP appK (varsB [0]) [(hardK,varsB [0,0,0]),(snapK,snB 0 0 l)]) (0,[]) w':=hk
    rw [insP_3] at hk
    exact ⟨rfl,hk,hI.2.go hkk⟩
  rintro e w' ⟨rfl,hk,hkk⟩
  exact ⟨rfl,(show Kn _ bb 5 (keptP (varsB [0,0,0]) (snB 0 0 l) (varsB [0])) (0,[]) w' from hk).less λ k e=>e.1,(Keeps.of_below (S:=F0) hbW).go (hkk.mono λ k _ e=>e.1)⟩
 have HS:=Hdz hS
 have HE2:=Hdz hw2
 clear hS br hbW g0 g1 hb1 hb2 he hw2
 go_wp2_with (fail)
 rw [HE2.out]
 go_must (refine HS.out.mono ?_)
 rintro e w3 ⟨rfl,hk,hkk⟩
 have HK:=Hdz hk
 have HKK:=Hdz hkk
 clear hk hkk
 go_wp2_with (fail)
 go_ret
 exact ⟨rfl,HK.out,HKK.out⟩
end
end Go.Ev
