/-
  Texts of this claim.
-/
import Derived.Test.YtmfoiaaehkandaaGreatDoorMOGwSess4
import Derived.Deep.DeepCutAuto
import Derived.Deep.RegionWith
set_option linter.unusedVariables false
set_option linter.unusedSimpArgs false
namespace Go.Ev
open Go.Proofs Go.RowKit
structure KOp where
 kind:Int
 ses:Int
 seq:Int
 key:Bytes
 val:Bytes
 old:Bytes
deriving DecidableEq
abbrev kopA (o:KOp):Array Value:=#[.int .i64 o.kind,.int .i64 o.ses,.int .i64 o.seq,strV o.key,strV o.val,strV o.old]
abbrev kopV (o:KOp):Value:=.agg (kopA o)
def plainO (o:KOp):KOp:=
 if o.kind=1 then ⟨o.kind,o.ses,o.seq,o.key,o.val,[]⟩ else if o.kind=2 then ⟨o.kind,o.ses,o.seq,o.key,[],[]⟩ else if o.kind=3 then o
 else if o.kind=4 then ⟨o.kind,0,0,o.key,[],[]⟩ else if o.kind=5 then ⟨o.kind,0,o.seq,[],[],[]⟩ else ⟨o.kind,o.ses,0,[],[],[]⟩
def keyK (s:Bytes):Bool:=decide (1<=s.length) && decide (s.length<=38)
def rightK (o:KOp):Bool:=decide (1<=o.kind) && decide (o.kind<=6) && decide (o=plainO o) && !(decide (o.kind<=3) && (decide (o.ses<1) || decide (o.seq<1))) && (decide (4<o.kind) || keyK o.key)
theorem isKey_k (s:Bytes) (w:World) (hs:s.length<=9223372036854775807):Calls Tryz.prog 157 #[strV s] w λ e w'=>e=.returned (.bool (keyK s))/\w=w':=by
 obtain ⟨n,hn⟩:=nmz (s.length)
 unfold keyK
 rw [hn]
 by_cases h0:s=[]
 ·subst h0
  obtain rfl:n=0:=by rw [<- hn];rfl
  go_enter Tryz.func157,Tryz.ntmps157
  go_wp2
  go_ret
  exact ⟨rfl,rfl⟩
 ·have hne:(s==[])=false:=beq_eq_false_iff_ne.2 h0
  have hne2:(s != [])=true:=by simp [h0]
  have h1:1<=n:=by rw [<- hn];exact List.length_pos_iff.2 h0
  by_cases h38:n<=38
  ·have h38':(n:Int)<=38:=by omega
   have HE:=Hdz (Anz h1 h38)
   clear h0 h1
   go_enter Tryz.func157,Tryz.ntmps157
   go_wp2
   go_ret
   exact ⟨by simp [HE.out.1,HE.out.2],rfl⟩
  ·have h38':¬ (n:Int)<=38:=by omega
   have HE:=Hdz h38
   clear h0 h1
   go_enter Tryz.func157,Tryz.ntmps157
   go_wp2
   go_ret
   exact ⟨by simp [HE.out],rfl⟩
theorem plainO_kind (o:KOp):(plainO o).kind=o.kind:=by
 unfold plainO
 split
 ·rfl
 ·split
  ·rfl
  ·split
   ·rfl
   ·split
    ·rfl
    ·split<;>rfl
def PlainAt (w:World) (o:KOp) (wx:World):Prop:=Hid (Blk wx (w.heap.size+1) 76 (kopA (plainO o)))/\Hid (Blk wx w.heap.size 76 (kopA o))/\Hid (Below w.heap.size w wx)
set_option maxHeartbeats 16000000 in
set_option maxRecDepth 100000 in
theorem right_ok (o:KOp) (w:World) (hkl:o.key.length<=9223372036854775807) :
  Calls Tryz.prog 106 #[kopV o] w λ e w'=>e=.returned (.bool (rightK o))/\Below w.heap.size w w':=by
 have HIs:=Hdz (λ W=>isKey_k o.key W hkl)
 obtain ⟨W,hW⟩:=nmz ((w.alloc (.cells (kopA o) 76)).alloc (.cells #[.int .i64 o.kind,.int .i64 0,.int .i64 0,strV [],strV [],strV []] 76))
 have bx:Blk W w.heap.size 76 (kopA o):=by rw [<- hW];exact (Blk.new _ _ _).alloc _
 have by':Blk W (w.heap.size+1) 76 #[.int .i64 o.kind,.int .i64 0,.int .i64 0,strV [],strV [],strV []]:=by rw [<- hW];exact Blk.new' (by simp)
 have HBW:Hid (Below w.heap.size w W):=by show Below _ _ _;rw [<- hW];exact ((Below.refl _ _).alloc (Nat.le_refl _) _).alloc (by simp) _
 have HW:=Hdz hW
 have HX:=Hdz bx
 have HY:=Hdz by'
 have x0:=bx.cell 0
 have x1:=bx.cell 1
 have x2:=bx.cell 2
 have x3:=bx.cell 3
 have x4:=bx.cell 4
 have x5:=bx.cell 5
 have y0:=by'.cell 0
 have y1:=by'.cell 1
 have y2:=by'.cell 2
 have y3:=by'.cell 3
 have y4:=by'.cell 4
 have y5:=by'.cell 5
 have f0:=by'.frozen 0
 have f1:=by'.frozen 1
 have f2:=by'.frozen 2
 have f3:=by'.frozen 3
 have f4:=by'.frozen 4
 have f5:=by'.frozen 5
 clear bx by' hW hkl
 go_enter Tryz.func106,Tryz.ntmps106
 go_upto_block 0 with fail
 rw [HW.out]
 by_cases hin:1<=o.kind/\o.kind<=6
 case neg =>
  have hr:rightK o=false:=by
   unfold rightK
   by_cases h:1<=o.kind
   ·have:¬ o.kind<=6:=λ e=>hin ⟨h,e⟩
    simp [this]
   ·simp [h]
  have k1:(o.kind==1)=false:=beq_eq_false_iff_ne.2 λ e=>hin (by omega)
  have k2:(o.kind==2)=false:=beq_eq_false_iff_ne.2 λ e=>hin (by omega)
  have k3:(o.kind==3)=false:=beq_eq_false_iff_ne.2 λ e=>hin (by omega)
  have k4:(o.kind==4)=false:=beq_eq_false_iff_ne.2 λ e=>hin (by omega)
  have k5:(o.kind==5)=false:=beq_eq_false_iff_ne.2 λ e=>hin (by omega)
  have k6:(o.kind==6)=false:=beq_eq_false_iff_ne.2 λ e=>hin (by omega)
  have HR:=Hdz hr
  clear hin hr
  go_wp2_with (fail)
  go_ret
  exact ⟨by rw [HR.out];rfl,HBW.out⟩
 go_cut [3] (λ s3 wx=>s3=ptrV (w.heap.size+1)/\PlainAt w o wx)
 case first =>
  have hkk:o.kind=1\/o.kind=2\/o.kind=3\/o.kind=4\/o.kind=5\/o.kind=6:=by omega
  have HBX:Hid (∀ cs wx,Blk wx (w.heap.size+1) 76 cs->Keeps (λ k=>k=w.heap.size+1) W wx->cs=kopA (plainO o)->PlainAt w o wx):=λ cs wx h1 h2 h3=>⟨by rw [<- h3];exact h1,HX.out.keeps h2 (by omega),HBW.out.trans (h2.below HBW.out.size λ i hi e=>by omega)⟩
  have HK0:Hid (Keeps (λ k=>k=w.heap.size+1) W W):=Keeps.refl _ _
  have hp:∀ c:Int,o.kind=c->∀ p:KOp,plainO o=p->True:=λ _ _ _ _=>trivial
  clear hp hin
  rcases hkk with hk | hk | hk | hk | hk | hk
  ·have k1:(o.kind==1)=true:=by simp [hk]
   have hp:plainO o=⟨o.kind,o.ses,o.seq,o.key,o.val,[]⟩:=by unfold plainO;rw [if_pos hk]
   have HP:=Hdz hp
   clear hp hk
   go_upto_region 5 with fail
   go_region_with (fail)
   all_goals (go_wp2_with (fail);go_meet)
   all_goals exact ⟨rfl,HBX.out _ _ ((((HY.out.set 1 _).set 2 _).set 3 _).set 4 _).drew ((((HK0.out.setCell (p:=⟨w.heap.size+1,1,none⟩) (λ _=>rfl) _).setCell (p:=⟨w.heap.size+1,2,none⟩) (λ _=>rfl) _).setCell (p:=⟨w.heap.size+1,3,none⟩) (λ _=>rfl) _).setCell (p:=⟨w.heap.size+1,4,none⟩) (λ _=>rfl) _).drew (by rw [HP.out];rfl)⟩
  ·have k1:(o.kind==1)=false:=by simp [hk]
   have k2:(o.kind==2)=true:=by simp [hk]
   have hp:plainO o=⟨o.kind,o.ses,o.seq,o.key,[],[]⟩:=by unfold plainO;rw [if_neg (by omega),if_pos hk]
   have HP:=Hdz hp
   clear hp hk
   go_upto_region 7 with fail
   go_region_with (fail)
   all_goals (go_wp2_with (fail);go_meet)
   all_goals exact ⟨rfl,HBX.out _ _ (((HY.out.set 1 _).set 2 _).set 3 _).drew (((HK0.out.setCell (p:=⟨w.heap.size+1,1,none⟩) (λ _=>rfl) _).setCell (p:=⟨w.heap.size+1,2,none⟩) (λ _=>rfl) _).setCell (p:=⟨w.heap.size+1,3,none⟩) (λ _=>rfl) _).drew (by rw [HP.out];rfl)⟩
  ·have k1:(o.kind==1)=false:=by simp [hk]
   have k2:(o.kind==2)=false:=by simp [hk]
   have k3:(o.kind==3)=true:=by simp [hk]
   have hp:plainO o=o:=by unfold plainO;rw [if_neg (by omega),if_neg (by omega),if_pos hk]
   have HP:=Hdz hp
   clear hp hk
   go_wp2_with (fail)
   go_meet
   exact ⟨rfl,HBX.out _ _ ((((((HY.out.set 0 _).set 1 _).set 2 _).set 3 _).set 4 _).set 5 _) ((((((HK0.out.setCell (p:=⟨w.heap.size+1,0,none⟩) (λ _=>rfl) _).setCell (p:=⟨w.heap.size+1,1,none⟩) (λ _=>rfl) _).setCell (p:=⟨w.heap.size+1,2,none⟩) (λ _=>rfl) _).setCell (p:=⟨w.heap.size+1,3,none⟩) (λ _=>rfl) _).setCell (p:=⟨w.heap.size+1,4,none⟩) (λ _=>rfl) _).setCell (p:=⟨w.heap.size+1,5,none⟩) (λ _=>rfl) _) (by rw [HP.out];rfl)⟩
  ·have k1:(o.kind==1)=false:=by simp [hk]
   have k2:(o.kind==2)=false:=by simp [hk]
   have k3:(o.kind==3)=false:=by simp [hk]
   have k4:(o.kind==4)=true:=by simp [hk]
   have hp:plainO o=⟨o.kind,0,0,o.key,[],[]⟩:=by unfold plainO;rw [if_neg (by omega),if_neg (by omega),if_neg (by omega),if_pos hk]
   have HP:=Hdz hp
   clear hp hk
   go_wp2_with (fail)
   go_meet
   exact ⟨rfl,HBX.out _ _ (HY.out.set 3 _) (HK0.out.setCell (p:=⟨w.heap.size+1,3,none⟩) (λ _=>rfl) _) (by rw [HP.out];rfl)⟩
  ·have k1:(o.kind==1)=false:=by simp [hk]
   have k2:(o.kind==2)=false:=by simp [hk]
   have k3:(o.kind==3)=false:=by simp [hk]
   have k4:(o.kind==4)=false:=by simp [hk]
   have k5:(o.kind==5)=true:=by simp [hk]
   have hp:plainO o=⟨o.kind,0,o.seq,[],[],[]⟩:=by unfold plainO;rw [if_neg (by omega),if_neg (by omega),if_neg (by omega),if_neg (by omega),if_pos hk]
   have HP:=Hdz hp
   clear hp hk
   go_wp2_with (fail)
   go_meet
   exact ⟨rfl,HBX.out _ _ (HY.out.set 2 _) (HK0.out.setCell (p:=⟨w.heap.size+1,2,none⟩) (λ _=>rfl) _) (by rw [HP.out];rfl)⟩
  ·have k1:(o.kind==1)=false:=by simp [hk]
   have k2:(o.kind==2)=false:=by simp [hk]
   have k3:(o.kind==3)=false:=by simp [hk]
   have k4:(o.kind==4)=false:=by simp [hk]
   have k5:(o.kind==5)=false:=by simp [hk]
   have k6:(o.kind==6)=true:=by simp [hk]
   have hp:plainO o=⟨o.kind,o.ses,0,[],[],[]⟩:=by unfold plainO;rw [if_neg (by omega),if_neg (by omega),if_neg (by omega),if_neg (by omega),if_neg (by omega)]
   have HP:=Hdz hp
   clear hp hk
   go_wp2_with (fail)
   go_meet
   exact ⟨rfl,HBX.out _ _ (HY.out.set 1 _) (HK0.out.setCell (p:=⟨w.heap.size+1,1,none⟩) (λ _=>rfl) _) (by rw [HP.out];rfl)⟩
 case rest =>
  clear x0 x1 x2 x3 x4 x5 y0 y1 y2 y3 y4 y5 f0 f1 f2 f3 f4 f5 HW HX HY HBW
  obtain ⟨rfl,hY,hX,hB⟩:=hcut
  obtain ⟨p,hp⟩:=nmz (plainO o)
  rw [hp] at hY
  have hpk:p.kind=o.kind:=by rw [<- hp];exact plainO_kind o
  have x0:=hX.out.cell 0
  have x1:=hX.out.cell 1
  have x2:=hX.out.cell 2
  have x3:=hX.out.cell 3
  have x4:=hX.out.cell 4
  have x5:=hX.out.cell 5
  by_cases heq:o=p
  ·have hHid:Hid (o=plainO o):=by show o=plainO o;rw [hp];exact heq
   rw [<- heq] at hY
   clear hp hpk heq
   have y0:=hY.out.cell 0
   have y1:=hY.out.cell 1
   have y2:=hY.out.cell 2
   have y3:=hY.out.cell 3
   have y4:=hY.out.cell 4
   have y5:=hY.out.cell 5
   have HRi:Hid (rightK o=(!(decide (o.kind<=3) && (decide (o.ses<1) || decide (o.seq<1))) && (decide (4<o.kind) || keyK o.key))):=by
    show rightK o=_
    unfold rightK
    rw [decide_eq_true hin.1,decide_eq_true hin.2,decide_eq_true hHid.out]
    simp
   clear hin
   by_cases hk3:o.kind<=3
   ·have h4:¬ 4<o.kind:=by omega
    by_cases hs:o.ses<1
    ·have HE:Hid (rightK o=false):=by show rightK o=false;rw [HRi.out,decide_eq_true hk3,decide_eq_true hs];simp
     go_wp2_with (fail)
     go_ret
     exact ⟨by rw [HE.out];rfl,hB.out⟩
    ·by_cases hq:o.seq<1
     ·have HE:Hid (rightK o=false):=by show rightK o=false;rw [HRi.out,decide_eq_true hk3,decide_eq_true hq];simp
      go_wp2_with (fail)
      go_ret
      exact ⟨by rw [HE.out];rfl,hB.out⟩
     ·have HE:Hid (rightK o=keyK o.key):=by show rightK o=_;rw [HRi.out,decide_eq_false hs,decide_eq_false hq,decide_eq_false h4];simp
      go_wp2_with (fail)
      go_must (refine (HIs.out _).mono ?_)
      rintro e w2 ⟨rfl,rfl⟩
      go_wp2_with (fail)
      go_ret
      exact ⟨by rw [HE.out];rfl,hB.out⟩
   ·by_cases h4:4<o.kind
    ·have HE:Hid (rightK o=true):=by show rightK o=_;rw [HRi.out,decide_eq_false hk3,decide_eq_true h4];simp
     go_wp2_with (fail)
     go_ret
     exact ⟨by rw [HE.out];rfl,hB.out⟩
    ·have HE:Hid (rightK o=keyK o.key):=by show rightK o=_;rw [HRi.out,decide_eq_false hk3,decide_eq_false h4];simp
     go_wp2_with (fail)
     go_must (refine (HIs.out _).mono ?_)
     rintro e w2 ⟨rfl,rfl⟩
     go_wp2_with (fail)
     go_ret
     exact ⟨by rw [HE.out];rfl,hB.out⟩
  ·have HRf:Hid (rightK o=false):=by
    show rightK o=false
    unfold rightK
    rw [hp,decide_eq_false heq]
    simp
   have y0:=hY.out.cell 0
   have y1:=hY.out.cell 1
   have y2:=hY.out.cell 2
   have y3:=hY.out.cell 3
   have y4:=hY.out.cell 4
   have y5:=hY.out.cell 5
   have hne:¬ (o.ses=p.ses/\o.seq=p.seq/\o.key=p.key/\o.val=p.val/\o.old=p.old):=λ e=>heq (by cases o;cases p;simp_all)
   have HNe:=Hdz hne
   have hpk':=hpk.symm
   clear hp heq hin hne hpk
   by_cases e1:o.ses=p.ses
   ·by_cases e2:o.seq=p.seq
    ·by_cases e3:o.key=p.key
     ·by_cases e4:o.val=p.val
      ·have e5:¬ o.old=p.old:=λ e5=>HNe.out ⟨e1,e2,e3,e4,e5⟩
       go_wp2_with (fail)
       go_ret
       exact ⟨by rw [HRf.out];rfl,hB.out⟩
      ·go_wp2_with (fail)
       go_ret
       exact ⟨by rw [HRf.out];rfl,hB.out⟩
     ·go_wp2_with (fail)
      go_ret
      exact ⟨by rw [HRf.out];rfl,hB.out⟩
    ·go_wp2_with (fail)
     go_ret
     exact ⟨by rw [HRf.out];rfl,hB.out⟩
   ·go_wp2_with (fail)
    go_ret
    exact ⟨by rw [HRf.out];rfl,hB.out⟩
end Go.Ev
