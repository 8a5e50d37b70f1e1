/-
  Texts of this claim.
-/
import Derived.Test.YtmfoiaaehkandaaGreatDoorMBGwKeepLog
import Derived.Test.YtmfoiaaehkandaaGreatDoorMBGwKeepSteps
set_option linter.unusedVariables false
set_option linter.unusedSimpArgs false
set_option maxHeartbeats 8000000
set_option maxRecDepth 100000
namespace Go.Ev
open Go.Proofs Go.RowKit
def setNs:Array Value->List Nat->List Int->Array Value
 | cs,o :: os,x :: xs=>setNs (cs.setIfInBounds o (.int .i64 x)) os xs
 | cs,_,_=>cs
theorem setNs_size:∀ (os:List Nat) (xs:List Int) (cs:Array Value),(setNs cs os xs).size=cs.size
 | [],_,_=>by simp [setNs]
 | _ :: _,[],_=>by simp [setNs]
 | o :: os,x :: xs,cs=>by simp [setNs,setNs_size os xs]
theorem setNs_take:∀ (os:List Nat) (xs:List Int) (cs:Array Value) (i:Nat) (h1:i<os.length) (h2:i<xs.length),setNs cs (os.take (i+1)) (xs.take (i+1))=(setNs cs (os.take i) (xs.take i)).setIfInBounds os[i] (.int .i64 xs[i])
 | o :: os,x :: xs,cs,0,_,_=>by simp [setNs]
 | o :: os,x :: xs,cs,i+1,h1,h2=>by
  simp only [List.take_succ_cons,setNs,List.getElem_cons_succ]
  exact setNs_take os xs _ i (by simpa using h1) (by simpa using h2)
section
variable {F:Nat->Prop} {bb q:Nat} {H:List Pair} {E:DB} {W:World}
def NumsP (W:World) (sb:Nat) (T:TypeId) (cs:Array Value) (rest:Bytes) (e:Ending) (w':World):Prop:=e=.returned (.tuple #[strV rest,.int .i64 0])/\Blk w' sb T cs/\Keeps (λ k=>k=sb) W w'
theorem Kn.numbers (h:Kn F bb q H E W) (hq:q<=20000) (key:Bytes) (hk1:1<=key.length) (hk2:key.length<=40) (sb rb:Nat) (T:TypeId) (cs:Array Value) (n c:Nat) (os:List Nat) (xs:List Int) (rest:Bytes) (hg:getP key H=some (varsB xs++rest)) (hx:∀ x∈xs,I64 x) (hn:os.length=n) (hxn:xs.length=n) (hn9:n<=100) (ho:∀ o∈os,o<cs.size) (hne:rb≠sb) (hrl:rb<W.heap.size)
  (hr:∀ j (hj:j<os.length),W.cell? ⟨rb,j,none⟩=some (.pointer (some ⟨sb,os[j],none⟩))) (hb:Blk W sb T cs) (hlen:(varsB xs++rest).length<=100000) :
  Calls Tryz.prog 52 #[ptrV bb,strV key,.slice (some ⟨rb,0,none⟩) n c] W (NumsP W sb T (setNs cs os xs) rest):=by
 have hG:=h.get hq key hk1 hk2
 rw [hg] at hG
 have HG:=Hdz hG
 have HN:=Hdz (Anz hn hxn)
 have HR:=Hdz hr
 have HRl:=Hdz (Anz hrl hne)
 have HX:=Hdz hx
 have HO:=Hdz ho
 have HB:=Hdz hb
 have HL:=Hdz hlen
 clear h hq hk1 hk2 hg hx hn hxn ho hne hrl hr hb hlen hG
 go_enter Tryz.func52,Tryz.ntmps52
 go_wp2_with (fail)
 go_must (refine HG.out.mono ?_)
 rintro e w1 ⟨rfl,hb1⟩
 have HB1:Hid (Blk w1 sb T cs/\Below W.heap.size W w1):=⟨HB.out.below' hb1,hb1⟩
 clear hb1
 go_wp2_with (fail)
 go_loopg [10,28] n (λ gk s10 s28 wr=>∃ i:Nat,s10=strV (varsB (xs.drop i)++rest)/\s28=.int .i64 (i:Int)/\i+gk=n/\Hid (Blk wr sb T (setNs cs (os.take i) (xs.take i)))/\Hid (Keeps (λ k=>k=sb) W wr))
 case atStart=>exact ⟨0,rfl,rfl,by omega,(by have:=HB1.out.1;show Blk _ _ _ _;simpa [setNs] using this),Keeps.of_below HB1.out.2⟩
 case round =>
  obtain ⟨i,rfl,rfl,hi,hB,hK⟩:=hrel
  obtain ⟨wo,rfl⟩:∃ wo,wo=wr:=⟨_,rfl⟩
  by_cases hin:i<n
  ·have h1:(i:Int)<(n:Int):=by omega
   have h0:(0:Int)<=(i:Int):=by omega
   have hio:i<os.length:=by have:=HN.out.1;omega
   have hix:i<xs.length:=by have:=HN.out.2;omega
   have hstep:=setNs_take os xs cs i hio hix
   obtain ⟨ci,hci⟩:∃ c,setNs cs (os.take i) (xs.take i)=c:=⟨_,rfl⟩
   have hos:os[i]<ci.size:=by rw [<- hci,setNs_size];exact HO.out _ (List.getElem_mem hio)
   obtain ⟨o,hoo⟩:=nmz (os[i])
   obtain ⟨x,hxx⟩:=nmz (xs[i])
   have hI:I64 x:=by rw [<- hxx];exact HX.out _ (List.getElem_mem hix)
   have hcell:wo.cell? ⟨rb,i,none⟩=some (.pointer (some ⟨sb,o,none⟩)):=by
    rw [<- hoo]
    exact (hK.out.cell (p:=⟨rb,i,none⟩) HRl.out.1 HRl.out.2).trans (HR.out i hio)
   obtain ⟨R',hR'⟩:∃ r,varsB (xs.drop (i+1))++rest=r:=⟨_,rfl⟩
   have hRr:varsB (xs.drop i)++rest=varB x++R':=by rw [List.drop_eq_getElem_cons hix,hxx,<- hR'];simp [varsB]
   have hln:(varB x++R').length<=100000:=by
    have h3:=HL.out
    have h4:varsB xs=varsB (xs.take i)++varsB (xs.drop i):=by rw [<- varsB_append,List.take_append_drop]
    rw [h4,List.append_assoc,hRr,List.length_append] at h3
    omega
   rw [hRr]
   rw [hci] at hB hstep
   rw [hoo,hxx] at hstep
   have hv:=Rd.var_var x hI R'
   have hvs:varsB [x]=varB x:=by simp [varsB]
   obtain ⟨va,hva⟩:∃ v,varB x=v:=⟨_,rfl⟩
   rw [hva] at hv hvs hln
   rw [hva]
   have hval:va.length<=(va++R').length:=by rw [List.length_append];omega
   have hva0:(0:Int)<=(va.length:Int):=by omega
   have HNew:=Hdz (newReader_any (va++R') wo (by omega))
   have HStep:=Hdz hstep
   have HRR:=Hdz hR'
   have HV:=Hdz hv
   have HVs:=Hdz hvs
   have HOs:Hid (o<ci.size):=by rw [<- hoo];exact hos
   have HI:=Hdz hI
   have hw:IntKind.i64.wrap ((i:Int)+1)=(i:Int)+1:=IntWalk.i64_in _ (by omega)
   clear hRr hstep hR' hv hvs hva hI hxx hoo hos hci hio hix
   go_wp2_with (fail)
   go_must (refine HNew.out.mono ?_)
   rintro e w2 ⟨r,rfl,hrd,hrz,hb2⟩
   have hB2:=hB.out.below' hb2
   have hrs:sb≠r:=by have:=hB.out.lt;omega
   have hV:=var_any r _ w2 hrd
   rw [HV.out] at hV
   have HV2:=Hdz hV
   have HB2:=Hdz hB2
   have HK2:Hid (Keeps (λ k=>k=sb) W w2/\W.heap.size<=r):=⟨hK.out.then hb2,by have:=hK.out.size;omega⟩
   clear hV hB2 hrd hb2
   go_wp2_with (fail)
   go_must (refine HV2.out.mono ?_)
   rintro e w3 ⟨rfl,hrd3,hk3⟩
   have hz:=HB2.out.keeps hk3 (λ e=>hrs e)
   have zc:w3.cell? ⟨sb,o,none⟩=some ci[o]:=by rw [hz.cell];exact Array.getElem?_eq_getElem HOs.out
   have zf:=hz.frozen o
   have zl:(w3.setCell ⟨sb,o,none⟩ (.int .i64 x)).cell? ⟨sb,o,none⟩=some (.int .i64 x):=by rw [(hz.set o _).cell o];simp [HOs.out]
   have HE:=Hdz (err_any r ⟨R',0⟩ (w3.setCell ⟨sb,o,none⟩ (.int .i64 x)) (hrd3.keeps ((Keeps.refl (λ k=>k=sb) w3).setCell (p:=⟨sb,o,none⟩) (λ _=>rfl) _) (λ e=>hrs e.symm)))
   have HZ:=Hdz (hz.set o (.int .i64 x))
   have HK3:Hid (Keeps (λ k=>k=sb) W w3):=HK2.out.1.trans hk3 λ j hj e=>by have:=HK2.out.2;omega
   clear hz hrd3 hk3
   go_wp2_with (fail)
   go_must (refine HE.out.mono ?_)
   rintro e w4 ⟨rfl,rfl⟩
   have HK4:Hid (Keeps (λ k=>k=sb) W (w3.setCell ⟨sb,o,none⟩ (.int .i64 x))):=HK3.out.setCell (λ _=>rfl) _
   obtain ⟨w4,hw4⟩:=nmz (w3.setCell ⟨sb,o,none⟩ (.int .i64 x))
   rw [hw4] at zl HZ HK4 ⊢
   have HS:Hid (Sl (w4.alloc (.cells #[.int .i64 x] 3)) 1 (.slice (some ⟨w4.heap.size,0,none⟩) 1 1) 1 [.int .i64 x]):=sl_blk (T:=3) [.int .i64 x] (Blk.new _ _ _)
   have hVr:=vars_any (some ⟨w4.heap.size,0,none⟩) 1 1 [x] _ HS.out (by intro y hy;simp at hy;subst hy;exact HI.out) (by omega)
   rw [HVs.out] at hVr
   have HVr:=Hdz hVr
   clear hVr hw4 zc zf HE
   go_wp2_with (fail)
   go_must (refine HVr.out.mono ?_)
   rintro e w5 ⟨rfl,hb5⟩
   have HB5:Hid (Below w4.heap.size w4 w5):=((Below.refl _ w4).alloc (Nat.le_refl _) _).trans (hb5.mono (by simp))
   clear hb5
   go_wp2_with (fail)
   go_roundg (gk-1)
   case measure=>omega
   case rel=>exact ⟨i+1,(by show Value.string _=Value.string _;rw [HRR.out,<- List.length_append,extract_drop];simp),by simp,by omega,(by have:=HZ.out.below' HB5.out;show Blk _ _ _ _;rw [HStep.out];exact this),HK4.out.then HB5.out⟩
  ·have h1:¬ (i:Int)<(n:Int):=by omega
   have he:i=n:=by omega
   subst he
   have e1:varsB (xs.drop i)++rest=rest:=by rw [List.drop_of_length_le (by have:=HN.out.2;omega)];rfl
   have e2:setNs cs (os.take i) (xs.take i)=setNs cs os xs:=by rw [List.take_of_length_le (by have:=HN.out.1;omega),List.take_of_length_le (by have:=HN.out.2;omega)]
   rw [e1]
   have HN2:Hid (Blk wo sb T (setNs cs os xs)):=by rw [<- e2];exact hB.out
   clear e1 e2
   go_wp2_with (fail)
   go_ret2
   exact ⟨rfl,HN2.out,hK.out⟩
end
structure LogOk (es:List LogE):Prop where
 ok:∀ o∈es,EntOk o/\0<=o.idx/\o.idx<=99999999/\(entB o).length<=100000
 len:es.length<=900
def EsP (es:List LogE) (W:World) (e:Ending) (w':World):Prop:=(∃ v,e=.returned (.tuple #[v,.int .i64 0])/\w'.ownsRow W.heap.size 62 4 v es.length (es.flatMap entCs))/\Below W.heap.size W w'
section
variable {F:Nat->Prop} {bb q n:Nat} {H:List Pair} {es:List LogE} {W:World}
theorem Kn.entries (h:Kn F bb q H (n,logP es) W) (hq:q<=20000) (hE:LogOk es) :
  Calls Tryz.prog 59 #[ptrV bb] W (EsP es W):=by
 obtain ⟨j0,hj,hz0,hz1,hz2⟩:=info_parts infoEnt
 have hR:=h.rangeL hq (by rw [logP_len];have:=hE.len;omega) [] [] 0
 rw [rangeP_all] at hR
 have HR:=Hdz hR
 have HE:=Hdz hE
 obtain ⟨m,hm⟩:=nmz (es.length)
 have hm9:m<=900:=by have:=hE.len;omega
 have HM:=Hdz hm
 unfold EsP
 rw [hm]
 clear h hE hR hm
 go_enter Tryz.func59,Tryz.ntmps59
 go_wp2_with (fail)
 go_must (refine HR.out.mono ?_)
 rintro e w1 ⟨v,rfl,hcl,hb1⟩
 obtain ⟨A0,e0,-,-⟩:=hcl.sl
 rw [logP_len,HM.out] at e0
 subst e0
 have HC:=Hdz hcl
 have HB1:=Hdz hb1
 clear hcl hb1
 go_wp2_with (fail)
 go_loopg [6,20] m (λ gk s6 s20 wr=>∃ (i:Nat) (A6:Option Addr) (c6:Nat),s6=.slice A6 i c6/\s20=.int .i64 (i:Int)/\i+gk=m/\Hid (wr.ownsRow w1.heap.size 62 4 (.slice A6 i c6) i ((es.take i).flatMap entCs))/\Hid (Below w1.heap.size w1 wr))
 case atStart=>exact ⟨0,none,0,rfl,rfl,by omega,World.ownsRow_nil _ _ _ _,Below.refl _ _⟩
 case round =>
  obtain ⟨i,A6,c6,rfl,rfl,hi,hO,hB⟩:=hrel
  obtain ⟨wo,rfl⟩:∃ wo,wo=wr:=⟨_,rfl⟩
  by_cases hin:i<m
  ·have h1:(i:Int)<(m:Int):=by omega
   have h0:(0:Int)<=(i:Int):=by omega
   have hiM:i<es.length:=by have:=HM.out;omega
   have hiL:i<(logP es).length:=by rw [logP_len];exact hiM
   obtain ⟨A1,e1,-,hsl⟩:=(HC.out.below hB.out).sl
   rw [logP_len,HM.out] at e1
   cases e1
   obtain ⟨_,_,e2,_,_,hcl⟩:=hsl
   cases e2
   obtain ⟨blk,off,rfl,hbl,hcell⟩:=hcl (by rw [logP_len];omega)
   obtain ⟨p1,p2⟩:=pairsCs_at (logP es) i hiL
   rw [logP_at hiM hiL] at p1 p2
   obtain ⟨o,ho⟩:=nmz (es[i])
   rw [ho] at p1 p2
   obtain ⟨q1,q2,q3,q4⟩:=HE.out.ok o (by rw [<- ho];exact List.getElem_mem hiM)
   obtain ⟨ix,hix⟩:∃ x:Nat,o.idx=(x:Int):=⟨o.idx.toNat,by omega⟩
   have hKy:=λ W=>keepKey_ok ix W (by omega)
   have e3:o.idx.toNat=ix:=by rw [hix];rfl
   rw [e3] at p1
   obtain ⟨key,hkey⟩:∃ k,dig 8 ix=k:=⟨_,rfl⟩
   obtain ⟨val,hval⟩:∃ k,entB o=k:=⟨_,rfl⟩
   rw [hkey] at p1 hKy
   have hG:=λ W=>entOne_ok o W q1 q4
   rw [hval] at p2 hG
   have c0:wo.cell? ⟨blk,off+i*2,none⟩=some (strV key):=hcell _ _ p1
   have c1:wo.cell? ⟨blk,off+i*2+1,none⟩=some (strV val):=hcell _ _ p2
   have hba:Below wo.heap.size wo (wo.alloc (.cells #[strV key,strV val] 139)):=(Below.refl _ _).alloc (Nat.le_refl _) _
   have bx:Blk (wo.alloc (.cells #[strV key,strV val] 139)) wo.heap.size 139 #[strV key,strV val]:=Blk.new _ _ _
   have HG:=Hdz hG
   have HKy:=Hdz hKy
   have HBa:=Hdz hba
   have HBx:=Hdz bx
   have Ho:=Hdz ho
   have HIx:=Hdz hix
   have HiE:=Hdz hiM
   have hw:IntKind.i64.wrap ((i:Int)+1)=(i:Int)+1:=IntWalk.i64_in _ (by omega)
   clear hG hKy hba bx hix hiL q1 q2 q3 q4 e3 hkey hval p1 p2 hcell hcl hbl
   go_wp2_with (fail)
   go_must (refine (HG.out _).mono ?_)
   rintro e w2 ⟨rfl,hb2⟩
   unfold entV
   rw [HIx.out]
   have HB3:Hid (Below wo.heap.size wo (w2.alloc (.cells #[.int .i64 (ix:Int),.int .i64 o.term,.int .i64 o.kind,strV o.data] 62))):=by
    have h4:=HBa.out.trans (hb2.mono HBa.out.size)
    exact h4.alloc h4.size _
   have HX:Hid (Blk (w2.alloc (.cells #[.int .i64 (ix:Int),.int .i64 o.term,.int .i64 o.kind,strV o.data] 62)) wo.heap.size 139 #[strV key,strV val]):=(HBx.out.below' hb2).alloc _
   have HY:Hid (Blk (w2.alloc (.cells #[.int .i64 (ix:Int),.int .i64 o.term,.int .i64 o.kind,strV o.data] 62)) w2.heap.size 62 #[.int .i64 (ix:Int),.int .i64 o.term,.int .i64 o.kind,strV o.data]):=Blk.new _ _ _
   have hsz2:=hb2.size
   have y0:=HY.out.cell 0
   have k0:=HX.out.cell 0
   clear hb2
   go_wp2_with (fail)
   refine wRz ?_
   try simp only [lAz]
   refine tA 0 ?_;try simp only [lAz]
   refine tA 1 ?_;try simp only [lAz]
   refine tA 2 ?_;try simp only [lAz]
   refine tA 3 ?_;try simp only [lAz]
   refine tA 6 ?_;try simp only [lAz]
   refine rA 4 (v:=?_) (hy:=?hy) ?_;case hy=>(intro w hE;have q0:=hE.cell y0;go_simp;try with_reducible rfl)
   try simp only [lAz]
   refine wpAny_ready (rs:=[5,7]) (by kernel_rfl) (by simp) (aCz (λ K hK=>?_) (aCz (λ K hK=>?_) AllReady.nil))
   focus
    go_simp
    (go_must (refine (HKy.out _).mono ?_);rintro e w4 ⟨rfl,hb4⟩)
    have HB4:Hid (Below wo.heap.size wo w4):=HB3.out.drew.trans (hb4.mono HB3.out.size)
    have hz4:=hb4.size
    have by4:=(Blk.drew HY.out).below' hb4
    have g0:=by4.cell 0
    have g1:=by4.cell 1
    have g2:=by4.cell 2
    have g3:=by4.cell 3
    have k1:=((Blk.drew HX.out).below' hb4).cell 0
    clear by4 hb4
    go_simp
    apply hK
    clear hK K
    refine rZz 7 λ K hK=>?_;go_simp;apply hK;clear hK K
    refine rZz 8 λ K hK=>?_;go_simp;apply hK;clear hK K
    refine rZz 9 λ K hK=>?_;go_simp;apply hK;clear hK K
    have hb5:Below w4.heap.size w4 (w4.alloc (.cells #[.int .i64 (ix:Int),.int .i64 o.term,.int .i64 o.kind,strV o.data] 62)):=(Below.refl _ _).alloc (Nat.le_refl _) _
    have hbT:Below wo.heap.size wo (w4.alloc (.cells #[.int .i64 (ix:Int),.int .i64 o.term,.int .i64 o.kind,strV o.data] 62)):=HB4.out.trans (hb5.mono HB4.out.size)
    have hown:=own_below hO.out hbT
    have HBT:Hid (Below w1.heap.size w1 (w4.alloc (.cells #[.int .i64 (ix:Int),.int .i64 o.term,.int .i64 o.kind,strV o.data] 62))):=hB.out.trans (hbT.mono hB.out.size)
    have HOw:=Hdz hown
    have hsz:=HBT.out.size
    clear hb5 hbT
    refine wDz ?_
    go_wp2_with (at_builtin;go_must (refine wpList_append_at rfl _ _ 24 rfl w1.heap.size 62 j0 _ 4 40 Tryz.underlying24 hj hz0 hz1 hz2 rfl (by decide) _ i _ rfl hown ⟨w4.heap.size,0,none⟩ 1 1 (entCs o) rfl rfl (by have:=row_ent w4 o 62 w4.heap.size rfl;rw [HIx.out] at this;exact this) (by simp [entCs,Value.oneCell']) (by unfold maxLen;omega) (by omega) hsz ?_))
    intro v8 w8 own8 hg8 hat8
    obtain ⟨A8,c8,rfl,-⟩:=Sl.of_own own8
    have hK8:Keeps (λ k=>(Value.slice A6 i c6).ownBlock=some k) (w4.alloc (.cells #[.int .i64 (ix:Int),.int .i64 o.term,.int .i64 o.kind,strV o.data] 62)) w8:=(Keeps.refl _ _).grown hg8 λ k e _=>e
    have HB8:Hid (Below w1.heap.size w1 w8):=HBT.out.trans (hK8.below HBT.out.size λ k hk e=>by have:=(HOw.out.lt k e).1;omega)
    have HO8:Hid (w8.ownsRow w1.heap.size 62 4 (.slice A8 (i+1) c8) (i+1) ((es.take (i+1)).flatMap entCs)):=by
     show World.ownsRow _ _ _ _ _ _ _
     rw [List.take_succ_eq_append_getElem HiE.out,List.flatMap_append,Ho.out]
     simpa using own8
    clear own8 hg8 hat8 hK8 hown hsz
    go_wp2_with (fail)
    go_roundg (gk-1)
    case measure=>omega
    case rel=>exact ⟨i+1,A8,c8,by simp,by simp,by omega,HO8.out,HB8.out⟩
   focus
    go_simp
    apply hK
    clear hK K
    refine rZz 5 λ K hK=>?_;go_simp
    (go_must (refine (HKy.out _).mono ?_);rintro e w4 ⟨rfl,hb4⟩)
    have HB4:Hid (Below wo.heap.size wo w4):=HB3.out.drew.trans (hb4.mono HB3.out.size)
    have hz4:=hb4.size
    have by4:=(Blk.drew HY.out).below' hb4
    have g0:=by4.cell 0
    have g1:=by4.cell 1
    have g2:=by4.cell 2
    have g3:=by4.cell 3
    have k1:=((Blk.drew HX.out).below' hb4).cell 0
    clear by4 hb4
    go_simp
    apply hK
    clear hK K
    refine rZz 8 λ K hK=>?_;go_simp;apply hK;clear hK K
    refine rZz 9 λ K hK=>?_;go_simp;apply hK;clear hK K
    have hb5:Below w4.heap.size w4 (w4.alloc (.cells #[.int .i64 (ix:Int),.int .i64 o.term,.int .i64 o.kind,strV o.data] 62)):=(Below.refl _ _).alloc (Nat.le_refl _) _
    have hbT:Below wo.heap.size wo (w4.alloc (.cells #[.int .i64 (ix:Int),.int .i64 o.term,.int .i64 o.kind,strV o.data] 62)):=HB4.out.trans (hb5.mono HB4.out.size)
    have hown:=own_below hO.out hbT
    have HBT:Hid (Below w1.heap.size w1 (w4.alloc (.cells #[.int .i64 (ix:Int),.int .i64 o.term,.int .i64 o.kind,strV o.data] 62))):=hB.out.trans (hbT.mono hB.out.size)
    have HOw:=Hdz hown
    have hsz:=HBT.out.size
    clear hb5 hbT
    refine wDz ?_
    go_wp2_with (at_builtin;go_must (refine wpList_append_at rfl _ _ 24 rfl w1.heap.size 62 j0 _ 4 40 Tryz.underlying24 hj hz0 hz1 hz2 rfl (by decide) _ i _ rfl hown ⟨w4.heap.size,0,none⟩ 1 1 (entCs o) rfl rfl (by have:=row_ent w4 o 62 w4.heap.size rfl;rw [HIx.out] at this;exact this) (by simp [entCs,Value.oneCell']) (by unfold maxLen;omega) (by omega) hsz ?_))
    intro v8 w8 own8 hg8 hat8
    obtain ⟨A8,c8,rfl,-⟩:=Sl.of_own own8
    have hK8:Keeps (λ k=>(Value.slice A6 i c6).ownBlock=some k) (w4.alloc (.cells #[.int .i64 (ix:Int),.int .i64 o.term,.int .i64 o.kind,strV o.data] 62)) w8:=(Keeps.refl _ _).grown hg8 λ k e _=>e
    have HB8:Hid (Below w1.heap.size w1 w8):=HBT.out.trans (hK8.below HBT.out.size λ k hk e=>by have:=(HOw.out.lt k e).1;omega)
    have HO8:Hid (w8.ownsRow w1.heap.size 62 4 (.slice A8 (i+1) c8) (i+1) ((es.take (i+1)).flatMap entCs)):=by
     show World.ownsRow _ _ _ _ _ _ _
     rw [List.take_succ_eq_append_getElem HiE.out,List.flatMap_append,Ho.out]
     simpa using own8
    clear own8 hg8 hat8 hK8 hown hsz
    go_wp2_with (fail)
    go_roundg (gk-1)
    case measure=>omega
    case rel=>exact ⟨i+1,A8,c8,by simp,by simp,by omega,HO8.out,HB8.out⟩
  ·have h1:¬ (i:Int)<(m:Int):=by omega
   have he:i=m:=by omega
   subst he
   have HN:Hid (wo.ownsRow W.heap.size 62 4 (.slice A6 i c6) i (es.flatMap entCs)):=by
    have:=own_base hO.out HB1.out.size
    rw [List.take_of_length_le (by have:=HM.out;omega)] at this
    exact this
   go_wp2_with (fail)
   go_ret2
   exact ⟨⟨_,rfl,HN.out⟩,HB1.out.trans (hB.out.mono HB1.out.size)⟩
end
theorem kept_two {W w:World} {F:Nat->Prop} {gs gr:Nat} (hk:Keeps (λ k=>k=gs\/k=gr) W w) {bb q:Nat} {H:List Pair} {E:DB} (h:Kn F bb q H E W) (h1:¬ F gs) (h2:¬ F gr):Kn F bb q H E w:=
 h.fence hk (λ k _ e g=>by rcases g with rfl | rfl;exact h1 e;exact h2 e) (λ _ _ e=>e) λ k hl=>h.size k (Nat.le_trans hk.size hl)
def LdP (gs gr:Nat) (cs:Array Value) (rest:Bytes) (W:World) (e:Ending) (w':World):Prop:=e=.returned (.int .i64 0)/\Blk w' gs 56 cs/\Blk w' gr 9 #[strV rest]/\Keeps (λ k=>k=gs\/k=gr) W w'
section
variable {F:Nat->Prop} {bb q g gs gr:Nat} {H:List Pair} {E:DB} {W:World} {c0 c1 c2 c3 c4 c5 c6 c7:Value} {s0:Bytes}
theorem Kn.load1 (h:Kn F bb q H E W) (hq:q<=20000) (x y z:Int) (hg:getP hardK H=some (varsB [x,y,z])) (hx:I64 x) (hy:I64 y) (hz:I64 z) (b0:Blk W g 46 #[ptrV bb]) (b1:Blk W gs 56 #[c0,c1,c2,c3,c4,c5,c6,c7]) (b2:Blk W gr 9 #[strV s0]) (hne:gs≠gr) :
  Calls Tryz.prog 51 #[ptrV g,ptrV gs,ptrV gr] W (LdP gs gr #[.int .i64 x,.int .i64 y,.int .i64 z,c3,c4,c5,c6,c7] [] W):=by
 have hb1:Below W.heap.size W (W.alloc (.cells #[.pointer (some ⟨gs,0,none⟩),.pointer (some ⟨gs,1,none⟩),.pointer (some ⟨gs,2,none⟩)] 113)):=(Below.refl _ _).alloc (Nat.le_refl _) _
 have br:Blk (W.alloc (.cells #[.pointer (some ⟨gs,0,none⟩),.pointer (some ⟨gs,1,none⟩),.pointer (some ⟨gs,2,none⟩)] 113)) W.heap.size 113 #[.pointer (some ⟨gs,0,none⟩),.pointer (some ⟨gs,1,none⟩),.pointer (some ⟨gs,2,none⟩)]:=Blk.new _ _ _
 have hI:∀ v∈[x,y,z],I64 v:=by
  intro v hv
  simp only [List.mem_cons,List.not_mem_nil,or_false] at hv
  rcases hv with rfl | rfl | rfl
  ·exact hx
  ·exact hy
  ·exact hz
 have hln:=varsB_len [x,y,z] hI
 have HN:=Hdz ((h.below hb1).numbers hq hardK (by decide) (by decide) gs W.heap.size 56 #[c0,c1,c2,c3,c4,c5,c6,c7] 3 3 [0,1,2] [x,y,z] [] (by rw [List.append_nil];exact hg) hI rfl rfl (by omega) (by simp) (by have:=b1.lt;omega) (by simp) (by
  intro j hj
  rw [br.cell j]
  simp only [List.length_cons,List.length_nil] at hj
  match j,hj with
  | 0,_=>rfl
  | 1,_=>rfl
  | 2,_=>rfl) (b1.below' hb1) (by simp only [List.length_append,List.length_cons,List.length_nil] at hln ⊢;omega))
 have z0:=b0.cell 0
 have HB:=Hdz (Anz (b2.below' hb1) (Anz hb1 (Anz hne b2.lt)))
 clear h hg hI hln br b0 b1 b2 hb1 hx hy hz hne
 go_enter Tryz.func51,Tryz.ntmps51
 go_wp2_with (fail)
 go_must (refine HN.out.mono ?_)
 rintro e w1 ⟨rfl,hs,hk⟩
 have b3:=HB.out.1.keeps hk λ e=>HB.out.2.2.1 e.symm
 have z1:=b3.cell 0
 have f1:=b3.frozen 0
 have z2:(w1.setCell ⟨gr,0,none⟩ (strV [])).cell? ⟨gr,0,none⟩=some (strV []):=(b3.set 0 _).cell 0
 have HR:=Hdz (b3.set 0 (strV []))
 have HS:Hid (Blk (w1.setCell ⟨gr,0,none⟩ (strV [])) gs 56 #[.int .i64 x,.int .i64 y,.int .i64 z,c3,c4,c5,c6,c7]):=hs.far HB.out.2.2.1 _
 have HK:Hid (Keeps (λ k=>k=gs\/k=gr) W (w1.setCell ⟨gr,0,none⟩ (strV []))):=((Keeps.of_below (S:=λ k=>k=gs\/k=gr) HB.out.2.1).trans hk λ _ _ e=>.inl e).setCell (λ _=>.inr rfl) _
 clear hs hk b3
 go_wp2_with (fail)
 go_must (refine (right_ok _).mono ?_)
 rintro e w2 ⟨rfl,rfl⟩
 go_wp2_with (fail)
 go_ret
 exact ⟨rfl,HS.out,HR.out,HK.out⟩
theorem Kn.load2 (h:Kn F bb q H E W) (hq:q<=20000) (i u:Int) (l:List Int) (hg:getP snapK H=some (snB i u l)) (hi:I64 i) (hu:I64 u) (hl:(snB i u l).length<=100000) (b0:Blk W g 46 #[ptrV bb]) (b1:Blk W gs 56 #[c0,c1,c2,c3,c4,c5,c6,c7]) (b2:Blk W gr 9 #[strV s0]) (hne:gs≠gr) :
  Calls Tryz.prog 54 #[ptrV g,ptrV gs,ptrV gr] W (LdP gs gr #[c0,c1,c2,.int .i64 i,.int .i64 u,c5,c6,c7] (memB l) W):=by
 have hb1:Below W.heap.size W (W.alloc (.cells #[.pointer (some ⟨gs,3,none⟩),.pointer (some ⟨gs,4,none⟩)] 113)):=(Below.refl _ _).alloc (Nat.le_refl _) _
 have br:Blk (W.alloc (.cells #[.pointer (some ⟨gs,3,none⟩),.pointer (some ⟨gs,4,none⟩)] 113)) W.heap.size 113 #[.pointer (some ⟨gs,3,none⟩),.pointer (some ⟨gs,4,none⟩)]:=Blk.new _ _ _
 have hI:∀ v∈[i,u],I64 v:=by
  intro v hv
  simp only [List.mem_cons,List.not_mem_nil,or_false] at hv
  rcases hv with rfl | rfl
  ·exact hi
  ·exact hu
 have HN:=Hdz ((h.below hb1).numbers hq snapK (by decide) (by decide) gs W.heap.size 56 #[c0,c1,c2,c3,c4,c5,c6,c7] 2 2 [3,4] [i,u] (memB l) hg hI rfl rfl (by omega) (by simp) (by have:=b1.lt;omega) (by simp) (by
  intro j hj
  rw [br.cell j]
  simp only [List.length_cons,List.length_nil] at hj
  match j,hj with
  | 0,_=>rfl
  | 1,_=>rfl) (b1.below' hb1) hl)
 have z0:=b0.cell 0
 have HB:=Hdz (Anz (b2.below' hb1) (Anz hb1 (Anz hne b2.lt)))
 obtain ⟨mb,hmb⟩:∃ m,memB l=m:=⟨_,rfl⟩
 rw [hmb] at HN ⊢
 clear h hg hI br b0 b1 b2 hb1 hi hu hne hl hmb
 go_enter Tryz.func54,Tryz.ntmps54
 go_wp2_with (fail)
 go_must (refine HN.out.mono ?_)
 rintro e w1 ⟨rfl,hs,hk⟩
 have b3:=HB.out.1.keeps hk λ e=>HB.out.2.2.1 e.symm
 have z1:=b3.cell 0
 have f1:=b3.frozen 0
 have HR:=Hdz (b3.set 0 (strV mb))
 have HS:Hid (Blk (w1.setCell ⟨gr,0,none⟩ (strV mb)) gs 56 #[c0,c1,c2,.int .i64 i,.int .i64 u,c5,c6,c7]):=hs.far HB.out.2.2.1 _
 have HK:Hid (Keeps (λ k=>k=gs\/k=gr) W (w1.setCell ⟨gr,0,none⟩ (strV mb))):=((Keeps.of_below (S:=λ k=>k=gs\/k=gr) HB.out.2.1).trans hk λ _ _ e=>.inl e).setCell (λ _=>.inr rfl) _
 clear hs hk b3
 go_wp2_with (fail)
 go_ret
 exact ⟨rfl,HS.out,HR.out,HK.out⟩
theorem load3 (l:List Int) (hv:ValidM l) (b1:Blk W gs 56 #[c0,c1,c2,c3,c4,c5,c6,c7]) (b2:Blk W gr 9 #[strV (memB l)]) (hne:gs≠gr) :
  Calls Tryz.prog 55 #[ptrV gr,ptrV gs] W λ e w'=>∃ v,LdP gs gr #[c0,c1,c2,c3,c4,v,c6,c7] (memB l) W e w'/\w'.ownsRow W.heap.size 3 1 v l.length (intsV l):=by
 have HM:=Hdz (getMembers_ok l W hv)
 have z0:=b2.cell 0
 obtain ⟨mb,hmb⟩:∃ m,memB l=m:=⟨_,rfl⟩
 rw [hmb] at HM z0 b2 ⊢
 have HB:=Hdz (Anz b1 (Anz b2 hne))
 clear b1 b2 hne hv hmb
 go_enter Tryz.func55,Tryz.ntmps55
 go_wp2_with (fail)
 go_must (refine HM.out.mono ?_)
 rintro e w1 ⟨v,rfl,ho,hb1⟩
 have b3:=HB.out.1.below' hb1
 obtain ⟨A,c,rfl,-⟩:=Sl.of_own ho
 have z5:=b3.cell 5
 have f5:=b3.frozen 5
 have HS:=Hdz (b3.set 5 (.slice A l.length c))
 have HR:Hid (Blk (w1.setCell ⟨gs,5,none⟩ (.slice A l.length c)) gr 9 #[strV mb]):=(HB.out.2.1.below' hb1).far (λ e=>HB.out.2.2 e.symm) _
 have HK:Hid (Keeps (λ k=>k=gs\/k=gr) W (w1.setCell ⟨gs,5,none⟩ (.slice A l.length c))):=(Keeps.of_below (S:=λ k=>k=gs\/k=gr) hb1).setCell (λ _=>.inl rfl) _
 have HO:Hid ((w1.setCell ⟨gs,5,none⟩ (.slice A l.length c)).ownsRow W.heap.size 3 1 (.slice A l.length c) l.length (intsV l)):=own_keeps ho ((Keeps.refl (λ k=>k=gs) w1).setCell (p:=⟨gs,5,none⟩) (λ _=>rfl) _) λ k e e2=>by
  have:=(ho.lt k e).1
  have:=HB.out.1.lt
  omega
 clear ho hb1 b3
 go_wp2_with (fail)
 go_must (refine (right_ok _).mono ?_)
 rintro e w2 ⟨rfl,rfl⟩
 go_wp2_with (fail)
 go_ret
 exact ⟨_,⟨rfl,HS.out,HR.out,HK.out⟩,HO.out⟩
theorem Kn.load4 (h:Kn F bb q H E W) (hq:q<=20000) (x:Int) (hg:getP appK H=some (varsB [x])) (hx:I64 x) (b0:Blk W g 46 #[ptrV bb]) (b1:Blk W gs 56 #[c0,c1,c2,c3,c4,c5,c6,c7]) (b2:Blk W gr 9 #[strV s0]) (hne:gs≠gr) :
  Calls Tryz.prog 57 #[ptrV g,ptrV gs,ptrV gr] W (LdP gs gr #[c0,c1,c2,c3,c4,c5,c6,.int .i64 x] [] W):=by
 have hb1:Below W.heap.size W (W.alloc (.cells #[.pointer (some ⟨gs,7,none⟩)] 113)):=(Below.refl _ _).alloc (Nat.le_refl _) _
 have br:Blk (W.alloc (.cells #[.pointer (some ⟨gs,7,none⟩)] 113)) W.heap.size 113 #[.pointer (some ⟨gs,7,none⟩)]:=Blk.new _ _ _
 have hI:∀ v∈[x],I64 v:=by
  intro v hv
  simp only [List.mem_cons,List.not_mem_nil,or_false] at hv
  rcases hv with rfl
  exact hx
 have hln:=varsB_len [x] hI
 have HN:=Hdz ((h.below hb1).numbers hq appK (by decide) (by decide) gs W.heap.size 56 #[c0,c1,c2,c3,c4,c5,c6,c7] 1 1 [7] [x] [] (by rw [List.append_nil];exact hg) hI rfl rfl (by omega) (by simp) (by have:=b1.lt;omega) (by simp) (by
  intro j hj
  rw [br.cell j]
  simp only [List.length_cons,List.length_nil] at hj
  match j,hj with
  | 0,_=>rfl) (b1.below' hb1) (by simp only [List.length_append,List.length_cons,List.length_nil] at hln ⊢;omega))
 have z0:=b0.cell 0
 have HB:=Hdz (Anz (b2.below' hb1) (Anz hb1 (Anz hne b2.lt)))
 clear h hg hI hln br b0 b1 b2 hb1 hx hne
 go_enter Tryz.func57,Tryz.ntmps57
 go_wp2_with (fail)
 go_must (refine HN.out.mono ?_)
 rintro e w1 ⟨rfl,hs,hk⟩
 have b3:=HB.out.1.keeps hk λ e=>HB.out.2.2.1 e.symm
 have z1:=b3.cell 0
 have f1:=b3.frozen 0
 have z2:(w1.setCell ⟨gr,0,none⟩ (strV [])).cell? ⟨gr,0,none⟩=some (strV []):=(b3.set 0 _).cell 0
 have HR:=Hdz (b3.set 0 (strV []))
 have HS:Hid (Blk (w1.setCell ⟨gr,0,none⟩ (strV [])) gs 56 #[c0,c1,c2,c3,c4,c5,c6,.int .i64 x]):=hs.far HB.out.2.2.1 _
 have HK:Hid (Keeps (λ k=>k=gs\/k=gr) W (w1.setCell ⟨gr,0,none⟩ (strV []))):=((Keeps.of_below (S:=λ k=>k=gs\/k=gr) HB.out.2.1).trans hk λ _ _ e=>.inl e).setCell (λ _=>.inr rfl) _
 clear hs hk b3
 go_wp2_with (fail)
 go_must (refine (right_ok _).mono ?_)
 rintro e w2 ⟨rfl,rfl⟩
 go_wp2_with (fail)
 go_ret
 exact ⟨rfl,HS.out,HR.out,HK.out⟩
theorem Kn.load5 {n:Nat} {es:List LogE} (h:Kn F bb q H (n,logP es) W) (hq:q<=20000) (hE:LogOk es) (b0:Blk W g 46 #[ptrV bb]) (b1:Blk W gs 56 #[c0,c1,c2,c3,c4,c5,c6,c7]) (b2:Blk W gr 9 #[strV s0]) (hne:gs≠gr) :
  Calls Tryz.prog 58 #[ptrV g,ptrV gs] W λ e w'=>∃ v,LdP gs gr #[c0,c1,c2,c3,c4,c5,v,c7] s0 W e w'/\w'.ownsRow W.heap.size 62 4 v es.length (es.flatMap entCs):=by
 have HM:=Hdz (h.entries hq hE)
 have z0:=b0.cell 0
 have HB:=Hdz (Anz b1 (Anz b2 hne))
 clear b0 b1 b2 hne h hE
 go_enter Tryz.func58,Tryz.ntmps58
 go_wp2_with (fail)
 go_must (refine HM.out.mono ?_)
 rintro e w1 ⟨⟨v,rfl,ho⟩,hb1⟩
 have b3:=HB.out.1.below' hb1
 obtain ⟨A,c,rfl,-⟩:=Sl.of_own ho
 have z6:=b3.cell 6
 have f6:=b3.frozen 6
 have HS:=Hdz (b3.set 6 (.slice A es.length c))
 have HR:Hid (Blk (w1.setCell ⟨gs,6,none⟩ (.slice A es.length c)) gr 9 #[strV s0]):=(HB.out.2.1.below' hb1).far (λ e=>HB.out.2.2 e.symm) _
 have HK:Hid (Keeps (λ k=>k=gs\/k=gr) W (w1.setCell ⟨gs,6,none⟩ (.slice A es.length c))):=(Keeps.of_below (S:=λ k=>k=gs\/k=gr) hb1).setCell (λ _=>.inl rfl) _
 have HO:Hid ((w1.setCell ⟨gs,6,none⟩ (.slice A es.length c)).ownsRow W.heap.size 62 4 (.slice A es.length c) es.length (es.flatMap entCs)):=own_keeps ho ((Keeps.refl (λ k=>k=gs) w1).setCell (p:=⟨gs,6,none⟩) (λ _=>rfl) _) λ k e e2=>by
  have:=(ho.lt k e).1
  have:=HB.out.1.lt
  omega
 clear ho hb1 b3
 go_wp2_with (fail)
 go_ret
 exact ⟨_,⟨rfl,HS.out,HR.out,HK.out⟩,HO.out⟩
theorem load6 (i u:Int) {A:Option Addr} {n c:Nat} {es:List LogE} (b1:Blk W gs 56 #[c0,c1,c2,.int .i64 i,.int .i64 u,c5,.slice A n c,c7]) (hv:Sl W 4 (.slice A n c) n (es.flatMap entCs)) (hl:es.length=n) (hA:A=none->n=0) (hn:n<=100000) (hi:0<=i) (hu:0<=u) (hbd:∀ o∈es,o.idx<=99999999) (hd:∀ o∈es,o.data.length<=100000) (hf:FollowT i u es) :
  Calls Tryz.prog 60 #[ptrV gs] W λ e w'=>e=.returned (.int .i64 0)/\Below W.heap.size W w':=by
 have HN:=Hdz (rlogNew_ok i u A n c es W hv hl hA hn hi hu hbd hd hf)
 have z3:=b1.cell 3
 have z4:=b1.cell 4
 have z6:=b1.cell 6
 clear b1 hv hl hA hbd hd hf
 go_enter Tryz.func60,Tryz.ntmps60
 go_wp2_with (fail)
 go_must (refine HN.out.mono ?_)
 rintro e w1 ⟨⟨v,rfl⟩,hb1⟩
 have HB:=Hdz hb1
 clear hb1
 go_wp2_with (fail)
 go_must (refine (right_ok _).mono ?_)
 rintro e w2 ⟨rfl,rfl⟩
 go_wp2_with (fail)
 go_ret
 exact ⟨rfl,HB.out⟩
end
end Go.Ev
