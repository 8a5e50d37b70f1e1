/-
  Texts of this claim.
-/
import Derived.Test.YtmfoiaaehkandaaGreatDoorMBGwKeepSave
set_option linter.unusedVariables false
set_option linter.unusedSimpArgs false
namespace Go.Ev
open Go.Proofs Go.RowKit
theorem Sl.keeps0 {W W':World} {S:Nat->Prop} {z n c:Nat} {A:Option Addr} {xs:List Value} (h:Sl W z (.slice A n c) n xs) (hk:Keeps S W W') (hs:0<n->∀ b o,A=some ⟨b,o,none⟩->¬ S b):Sl W' z (.slice A n c) n xs:=by
 rcases Nat.eq_zero_or_pos n with rfl | hn
 ·obtain ⟨_,_,e,_,h1,_⟩:=h
  have hx:xs=[]:=List.eq_nil_of_length_eq_zero (by simpa using h1)
  subst hx
  exact Sl.nil _ _ _ _
 ·exact h.keeps hk λ A1 m1 c1 b o e1 e2 e=>by
   cases e1
   exact hs hn b o e2 e
def cutE:Option Nat->List LogE->List LogE
 | none,es=>es
 | some k,es=>es.take k
def fromI (b:Nat):Option Nat->Int
 | none=>0
 | some k=>((b+1+k:Nat):Int)
structure SnK where
 k:Nat
 u:Int
 l:List Int
def snE:Option SnK->List LogE->List LogE
 | none,es=>es
 | some s,es=>es.drop s.k
def snBase (b:Nat):Option SnK->Nat
 | none=>b
 | some s=>b+s.k
def snV (b:Nat):Option SnK->Bytes->Bytes
 | none,sn=>sn
 | some s,_=>snB ((b+s.k:Nat):Int) s.u s.l
def hdV (has:Bool) (x y z:Int) (hh:Bytes):Bytes:=if has then varsB [x,y,z] else hh
def apV (a:Int) (ap:Bytes):Bytes:=if 0<a then varsB [a] else ap
section
variable {F:Nat->Prop} {bb q n b:Nat} {W W':World} {es more:List LogE}
theorem Kn.saveA {hh sn ap:Bytes} (h:Kn F bb q (keptP hh sn ap) (n,logP es) W) (hq:q<=17000) (hL:Lg b n es) (s:SnK) (hk:s.k<=es.length) (hu:I64 s.u) (A:Option Addr) (m c:Nat) (hv:Sl W 1 (.slice A m c) m (intsV s.l)) (hl:s.l.length=m) (hM:ValidM s.l) (hA:∀ b o,A=some ⟨b,o,none⟩->¬ F b) (hs1:hh.length<=200) (hs3:ap.length<=200) :
  Calls Tryz.prog 45 #[ptrV bb,.agg #[.int .i64 ((b+s.k:Nat):Int),.int .i64 s.u,.slice A m c]] W (LogDone F bb (q+100) (keptP hh (snV b (some s) sn) ap) (n,logP (snE (some s) es)) W):=
 h.saveSnap hq hL hk s.u hu A m c s.l hv hl hM hA hs1 hs3
theorem Kn.saveB {H:List Pair} (h:Kn F bb q H (n,logP es) W) (hq:q<=17000) (hL:Lg b n es) (k:Nat) (hk:k<=es.length) :
  Calls Tryz.prog 47 #[ptrV bb,strV (dig 8 (b+1+k)),strV []] W (LogDone F bb (q+100) H (n,logP (es.take k)) W):=by
 obtain ⟨h1,h2,h3⟩:=hL.cut hk
 have hd:(es.drop k).length<=70:=by simp;omega
 refine (Kn.deleteLog (A:=es.take k) (M:=es.drop k) (B:=[]) (by rw [List.append_nil,List.take_append_drop];exact h) (by omega) (by simp;omega) (dig 8 (b+1+k)) [] h2 h1).mono ?_
 rintro e w' ⟨he,hk',hkk⟩
 rw [List.append_nil] at hk'
 exact ⟨he,hk'.upto (by omega),hkk⟩
theorem Kn.saveC {H:List Pair} (h:Kn F bb q H (n,logP es) W) (hq:q<=19000) (o:LogE) (hL:Lg b (n+1) (es++[o])) :
  Calls Tryz.prog 49 #[ptrV bb,strV logK,strV (dig 8 o.idx.toNat),strV (entB o)] W (LogDone F bb (q+1) H (n+1,logP (es++[o])) W):=by
 have h1:=hL.short.1
 have h2:=hL.num
 simp only [List.length_append,List.length_cons,List.length_nil] at h1
 have hi:=log_ins hL.foll (by omega)
 have hln:=hL.short.2 o (by simp)
 have:=h.putL (by omega) (dig 8 o.idx.toNat) (entB o) (by
  have:=dig_len 8 o.idx.toNat
  unfold goodKV
  simp [this]
  omega) (by
  show ndN (n+1) (insP (dig 8 o.idx.toNat) (entB o) (logP es))<=300000
  rw [hi]
  exact log_room hL.short hL.puts)
 rw [show insP (dig 8 o.idx.toNat) (entB o) ((n,logP es):DB).2=logP (es++[o]) from hi] at this
 exact this
structure BatchOk (b n:Nat) (es:List LogE) (x y z:Int) (fr:Option Nat) (more:List LogE) (os:Option SnK) (a:Int):Prop where
 hard:I64 x/\I64 y/\I64 z
 app:I64 a
 lg:Lg b n es
 snap:∀ s,os=some s->s.k<=es.length/\I64 s.u/\ValidM s.l/\b+s.k+1000<=99999999
 cut:∀ k,fr=some k->k<=(snE os es).length
 all:Lg (snBase b os) (n+more.length) (cutE fr (snE os es)++more)
 ok:∀ o∈more,EntOk o
theorem BatchOk.base {x y z a:Int} {fr:Option Nat} {os:Option SnK} (h:BatchOk b n es x y z fr more os a):Lg (snBase b os) n (snE os es):=by
 cases os with
 | none=>exact h.lg
 | some s =>
  obtain ⟨h1,h2,h3,h4⟩:=h.snap s rfl
  exact h.lg.drop h1 h4
theorem BatchOk.part {x y z a:Int} {fr:Option Nat} {os:Option SnK} (h:BatchOk b n es x y z fr more os a) {i:Nat} (hi:i<=more.length):Lg (snBase b os) (n+i) (cutE fr (snE os es)++more.take i):=by
 have h1:=h.all
 have h2:cutE fr (snE os es)++more.take i=(cutE fr (snE os es)++more).take ((cutE fr (snE os es)).length+i):=by rw [List.take_append];simp [List.take_of_length_le]
 rw [h2]
 have:=h1.take ((cutE fr (snE os es)).length+i)
 exact ⟨this.foll,this.short,this.num,by have:=h1.puts;omega⟩
set_option maxHeartbeats 16000000 in
set_option maxRecDepth 100000 in
theorem Kn.save {hh sn ap:Bytes} (h:Kn F bb q (keptP hh sn ap) (n,logP es) W) (hq:q<=15000) (x y z:Int) (hasH:Bool) (fr:Option Nat) (A:Option Addr) (m c:Nat) (si su:Int) (A2:Option Addr) (m2 c2:Nat) (hasS:Bool) (os:Option SnK) (a:Int)
  (hB:BatchOk b n es x y z fr more os a) (hv:Sl W 4 (.slice A m c) m (more.flatMap entCs)) (hm:more.length=m) (hA:0<m->∀ b o,A=some ⟨b,o,none⟩->¬ F b)
  (hS0:os=none->hasS=false) (hS1:∀ s,os=some s->hasS=true/\si=((b+s.k:Nat):Int)/\su=s.u/\Sl W 1 (.slice A2 m2 c2) m2 (intsV s.l)/\s.l.length=m2/\∀ b o,A2=some ⟨b,o,none⟩->¬ F b) (hs1:hh.length<=200) (hs2:sn.length<=200) (hs3:ap.length<=200) :
  Calls Tryz.prog 15 #[ptrV bb,.agg #[.int .i64 x,.int .i64 y,.int .i64 z,.bool hasH,.int .i64 (fromI (snBase b os) fr),.slice A m c,.int .i64 si,.int .i64 su,.slice A2 m2 c2,.bool hasS,.int .i64 a]] W
   (LogDone F bb (q+1000) (keptP (hdV hasH x y z hh) (snV b os sn) (apV a ap)) (n+m,logP (cutE fr (snE os es)++more)) W):=by
 obtain ⟨W1,hW1⟩:=nmz (W.alloc (.cells #[.int .i64 x,.int .i64 y,.int .i64 z,.bool hasH,.int .i64 (fromI (snBase b os) fr),.slice A m c,.int .i64 si,.int .i64 su,.slice A2 m2 c2,.bool hasS,.int .i64 a] 39))
 have hb1:Below W.heap.size W W1:=by rw [<- hW1];exact (Below.refl _ _).alloc (Nat.le_refl _) _
 have bx:Blk W1 W.heap.size 39 #[.int .i64 x,.int .i64 y,.int .i64 z,.bool hasH,.int .i64 (fromI (snBase b os) fr),.slice A m c,.int .i64 si,.int .i64 su,.slice A2 m2 c2,.bool hasS,.int .i64 a]:=by rw [<- hW1];exact Blk.new _ _ _
 have hK1:=h.gap hb1
 obtain ⟨F1,hF1⟩:=nmz ((λ k=>F k/\¬ (W.heap.size<=k/\k<W1.heap.size)))
 have hFF:∀ k,F1 k->F k:=by rw [<- hF1];exact λ k e=>e.1
 have hFx:¬ F1 W.heap.size:=by rw [<- hF1];exact λ e=>e.2 ⟨Nat.le_refl _,bx.lt⟩
 rw [hF1] at hK1
 have HF:=Hdz (Anz hFF hFx)
 have HK1:=Hdz hK1
 have HBx:=Hdz (Anz bx hb1)
 have HBt:=Hdz hB
 have HV:Hid (∀ w,Keeps F1 W1 w->Sl w 4 (.slice A m c) m (more.flatMap entCs)):=λ w hk=>(hv.below hb1).keeps0 hk λ h0 b o e2 e=>hA h0 b o e2 (hFF _ e)
 have HV2:Hid (∀ s,os=some s->hasS=true/\si=((b+s.k:Nat):Int)/\su=s.u/\Sl W1 1 (.slice A2 m2 c2) m2 (intsV s.l)/\s.l.length=m2/\∀ b o,A2=some ⟨b,o,none⟩->¬ F1 b):=λ s e=>by
  obtain ⟨e1,e2,e3,e4,e5,e6⟩:=hS1 s e
  exact ⟨e1,e2,e3,e4.below hb1,e5,λ b o e7 e8=>e6 b o e7 (hFF _ e8)⟩
 have HS0:=Hdz hS0
 have HSm:=Hdz (Anz hs1 (Anz hs2 hs3))
 have HM:=Hdz hm
 have HQ:=Hdz hq
 have HW1:=Hdz hW1
 have hm70:m<=70:=by
  have:=hB.all.short.1
  rw [List.length_append] at this
  omega
 have HIx:Hid (∀ w,Calls Tryz.prog 46 #[.int .i64 (fromI (snBase b os) fr)] w λ e w'=>e=.returned (.bool fr.isSome)/\w=w'):=λ w=>by
  cases fr with
  | none=>exact isIndex_zero w
  | some k =>
   have h1:=hB.cut k rfl
   have h2:=hB.base.short.1
   have h3:=hB.base.num
   exact isIndex_ok _ w (by show (1:Int)<=((snBase b os+1+k:Nat):Int);omega) (by show ((snBase b os+1+k:Nat):Int)<=99999999;omega)
 have z9:W1.cell? ⟨W.heap.size,9,none⟩=some (.bool hasS):=bx.cell 9
 have z6:W1.cell? ⟨W.heap.size,6,none⟩=some (.int .i64 si):=bx.cell 6
 have z7:W1.cell? ⟨W.heap.size,7,none⟩=some (.int .i64 su):=bx.cell 7
 have z8:W1.cell? ⟨W.heap.size,8,none⟩=some (.slice A2 m2 c2):=bx.cell 8
 clear h hq hB hv hm hA hS0 hS1 hs1 hs2 hs3 hb1 bx hK1 hF1 hFF hFx hW1
 go_enter Tryz.func15,Tryz.ntmps15
 go_upto_if 14 with fail
 rw [HW1.out]
 go_cut [] from 5 to 22 (λ wx=>Hid (Kn F1 bb (q+100) (keptP hh (snV b os sn) ap) (n,logP (snE os es)) wx)/\Hid (Keeps F1 W1 wx))
 case first =>
  cases os with
  | none =>
   obtain rfl:=HS0.out rfl
   go_wp2_with (fail)
   go_meet
   exact ⟨HK1.out.upto (by omega),Keeps.refl _ _⟩
  | some s =>
   obtain ⟨e1,e2,e3,e4,e5,e6⟩:=HV2.out s rfl
   subst e1 e2 e3
   obtain ⟨g1,g2,g3,g4⟩:=HBt.out.snap s rfl
   have HC:=Hdz (HK1.out.saveA (by have:=HQ.out;omega) HBt.out.lg s g1 g2 A2 m2 c2 e4 e5 g3 e6 HSm.out.1 HSm.out.2.2)
   clear e4 e5 e6 g1 g2 g3 g4
   go_wp2_with (fail)
   go_must (refine HC.out.mono ?_)
   rintro e w2 ⟨rfl,hk,hkk⟩
   have HK:=Hdz hk
   have HKK:=Hdz hkk
   clear hk hkk
   go_wp2_with (fail)
   go_meet
   exact ⟨HK.out,HKK.out⟩
 case rest =>
 clear z9 z6 z7 z8
 obtain ⟨HA1,HA2⟩:=hcut
 obtain ⟨w2,rfl⟩:∃ we,we=wc:=⟨_,rfl⟩
 have z4:w2.cell? ⟨W.heap.size,4,none⟩=some (.int .i64 (fromI (snBase b os) fr)):=(HBx.out.1.keeps HA2.out HF.out.2).cell 4
 go_wp2_with (fail)
 go_must (refine (HIx.out _).mono ?_)
 rintro e w3 ⟨rfl,rfl⟩
 go_upto_if 24 with fail
 go_cut [] from 5 to 33 (λ wx=>Hid (Kn F1 bb (q+200) (keptP hh (snV b os sn) ap) (n,logP (cutE fr (snE os es))) wx)/\Hid (Keeps F1 W1 wx))
 case first =>
  cases fr with
  | none =>
   go_wp2_with (fail)
   go_meet
   exact ⟨HA1.out.upto (by omega),HA2.out⟩
  | some k =>
   have h1:=HBt.out.cut k rfl
   have h2:=HBt.out.base.short.1
   have h3:=HBt.out.base.num
   have z5:w2.cell? ⟨W.heap.size,4,none⟩=some (.int .i64 ((snBase b os+1+k:Nat):Int)):=z4
   clear z4
   have HKy:=Hdz (keepKey_ok (snBase b os+1+k) w2 (by omega))
   have HD:=Hdz λ w (hb:Below w2.heap.size w2 w)=>(HA1.out.below hb).saveB (by have:=HQ.out;omega) HBt.out.base k h1
   obtain ⟨kb,hkb⟩:=nmz (dig 8 (snBase b os+1+k))
   rw [hkb] at HKy HD
   obtain ⟨kn,hkn⟩:=nmz (snBase b os+1+k)
   rw [hkn] at HKy z5
   clear hkb hkn h1 h2 h3
   go_wp2_with (fail)
   go_must (refine HKy.out.mono ?_)
   rintro e w4 ⟨rfl,hb4⟩
   have HD4:=Hdz (HD.out w4 hb4)
   have HB4:=Hdz hb4
   clear hb4
   go_wp2_with (fail)
   go_must (refine HD4.out.mono ?_)
   rintro e w5 ⟨rfl,hk,hkk⟩
   have HK:=Hdz hk
   have HKK:Hid (Keeps F1 W1 w5):=(HA2.out.then HB4.out).go hkk
   clear hk hkk
   go_wp2_with (fail)
   go_meet
   exact ⟨HK.out.upto (by omega),HKK.out⟩
 case rest =>
 clear z4 HA1 HA2
 obtain ⟨HA1,HA2⟩:=hcut
 obtain ⟨w3,rfl⟩:∃ we,we=wc:=⟨_,rfl⟩
 have z5:w3.cell? ⟨W.heap.size,5,none⟩=some (.slice A m c):=(HBx.out.1.keeps HA2.out HF.out.2).cell 5
 have HPart:=Hdz (λ (i:Nat) (hi:i<=more.length)=>HBt.out.part hi)
 have HOk:=Hdz HBt.out.ok
 have HHd:=Hdz (Anz HBt.out.hard HBt.out.app)
 obtain ⟨base,hbase⟩:∃ l,cutE fr (snE os es)=l:=⟨_,rfl⟩
 obtain ⟨H2,hH2⟩:∃ l,keptP hh (snV b os sn) ap=l:=⟨_,rfl⟩
 obtain ⟨b2,hb2⟩:∃ l,snBase b os=l:=⟨_,rfl⟩
 have HSv:Hid ((snV b os sn).length<=200):=by
  show _<=_
  cases os with
  | none=>exact HSm.out.2.1
  | some s =>
   obtain ⟨g1,g2,g3,g4⟩:=HBt.out.snap s rfl
   exact snB_len ⟨by omega,by omega⟩ g2 g3.len.2 g3.i64
 rw [hH2,hbase] at HA1
 rw [hbase,hb2] at HPart
 have HBase:=Hdz hbase
 have HH2:=Hdz hH2
 clear hbase hH2 hb2 HBt HIx HV2 HS0
 go_wp2_with (fail)
 go_loopg [36] m (λ gk s36 wr=>∃ i:Nat,s36=.int .i64 (i:Int)/\i+gk=m/\Hid (Kn F1 bb (q+200+i) H2 (n+i,logP (base++more.take i)) wr)/\Hid (Keeps F1 W1 wr))
 case atStart=>exact ⟨0,rfl,by omega,(by have:=HA1.out;show Kn _ _ _ _ _ _;simpa using this),HA2.out⟩
 case round =>
  clear HA1 HA2
  obtain ⟨i,rfl,hi,hK1,hK2⟩:=hrel
  obtain ⟨wo,rfl⟩:∃ wo,wo=wr:=⟨_,rfl⟩
  have hKw:=Hdz (Anz hK1.out hK2.out)
  clear hK1 hK2
  by_cases hin:i<m
  ·have h1:(i:Int)<(m:Int):=by omega
   have h0:(0:Int)<=(i:Int):=by omega
   have hiL:i<more.length:=by have:=HM.out;omega
   obtain ⟨_,_,e0,_,_,hcl⟩:=HV.out wo hKw.out.2
   cases e0
   obtain ⟨blk,off,rfl,hbl,hcell⟩:=hcl (by omega)
   obtain ⟨o,ho⟩:=nmz (more[i])
   have hx:∀ r u,(entCs o)[r]? = some u->wo.cell? ⟨blk,off+(i*4+r),none⟩=some u:=λ r u hu=>by
    rw [<- ho] at hu
    have hr:r<4:=by have:=(List.getElem?_eq_some_iff.1 hu).1;simpa [entCs_len] using this
    exact hcell _ _ (by rw [flat_at entCs_len more i r hiL hr];exact hu)
   have x0:wo.cell? ⟨blk,off+i*4,none⟩=some (.int .i64 o.idx):=hx 0 _ rfl
   have x1:wo.cell? ⟨blk,off+i*4+1,none⟩=some (.int .i64 o.term):=hx 1 _ rfl
   have x2:wo.cell? ⟨blk,off+i*4+2,none⟩=some (.int .i64 o.kind):=hx 2 _ rfl
   have x3:wo.cell? ⟨blk,off+i*4+3,none⟩=some (strV o.data):=hx 3 _ rfl
   have hP1:=HPart.out (i+1) (by omega)
   have htk:more.take (i+1)=more.take i++[o]:=by rw [List.take_succ_eq_append_getElem hiL,ho]
   rw [htk,<- List.append_assoc] at hP1
   have hoi:=(Follow.right hP1.foll).1
   have hsh:=hP1.short.1
   have hnm:=hP1.num
   simp only [List.length_append,List.length_cons,List.length_nil] at hsh
   rw [List.length_append] at hoi
   have hoo:=HOk.out o (by rw [<- ho];exact List.getElem_mem hiL)
   obtain ⟨ix,hix⟩:∃ x:Nat,o.idx=(x:Int):=⟨_,hoi⟩
   have hix9:ix<=99999999:=by omega
   have hix1:(1:Int)<=(ix:Int):=by omega
   have e3:o.idx.toNat=ix:=by rw [hix];rfl
   have HIs:=Hdz λ w=>isIndex_ok (ix:Int) w hix1 (by omega)
   have hPut:=λ w (hb:Below wo.heap.size wo w)=>Kn.saveC (hKw.out.1.below hb) (by have:=HQ.out;omega) o (by rw [show n+i+1=n+(i+1) by omega];exact hP1)
   have HEn:Hid (∀ w p,Blk w p 62 #[.int .i64 (ix:Int),.int .i64 o.term,.int .i64 o.kind,strV o.data]->Calls Tryz.prog 50 #[.slice (some ⟨p,0,none⟩) 1 1] w λ e w'=>e=.returned (strV (entB o))/\Below w.heap.size w w'):=λ w p hb=>entPut_ok (some ⟨p,0,none⟩) 1 o w (by
    refine ⟨some ⟨p,0,none⟩,1,rfl,by omega,rfl,λ _=>⟨p,0,rfl,hb.lt,λ j u hj=>?_⟩⟩
    rw [Nat.zero_add,hb.cell j]
    unfold entCs at hj
    rw [hix] at hj
    simpa using hj) hoo
   have HKy:=Hdz λ w=>keepKey_ok ix w hix9
   rw [e3] at hPut
   have HPut:=Hdz hPut
   obtain ⟨kb,hkb⟩:=nmz (dig 8 ix)
   rw [hkb] at HKy HPut
   obtain ⟨eb,heb⟩:=nmz (entB o)
   rw [heb] at HEn HPut
   have HTk:Hid (base++more.take (i+1)=base++more.take i++[o]):=by show _=_;rw [htk,List.append_assoc]
   rw [hix] at x0
   have hw:IntKind.i64.wrap ((i:Int)+1)=(i:Int)+1:=IntWalk.i64_in _ (by omega)
   have HB0:Hid (Below wo.heap.size wo (wo.alloc (.cells #[.int .i64 (ix:Int),.int .i64 o.term,.int .i64 o.kind,strV o.data] 62)).drew):=((Below.refl _ _).alloc (Nat.le_refl _) _).drew
   have HX0:Hid (Blk (wo.alloc (.cells #[.int .i64 (ix:Int),.int .i64 o.term,.int .i64 o.kind,strV o.data] 62)).drew wo.heap.size 62 #[.int .i64 (ix:Int),.int .i64 o.term,.int .i64 o.kind,strV o.data]):=Blk.new _ _ _
   have u0:(wo.alloc (.cells #[.int .i64 (ix:Int),.int .i64 o.term,.int .i64 o.kind,strV o.data] 62)).cell? ⟨wo.heap.size,0,none⟩=some (.int .i64 (ix:Int)):=(Blk.new _ _ _).cell 0
   clear hx hcell hcl hbl ho hP1 htk hoi hsh hnm hoo hix hix9 hix1 e3 hPut hkb heb hiL
   go_wp2_with (fail)
   go_must (refine (HIs.out _).mono ?_)
   rintro e we ⟨rfl,rfl⟩
   clear u0
   go_wp2_with (fail)
   refine wRz ?_
   try simp only [lAz]
   refine tA 0 ?_;try simp only [lAz]
   refine tA 1 ?_;try simp only [lAz]
   obtain ⟨v0,hv0⟩:∃ v,(wo.alloc (.cells #[.int .i64 (ix:Int),.int .i64 o.term,.int .i64 o.kind,strV o.data] 62)).drew=v:=⟨_,rfl⟩
   rw [hv0]
   rw [hv0] at HB0 HX0
   have y0_0:=HX0.out.cell 0
   have y1_0:=HX0.out.cell 1
   have y2_0:=HX0.out.cell 2
   have y3_0:=HX0.out.cell 3
   clear hv0
   refine wpAny_ready (rs:=[2,4]) (by kernel_rfl) (by simp) (aCz (λ K hK=>?_) (aCz (λ K hK=>?_) AllReady.nil))
   focus
    go_simp
    apply hK
    clear hK K
    refine wpAny_ready (rs:=[3,4]) (by kernel_rfl) (by simp) (aCz (λ K hK=>?_) (aCz (λ K hK=>?_) AllReady.nil))
    focus
     go_simp
     (go_must (refine (HKy.out v0).mono ?_);rintro e v1 ⟨rfl,hb1⟩)
     have HB1:Hid (Below wo.heap.size wo v1):=HB0.out.trans (hb1.mono HB0.out.size)
     have HX1:=Hdz (HX0.out.below' hb1)
     have y0_1:=HX1.out.cell 0
     have y1_1:=HX1.out.cell 1
     have y2_1:=HX1.out.cell 2
     have y3_1:=HX1.out.cell 3
     clear hb1
     go_simp
     apply hK
     clear hK K
     refine rZz 4 λ K hK=>?_;go_simp;apply hK;clear hK K
     refine rZz 5 λ K hK=>?_;go_simp;apply hK;clear hK K
     obtain ⟨v2,hv2⟩:∃ v,v1.alloc (.cells #[.int .i64 (ix:Int),.int .i64 o.term,.int .i64 o.kind,strV o.data] 62)=v:=⟨_,rfl⟩
     have HA2:Hid (Below v1.heap.size v1 v2):=by show Below _ _ _;rw [<- hv2];exact (Below.refl _ _).alloc (Nat.le_refl _) _
     have HR2:Hid (Blk v2 v1.heap.size 62 #[.int .i64 (ix:Int),.int .i64 o.term,.int .i64 o.kind,strV o.data]):=by show Blk _ _ _ _;rw [<- hv2];exact Blk.new _ _ _
     obtain ⟨pr,hpr⟩:∃ p,v1.heap.size=p:=⟨_,rfl⟩
     rw [hv2,hpr]
     rw [hpr] at HR2
     clear hpr
     have HB2:Hid (Below wo.heap.size wo v2):=HB1.out.trans (HA2.out.mono HB1.out.size)
     have HX2:=Hdz (HX1.out.below' HA2.out)
     have y0_2:=HX2.out.cell 0
     have y1_2:=HX2.out.cell 1
     have y2_2:=HX2.out.cell 2
     have y3_2:=HX2.out.cell 3
     clear hv2 HA2
     refine rZz 6 λ K hK=>?_;go_simp
     (go_must (refine (HEn.out v2 _ (HR2.out)).mono ?_);rintro e v3 ⟨rfl,hb3⟩)
     have HB3:Hid (Below wo.heap.size wo v3):=HB2.out.trans (hb3.mono HB2.out.size)
     have HX3:=Hdz (HX2.out.below' hb3)
     have HR3:=Hdz (HR2.out.below' hb3)
     have y0_3:=HX3.out.cell 0
     have y1_3:=HX3.out.cell 1
     have y2_3:=HX3.out.cell 2
     have y3_3:=HX3.out.cell 3
     clear hb3
     go_simp
     apply hK
     clear hK K
     refine rZz 7 λ K hK=>?_;go_simp
     (go_must (refine (HPut.out v3 HB3.out).mono ?_);rintro e v4 ⟨rfl,hk4,hkk4⟩)
     have HN:Hid (Kn F1 bb (q+200+(i+1)) H2 (n+(i+1),logP (base++more.take (i+1))) v4):=by rw [HTk.out];exact hk4
     have HNK:Hid (Keeps F1 W1 v4):=(hKw.out.2.then HB3.out).go hkk4
     clear hk4 hkk4
     go_simp
     apply hK
     clear hK K
     refine rZz 8 λ K hK=>?_;go_simp;apply hK;clear hK K
     refine wDz ?_
     first | go_wp2_with (fail) | skip
     go_roundg (gk-1)
     case measure=>omega
     case rel=>exact ⟨i+1,by simp,by omega,HN.out,HNK.out⟩
    focus
     go_simp
     apply hK
     clear hK K
     refine wpAny_ready (rs:=[3,5]) (by kernel_rfl) (by simp) (aCz (λ K hK=>?_) (aCz (λ K hK=>?_) AllReady.nil))
     focus
      go_simp
      (go_must (refine (HKy.out v0).mono ?_);rintro e v1 ⟨rfl,hb1⟩)
      have HB1:Hid (Below wo.heap.size wo v1):=HB0.out.trans (hb1.mono HB0.out.size)
      have HX1:=Hdz (HX0.out.below' hb1)
      have y0_1:=HX1.out.cell 0
      have y1_1:=HX1.out.cell 1
      have y2_1:=HX1.out.cell 2
      have y3_1:=HX1.out.cell 3
      clear hb1
      go_simp
      apply hK
      clear hK K
      refine rZz 5 λ K hK=>?_;go_simp;apply hK;clear hK K
      obtain ⟨v2,hv2⟩:∃ v,v1.alloc (.cells #[.int .i64 (ix:Int),.int .i64 o.term,.int .i64 o.kind,strV o.data] 62)=v:=⟨_,rfl⟩
      have HA2:Hid (Below v1.heap.size v1 v2):=by show Below _ _ _;rw [<- hv2];exact (Below.refl _ _).alloc (Nat.le_refl _) _
      have HR2:Hid (Blk v2 v1.heap.size 62 #[.int .i64 (ix:Int),.int .i64 o.term,.int .i64 o.kind,strV o.data]):=by show Blk _ _ _ _;rw [<- hv2];exact Blk.new _ _ _
      obtain ⟨pr,hpr⟩:∃ p,v1.heap.size=p:=⟨_,rfl⟩
      rw [hv2,hpr]
      rw [hpr] at HR2
      clear hpr
      have HB2:Hid (Below wo.heap.size wo v2):=HB1.out.trans (HA2.out.mono HB1.out.size)
      have HX2:=Hdz (HX1.out.below' HA2.out)
      have y0_2:=HX2.out.cell 0
      have y1_2:=HX2.out.cell 1
      have y2_2:=HX2.out.cell 2
      have y3_2:=HX2.out.cell 3
      clear hv2 HA2
      refine rZz 6 λ K hK=>?_;go_simp
      (go_must (refine (HEn.out v2 _ (HR2.out)).mono ?_);rintro e v3 ⟨rfl,hb3⟩)
      have HB3:Hid (Below wo.heap.size wo v3):=HB2.out.trans (hb3.mono HB2.out.size)
      have HX3:=Hdz (HX2.out.below' hb3)
      have HR3:=Hdz (HR2.out.below' hb3)
      have y0_3:=HX3.out.cell 0
      have y1_3:=HX3.out.cell 1
      have y2_3:=HX3.out.cell 2
      have y3_3:=HX3.out.cell 3
      clear hb3
      go_simp
      apply hK
      clear hK K
      refine rZz 7 λ K hK=>?_;go_simp
      (go_must (refine (HPut.out v3 HB3.out).mono ?_);rintro e v4 ⟨rfl,hk4,hkk4⟩)
      have HN:Hid (Kn F1 bb (q+200+(i+1)) H2 (n+(i+1),logP (base++more.take (i+1))) v4):=by rw [HTk.out];exact hk4
      have HNK:Hid (Keeps F1 W1 v4):=(hKw.out.2.then HB3.out).go hkk4
      clear hk4 hkk4
      go_simp
      apply hK
      clear hK K
      refine rZz 8 λ K hK=>?_;go_simp;apply hK;clear hK K
      refine wDz ?_
      first | go_wp2_with (fail) | skip
      go_roundg (gk-1)
      case measure=>omega
      case rel=>exact ⟨i+1,by simp,by omega,HN.out,HNK.out⟩
     focus
      go_simp
      apply hK
      clear hK K
      obtain ⟨v1,hv1⟩:∃ v,v0.alloc (.cells #[.int .i64 (ix:Int),.int .i64 o.term,.int .i64 o.kind,strV o.data] 62)=v:=⟨_,rfl⟩
      have HA1:Hid (Below v0.heap.size v0 v1):=by show Below _ _ _;rw [<- hv1];exact (Below.refl _ _).alloc (Nat.le_refl _) _
      have HR1:Hid (Blk v1 v0.heap.size 62 #[.int .i64 (ix:Int),.int .i64 o.term,.int .i64 o.kind,strV o.data]):=by show Blk _ _ _ _;rw [<- hv1];exact Blk.new _ _ _
      obtain ⟨pr,hpr⟩:∃ p,v0.heap.size=p:=⟨_,rfl⟩
      rw [hv1,hpr]
      rw [hpr] at HR1
      clear hpr
      have HB1:Hid (Below wo.heap.size wo v1):=HB0.out.trans (HA1.out.mono HB0.out.size)
      have HX1:=Hdz (HX0.out.below' HA1.out)
      have y0_1:=HX1.out.cell 0
      have y1_1:=HX1.out.cell 1
      have y2_1:=HX1.out.cell 2
      have y3_1:=HX1.out.cell 3
      clear hv1 HA1
      refine rZz 3 λ K hK=>?_;go_simp
      (go_must (refine (HKy.out v1).mono ?_);rintro e v2 ⟨rfl,hb2⟩)
      have HB2:Hid (Below wo.heap.size wo v2):=HB1.out.trans (hb2.mono HB1.out.size)
      have HX2:=Hdz (HX1.out.below' hb2)
      have HR2:=Hdz (HR1.out.below' hb2)
      have y0_2:=HX2.out.cell 0
      have y1_2:=HX2.out.cell 1
      have y2_2:=HX2.out.cell 2
      have y3_2:=HX2.out.cell 3
      clear hb2
      go_simp
      apply hK
      clear hK K
      refine rZz 6 λ K hK=>?_;go_simp
      (go_must (refine (HEn.out v2 _ (HR2.out)).mono ?_);rintro e v3 ⟨rfl,hb3⟩)
      have HB3:Hid (Below wo.heap.size wo v3):=HB2.out.trans (hb3.mono HB2.out.size)
      have HX3:=Hdz (HX2.out.below' hb3)
      have HR3:=Hdz (HR2.out.below' hb3)
      have y0_3:=HX3.out.cell 0
      have y1_3:=HX3.out.cell 1
      have y2_3:=HX3.out.cell 2
      have y3_3:=HX3.out.cell 3
      clear hb3
      go_simp
      apply hK
      clear hK K
      refine rZz 7 λ K hK=>?_;go_simp
      (go_must (refine (HPut.out v3 HB3.out).mono ?_);rintro e v4 ⟨rfl,hk4,hkk4⟩)
      have HN:Hid (Kn F1 bb (q+200+(i+1)) H2 (n+(i+1),logP (base++more.take (i+1))) v4):=by rw [HTk.out];exact hk4
      have HNK:Hid (Keeps F1 W1 v4):=(hKw.out.2.then HB3.out).go hkk4
      clear hk4 hkk4
      go_simp
      apply hK
      clear hK K
      refine rZz 8 λ K hK=>?_;go_simp;apply hK;clear hK K
      refine wDz ?_
      first | go_wp2_with (fail) | skip
      go_roundg (gk-1)
      case measure=>omega
      case rel=>exact ⟨i+1,by simp,by omega,HN.out,HNK.out⟩
   focus
    go_simp
    apply hK
    clear hK K
    refine wpAny_ready (rs:=[2,5]) (by kernel_rfl) (by simp) (aCz (λ K hK=>?_) (aCz (λ K hK=>?_) AllReady.nil))
    focus
     go_simp
     apply hK
     clear hK K
     refine wpAny_ready (rs:=[3,5]) (by kernel_rfl) (by simp) (aCz (λ K hK=>?_) (aCz (λ K hK=>?_) AllReady.nil))
     focus
      go_simp
      (go_must (refine (HKy.out v0).mono ?_);rintro e v1 ⟨rfl,hb1⟩)
      have HB1:Hid (Below wo.heap.size wo v1):=HB0.out.trans (hb1.mono HB0.out.size)
      have HX1:=Hdz (HX0.out.below' hb1)
      have y0_1:=HX1.out.cell 0
      have y1_1:=HX1.out.cell 1
      have y2_1:=HX1.out.cell 2
      have y3_1:=HX1.out.cell 3
      clear hb1
      go_simp
      apply hK
      clear hK K
      refine rZz 5 λ K hK=>?_;go_simp;apply hK;clear hK K
      obtain ⟨v2,hv2⟩:∃ v,v1.alloc (.cells #[.int .i64 (ix:Int),.int .i64 o.term,.int .i64 o.kind,strV o.data] 62)=v:=⟨_,rfl⟩
      have HA2:Hid (Below v1.heap.size v1 v2):=by show Below _ _ _;rw [<- hv2];exact (Below.refl _ _).alloc (Nat.le_refl _) _
      have HR2:Hid (Blk v2 v1.heap.size 62 #[.int .i64 (ix:Int),.int .i64 o.term,.int .i64 o.kind,strV o.data]):=by show Blk _ _ _ _;rw [<- hv2];exact Blk.new _ _ _
      obtain ⟨pr,hpr⟩:∃ p,v1.heap.size=p:=⟨_,rfl⟩
      rw [hv2,hpr]
      rw [hpr] at HR2
      clear hpr
      have HB2:Hid (Below wo.heap.size wo v2):=HB1.out.trans (HA2.out.mono HB1.out.size)
      have HX2:=Hdz (HX1.out.below' HA2.out)
      have y0_2:=HX2.out.cell 0
      have y1_2:=HX2.out.cell 1
      have y2_2:=HX2.out.cell 2
      have y3_2:=HX2.out.cell 3
      clear hv2 HA2
      refine rZz 6 λ K hK=>?_;go_simp
      (go_must (refine (HEn.out v2 _ (HR2.out)).mono ?_);rintro e v3 ⟨rfl,hb3⟩)
      have HB3:Hid (Below wo.heap.size wo v3):=HB2.out.trans (hb3.mono HB2.out.size)
      have HX3:=Hdz (HX2.out.below' hb3)
      have HR3:=Hdz (HR2.out.below' hb3)
      have y0_3:=HX3.out.cell 0
      have y1_3:=HX3.out.cell 1
      have y2_3:=HX3.out.cell 2
      have y3_3:=HX3.out.cell 3
      clear hb3
      go_simp
      apply hK
      clear hK K
      refine rZz 7 λ K hK=>?_;go_simp
      (go_must (refine (HPut.out v3 HB3.out).mono ?_);rintro e v4 ⟨rfl,hk4,hkk4⟩)
      have HN:Hid (Kn F1 bb (q+200+(i+1)) H2 (n+(i+1),logP (base++more.take (i+1))) v4):=by rw [HTk.out];exact hk4
      have HNK:Hid (Keeps F1 W1 v4):=(hKw.out.2.then HB3.out).go hkk4
      clear hk4 hkk4
      go_simp
      apply hK
      clear hK K
      refine rZz 8 λ K hK=>?_;go_simp;apply hK;clear hK K
      refine wDz ?_
      first | go_wp2_with (fail) | skip
      go_roundg (gk-1)
      case measure=>omega
      case rel=>exact ⟨i+1,by simp,by omega,HN.out,HNK.out⟩
     focus
      go_simp
      apply hK
      clear hK K
      obtain ⟨v1,hv1⟩:∃ v,v0.alloc (.cells #[.int .i64 (ix:Int),.int .i64 o.term,.int .i64 o.kind,strV o.data] 62)=v:=⟨_,rfl⟩
      have HA1:Hid (Below v0.heap.size v0 v1):=by show Below _ _ _;rw [<- hv1];exact (Below.refl _ _).alloc (Nat.le_refl _) _
      have HR1:Hid (Blk v1 v0.heap.size 62 #[.int .i64 (ix:Int),.int .i64 o.term,.int .i64 o.kind,strV o.data]):=by show Blk _ _ _ _;rw [<- hv1];exact Blk.new _ _ _
      obtain ⟨pr,hpr⟩:∃ p,v0.heap.size=p:=⟨_,rfl⟩
      rw [hv1,hpr]
      rw [hpr] at HR1
      clear hpr
      have HB1:Hid (Below wo.heap.size wo v1):=HB0.out.trans (HA1.out.mono HB0.out.size)
      have HX1:=Hdz (HX0.out.below' HA1.out)
      have y0_1:=HX1.out.cell 0
      have y1_1:=HX1.out.cell 1
      have y2_1:=HX1.out.cell 2
      have y3_1:=HX1.out.cell 3
      clear hv1 HA1
      refine rZz 3 λ K hK=>?_;go_simp
      (go_must (refine (HKy.out v1).mono ?_);rintro e v2 ⟨rfl,hb2⟩)
      have HB2:Hid (Below wo.heap.size wo v2):=HB1.out.trans (hb2.mono HB1.out.size)
      have HX2:=Hdz (HX1.out.below' hb2)
      have HR2:=Hdz (HR1.out.below' hb2)
      have y0_2:=HX2.out.cell 0
      have y1_2:=HX2.out.cell 1
      have y2_2:=HX2.out.cell 2
      have y3_2:=HX2.out.cell 3
      clear hb2
      go_simp
      apply hK
      clear hK K
      refine rZz 6 λ K hK=>?_;go_simp
      (go_must (refine (HEn.out v2 _ (HR2.out)).mono ?_);rintro e v3 ⟨rfl,hb3⟩)
      have HB3:Hid (Below wo.heap.size wo v3):=HB2.out.trans (hb3.mono HB2.out.size)
      have HX3:=Hdz (HX2.out.below' hb3)
      have HR3:=Hdz (HR2.out.below' hb3)
      have y0_3:=HX3.out.cell 0
      have y1_3:=HX3.out.cell 1
      have y2_3:=HX3.out.cell 2
      have y3_3:=HX3.out.cell 3
      clear hb3
      go_simp
      apply hK
      clear hK K
      refine rZz 7 λ K hK=>?_;go_simp
      (go_must (refine (HPut.out v3 HB3.out).mono ?_);rintro e v4 ⟨rfl,hk4,hkk4⟩)
      have HN:Hid (Kn F1 bb (q+200+(i+1)) H2 (n+(i+1),logP (base++more.take (i+1))) v4):=by rw [HTk.out];exact hk4
      have HNK:Hid (Keeps F1 W1 v4):=(hKw.out.2.then HB3.out).go hkk4
      clear hk4 hkk4
      go_simp
      apply hK
      clear hK K
      refine rZz 8 λ K hK=>?_;go_simp;apply hK;clear hK K
      refine wDz ?_
      first | go_wp2_with (fail) | skip
      go_roundg (gk-1)
      case measure=>omega
      case rel=>exact ⟨i+1,by simp,by omega,HN.out,HNK.out⟩
    focus
     go_simp
     apply hK
     clear hK K
     obtain ⟨v1,hv1⟩:∃ v,v0.alloc (.cells #[.int .i64 (ix:Int),.int .i64 o.term,.int .i64 o.kind,strV o.data] 62)=v:=⟨_,rfl⟩
     have HA1:Hid (Below v0.heap.size v0 v1):=by show Below _ _ _;rw [<- hv1];exact (Below.refl _ _).alloc (Nat.le_refl _) _
     have HR1:Hid (Blk v1 v0.heap.size 62 #[.int .i64 (ix:Int),.int .i64 o.term,.int .i64 o.kind,strV o.data]):=by show Blk _ _ _ _;rw [<- hv1];exact Blk.new _ _ _
     obtain ⟨pr,hpr⟩:∃ p,v0.heap.size=p:=⟨_,rfl⟩
     rw [hv1,hpr]
     rw [hpr] at HR1
     clear hpr
     have HB1:Hid (Below wo.heap.size wo v1):=HB0.out.trans (HA1.out.mono HB0.out.size)
     have HX1:=Hdz (HX0.out.below' HA1.out)
     have y0_1:=HX1.out.cell 0
     have y1_1:=HX1.out.cell 1
     have y2_1:=HX1.out.cell 2
     have y3_1:=HX1.out.cell 3
     clear hv1 HA1
     refine rZz 2 λ K hK=>?_;go_simp;apply hK;clear hK K
     refine rZz 3 λ K hK=>?_;go_simp
     (go_must (refine (HKy.out v1).mono ?_);rintro e v2 ⟨rfl,hb2⟩)
     have HB2:Hid (Below wo.heap.size wo v2):=HB1.out.trans (hb2.mono HB1.out.size)
     have HX2:=Hdz (HX1.out.below' hb2)
     have HR2:=Hdz (HR1.out.below' hb2)
     have y0_2:=HX2.out.cell 0
     have y1_2:=HX2.out.cell 1
     have y2_2:=HX2.out.cell 2
     have y3_2:=HX2.out.cell 3
     clear hb2
     go_simp
     apply hK
     clear hK K
     refine rZz 6 λ K hK=>?_;go_simp
     (go_must (refine (HEn.out v2 _ (HR2.out)).mono ?_);rintro e v3 ⟨rfl,hb3⟩)
     have HB3:Hid (Below wo.heap.size wo v3):=HB2.out.trans (hb3.mono HB2.out.size)
     have HX3:=Hdz (HX2.out.below' hb3)
     have HR3:=Hdz (HR2.out.below' hb3)
     have y0_3:=HX3.out.cell 0
     have y1_3:=HX3.out.cell 1
     have y2_3:=HX3.out.cell 2
     have y3_3:=HX3.out.cell 3
     clear hb3
     go_simp
     apply hK
     clear hK K
     refine rZz 7 λ K hK=>?_;go_simp
     (go_must (refine (HPut.out v3 HB3.out).mono ?_);rintro e v4 ⟨rfl,hk4,hkk4⟩)
     have HN:Hid (Kn F1 bb (q+200+(i+1)) H2 (n+(i+1),logP (base++more.take (i+1))) v4):=by rw [HTk.out];exact hk4
     have HNK:Hid (Keeps F1 W1 v4):=(hKw.out.2.then HB3.out).go hkk4
     clear hk4 hkk4
     go_simp
     apply hK
     clear hK K
     refine rZz 8 λ K hK=>?_;go_simp;apply hK;clear hK K
     refine wDz ?_
     first | go_wp2_with (fail) | skip
     go_roundg (gk-1)
     case measure=>omega
     case rel=>exact ⟨i+1,by simp,by omega,HN.out,HNK.out⟩
  ·have h1:¬ (i:Int)<(m:Int):=by omega
   have he:i=m:=by omega
   subst he
   have HN:Hid (Kn F1 bb (q+300) H2 (n+i,logP (base++more)) wo):=by
    have:=hKw.out.1
    rw [List.take_of_length_le (by have:=HM.out;omega)] at this
    exact this.upto (by omega)
   have HNK:=Hdz hKw.out.2
   have y3:wo.cell? ⟨W.heap.size,3,none⟩=some (.bool hasH):=(HBx.out.1.keeps HNK.out HF.out.2).cell 3
   have y0:wo.cell? ⟨W.heap.size,0,none⟩=some (.int .i64 x):=(HBx.out.1.keeps HNK.out HF.out.2).cell 0
   have y1:wo.cell? ⟨W.heap.size,1,none⟩=some (.int .i64 y):=(HBx.out.1.keeps HNK.out HF.out.2).cell 1
   have y2:wo.cell? ⟨W.heap.size,2,none⟩=some (.int .i64 z):=(HBx.out.1.keeps HNK.out HF.out.2).cell 2
   clear hKw
   go_upto_if 57 with fail
   go_cut [] from 5 to 65 (λ wx=>Hid (Kn F1 bb (q+301) (keptP (hdV hasH x y z hh) (snV b os sn) ap) (n+i,logP (base++more)) wx)/\Hid (Keeps F1 W1 wx))
   case first =>
    cases hasH with
    | false =>
     go_wp2_with (fail)
     go_meet
     exact ⟨(by have:=HN.out.upto (q':=q+301) (by omega);rw [<- HH2.out] at this;exact this),HNK.out⟩
    | true =>
     have hln:=varsB_len [x,y,z] (by
      intro v hv
      simp only [List.mem_cons,List.not_mem_nil,or_false] at hv
      rcases hv with rfl | rfl | rfl
      ·exact HHd.out.1.1
      ·exact HHd.out.1.2.1
      ·exact HHd.out.1.2.2)
     simp only [List.length_cons,List.length_nil] at hln
     have hk:=HN.out
     rw [<- HH2.out] at hk
     have hP:=hk.putHard (by have:=HQ.out;omega) x y z HHd.out.1.1 HHd.out.1.2.1 HHd.out.1.2.2 (by rw [insP_hard];exact kept_small (by omega) HSv.out HSm.out.2.2)
     rw [insP_hard] at hP
     have HP:=Hdz hP
     clear hln hk hP
     go_wp2_with (fail)
     go_must (refine HP.out.mono ?_)
     rintro e w5 ⟨rfl,hk,hkk⟩
     have HK:=Hdz hk
     have HKK:=Hdz (HNK.out.go hkk)
     clear hk hkk
     go_wp2_with (fail)
     go_meet
     exact ⟨HK.out.upto (by omega),HKK.out⟩
   case rest =>
   obtain ⟨HC1,HC2⟩:=hcut
   obtain ⟨w6,rfl⟩:∃ we,we=wc:=⟨_,rfl⟩
   clear y0 y1 y2 y3 HN HNK HH2
   have y9:w6.cell? ⟨W.heap.size,10,none⟩=some (.int .i64 a):=(HBx.out.1.keeps HC2.out HF.out.2).cell 10
   have HhV:Hid ((hdV hasH x y z hh).length<=200):=by
    show _<=_
    cases hasH with
    | false=>exact HSm.out.1
    | true =>
     have hln:=varsB_len [x,y,z] (by
      intro v hv
      simp only [List.mem_cons,List.not_mem_nil,or_false] at hv
      rcases hv with rfl | rfl | rfl
      ·exact HHd.out.1.1
      ·exact HHd.out.1.2.1
      ·exact HHd.out.1.2.2)
     simp only [List.length_cons,List.length_nil] at hln
     show (varsB [x,y,z]).length<=200
     omega
   have HEnd:Hid (∀ (H3:List Pair) e w',e=Ending.returned (.int .i64 0)->Kn F1 bb (q+302) H3 (n+i,logP (base++more)) w'->Keeps F1 W1 w'->LogDone F bb (q+1000) H3 (n+i,logP (base++more)) W e w'):=λ H3 e w' h1 h2 h3=>⟨h1,(h2.less HF.out.1).upto (by omega),(Keeps.of_below (S:=F) HBx.out.2).go (h3.mono λ k _ e=>HF.out.1 k e)⟩
   by_cases ha:0<a
   ·have hln:=varsB_len [a] (by intro v hv;simp at hv;subst hv;exact HHd.out.2)
    simp only [List.length_cons,List.length_nil] at hln
    have hP:=HC1.out.putApplied (by have:=HQ.out;omega) a HHd.out.2 (by rw [insP_app];exact kept_small HhV.out HSv.out (by omega))
    rw [insP_app] at hP
    have HP:=Hdz hP
    have ha':a > 0:=ha
    have HAp:Hid (apV a ap=varsB [a]):=if_pos ha
    clear hln hP
    go_wp2_with (fail)
    go_must (refine HP.out.mono ?_)
    rintro e w7 ⟨rfl,hk,hkk⟩
    have HR:=Hdz (HEnd.out _ _ w7 rfl hk (HC2.out.go hkk))
    clear hk hkk
    go_wp2_with (fail)
    go_ret
    rw [HAp.out]
    have hR:=HR.out
    rw [<- HBase.out] at hR
    exact hR
   ·have ha':¬ a > 0:=ha
    have HAp:Hid (apV a ap=ap):=if_neg ha
    have HR:=Hdz (HEnd.out _ _ w6 rfl (HC1.out.upto (by omega)) HC2.out)
    go_wp2_with (fail)
    go_ret
    rw [HAp.out]
    have hR:=HR.out
    rw [<- HBase.out] at hR
    exact hR
end
end Go.Ev
