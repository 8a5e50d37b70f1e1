/-
  Texts of this claim.
-/
import Derived.Test.YtmfoiaaehkandaaGreatDoorMOGwSessList
set_option linter.unusedVariables false
set_option linter.unusedSimpArgs false
namespace Go.Ev
open Go.Proofs Go.RowKit
theorem ndP_le {k:Nat} {ps:List Pair} (h:ps.length<=41) (hv:sumV ps<=90000):ndP k ps<=270000:=by
 have h4:min k 17*ps.length<=17*41:=Nat.mul_le_mul (Nat.min_le_right _ _) h
 have hw:=ndP_W k ps
 unfold ndW at hw
 split at hw
 ·omega
 ·omega
theorem ndN_mono {n m:Nat} (ps:List Pair) (h:n<=m):ndN n ps<=ndN m ps:=by
 have:9776*n / 2924<=9776*m / 2924:=Nat.div_le_div_right (Nat.mul_le_mul_left _ h)
 unfold ndN
 omega
theorem ssP_sum {n:Nat} (hn:n<=99999999):∀ {l:List (Nat × Ses)},(∀ x∈l,SesGood x.2/\x.2.val.length<=2000)->sumV (ssP n l)<=2060*l.length+10
 | [],_=>by
  simp only [ssP,sesP,List.map_nil,List.nil_append,List.length_nil]
  split
  ·simp [sumV]
  ·have:=varsB_len [(n:Int)] (λ y hy=>by rw [List.mem_singleton] at hy;subst hy;exact ⟨by omega,by omega⟩)
   simp only [List.length_cons,List.length_nil] at this
   simp only [sumV]
   omega
 | x :: l,h=>by
  have ih:=ssP_sum hn λ y hy=>h y (List.mem_cons_of_mem _ hy)
  obtain ⟨g1,g2⟩:=h x (List.mem_cons_self ..)
  have:=(layS_len g1).2
  rw [ssP_cons]
  simp only [sumV,List.length_cons]
  omega
section
variable {D:DB} {F:Nat->Prop} {bb q n:Nat} {l:List (Nat × Ses)} {W W':World}
theorem ds_room {rn:Nat} {td ts:Tr} (hs:ts.ps.length<=41/\sumV ts.ps<=90000) (hd:ndP td.n td.ps<=300000) (hrn:rn<=20000) (h1:td.n<=20000) (h2:ts.n<=20000):ndT (⟨0,topP (twoDS td ts),[],rn⟩ :: (twoDS td ts).map (·.t))<=580000:=by
 have hsn:=ndP_le (k:=ts.n) hs.1 hs.2
 have h4:min rn 17*2<=17*2:=Nat.mul_le_mul (Nat.min_le_right _ _) (Nat.le_refl _)
 have hl:(topP (twoDS td ts)).length=2:=rfl
 have hv:sumV (topP (twoDS td ts))=8:=by rw [sumV_top];rfl
 have ht:ndP rn (topP (twoDS td ts))<=10000:=by
  have hw:=ndP_W rn (topP (twoDS td ts))
  simp only [ndW,hl,hv] at hw
  split at hw
  ·omega
  ·omega
 simp only [ndT,List.map_cons,List.map_nil]
 omega
theorem ds_roomy {rn:Nat} {td ts:Tr} (hs:ts.ps.length<=41/\sumV ts.ps<=90000) (hd:ndP td.n td.ps<=300000) (hrn:rn<=20000) (h1:td.n<=20000) (h2:ts.n<=20000) (name:List UInt8) (ps':List Pair) (k:Nat):Roomy 3000 rn (twoDS td ts)/\AfterB 3000 rn (twoDS td ts) name ps' k:=by
 have:=ds_room hs hd hrn h1 h2
 exact ⟨⟨hrn,twoDS_n h1 h2,by omega⟩,.inl (by omega)⟩
theorem Sn.small (h:Sn D F bb q n l W):(ssP n l).length<=41/\sumV (ssP n l)<=90000:=
 ⟨Nat.le_trans (ssP_len n l) (by have:=h.few;omega),Nat.le_trans (ssP_sum h.ok.2.2 h.good) (by have:=h.few;omega)⟩
theorem nd_data {D:DB} {td:Tr} (h:ndN D.1 D.2<=300000) (h2:td.ps=D.2) (h3:td.n<=D.1):ndP td.n td.ps<=300000:=by
 refine Nat.le_trans (ndP_N _ _) (Nat.le_trans (ndN_mono _ h3) ?_)
 rw [h2]
 exact h
theorem Sn.put {n':Nat} {l':List (Nat × Ses)} (h:Sn D F bb q n l W) (hq:q<=19000) (key v:Bytes) (hg:goodKV key v=true) (hps:insP key v (ssP n l)=ssP n' l') (hok:SesOk n' l') (hgo:∀ x∈l',SesGood x.2/\x.2.val.length<=2000) (hfew:l'.length<=40) :
  Calls Tryz.prog 49 #[ptrV bb,strV sessK,strV key,strV v] W λ e w'=>e=.returned (.int .i64 0)/\Sn D F bb (q+1) n' l' w'/\Keeps F W w':=by
 have hsm:=h.small
 obtain ⟨p,rn,td,ts,h1,h2,h3,h4,h5,h6,h7⟩:=h.ex
 rw [<- h3] at hsm
 obtain ⟨r1,r2⟩:=ds_roomy (rn:=rn) hsm (nd_data h.room h2 h7) (by omega) (by omega) (by omega) sessK (insP key v ts.ps) (ts.n+1)
 refine (h1.put sessK key v ⟨sessK,ts⟩ (getB_sess td ts) r1 r2 (by omega) (by decide) (by decide) hg).mono ?_
 rintro e w' ⟨rn',L',rfl,⟨r,ids,rfl,rfl⟩,hH,hb⟩
 rw [insB_sess] at hH
 exact ⟨rfl,⟨⟨p,rn+1,td,⟨r,insP key v ts.ps,ids,ts.n+1⟩,hH,h2,by show insP key v ts.ps=_;rw [h3,hps],by omega,by omega,by show ts.n+1<=_;omega,h7⟩,hok,hgo,hfew,h.room⟩,hb⟩
theorem Sn.del {l':List (Nat × Ses)} (h:Sn D F bb q n l W) (hq:q<=19000) (key:Bytes) (hk1:1<=key.length) (hk2:key.length<=40) (hin:(getP key (ssP n l)).isSome=true) (hps:delP key (ssP n l)=ssP n l') (hok:SesOk n l') (hgo:∀ x∈l',SesGood x.2/\x.2.val.length<=2000) (hfew:l'.length<=40) :
  Calls Tryz.prog 86 #[ptrV bb,strV sessK,strV key] W λ e w'=>e=.returned (.int .i64 0)/\Sn D F bb (q+1) n l' w'/\Keeps F W w':=by
 have hsm:=h.small
 obtain ⟨p,rn,td,ts,h1,h2,h3,h4,h5,h6,h7⟩:=h.ex
 rw [<- h3] at hsm hin
 obtain ⟨r1,r2⟩:=ds_roomy (rn:=rn) hsm (nd_data h.room h2 h7) (by omega) (by omega) (by omega) sessK (delP key ts.ps) ts.n
 refine (h1.del sessK key ⟨sessK,ts⟩ (getB_sess td ts) r1 r2 (by omega) (by decide) (by decide) hk1 hk2 hin).mono ?_
 rintro e w' ⟨rn',L',rfl,⟨r,ids,rfl,rfl⟩,hH,hb⟩
 rw [insB_sess] at hH
 exact ⟨rfl,⟨⟨p,rn+1,td,⟨r,delP key ts.ps,ids,ts.n⟩,hH,h2,by show delP key ts.ps=_;rw [h3,hps],by omega,by omega,by show ts.n<=_;omega,h7⟩,hok,hgo,hfew,h.room⟩,hb⟩
theorem Sn.putD (h:Sn D F bb q n l W) (hq:q<=19000) (key v:Bytes) (hg:goodKV key v=true) (hroom:ndN (D.1+1) (insP key v D.2)<=300000) :
  Calls Tryz.prog 49 #[ptrV bb,strV dataK,strV key,strV v] W λ e w'=>e=.returned (.int .i64 0)/\Sn (D.1+1,insP key v D.2) F bb (q+1) n l w'/\Keeps F W w':=by
 have hsm:=h.small
 obtain ⟨p,rn,td,ts,h1,h2,h3,h4,h5,h6,h7⟩:=h.ex
 rw [<- h3] at hsm
 obtain ⟨r1,r2⟩:=ds_roomy (rn:=rn) hsm (nd_data h.room h2 h7) (by omega) (by omega) (by omega) dataK (insP key v td.ps) (td.n+1)
 refine (h1.put dataK key v ⟨dataK,td⟩ (getB_data td ts) r1 r2 (by omega) (by decide) (by decide) hg).mono ?_
 rintro e w' ⟨rn',L',rfl,⟨r,ids,rfl,rfl⟩,hH,hb⟩
 rw [insB_data] at hH
 exact ⟨rfl,⟨⟨p,rn+1,⟨r,insP key v td.ps,ids,td.n+1⟩,ts,hH,by show insP key v td.ps=_;rw [h2],h3,by omega,by show td.n+1<=_;omega,by omega,by show td.n+1<=_;omega⟩,h.ok,h.good,h.few,hroom⟩,hb⟩
theorem Sn.delD (h:Sn D F bb q n l W) (hq:q<=19000) (key:Bytes) (hk1:1<=key.length) (hk2:key.length<=40) (hin:(getP key D.2).isSome=true) (hroom:ndN D.1 (delP key D.2)<=300000) :
  Calls Tryz.prog 86 #[ptrV bb,strV dataK,strV key] W λ e w'=>e=.returned (.int .i64 0)/\Sn (D.1,delP key D.2) F bb (q+1) n l w'/\Keeps F W w':=by
 have hsm:=h.small
 obtain ⟨p,rn,td,ts,h1,h2,h3,h4,h5,h6,h7⟩:=h.ex
 rw [<- h3] at hsm
 rw [<- h2] at hin
 obtain ⟨r1,r2⟩:=ds_roomy (rn:=rn) hsm (nd_data h.room h2 h7) (by omega) (by omega) (by omega) dataK (delP key td.ps) td.n
 refine (h1.del dataK key ⟨dataK,td⟩ (getB_data td ts) r1 r2 (by omega) (by decide) (by decide) hk1 hk2 hin).mono ?_
 rintro e w' ⟨rn',L',rfl,⟨r,ids,rfl,rfl⟩,hH,hb⟩
 rw [insB_data] at hH
 exact ⟨rfl,⟨⟨p,rn+1,⟨r,delP key td.ps,ids,td.n⟩,ts,hH,by show delP key td.ps=_;rw [h2],h3,by omega,by show td.n<=_;omega,by omega,by show td.n<=_;omega⟩,h.ok,h.good,h.few,hroom⟩,hb⟩
end
section
variable {D:DB} {F F':Nat->Prop} {bb q n:Nat} {l:List (Nat × Ses)} {W W':World}
theorem Sn.fence {G:Nat->Prop} (h:Sn D F bb q n l W) (hk:Keeps G W W') (h1:∀ k,k<W.heap.size->F k->¬ G k) (h2:∀ k,k<W.heap.size->F k->F' k) (h3:∀ k,W'.heap.size<=k->F' k):Sn D F' bb q n l W':=by
 obtain ⟨p,rn,td,ts,g1,g2⟩:=h.ex
 exact ⟨⟨p,rn,td,ts,g1.fence hk h1 h2 h3,g2⟩,h.ok,h.good,h.few,h.room⟩
end
def dropS (l:List (Nat × Ses)):List (Nat × Ses):=if l.length<40 then l else l.tail
def regS (n:Nat) (who:Int) (l:List (Nat × Ses)):List (Nat × Ses):=dropS l++[(n+1,⟨who,0,0,0,[]⟩)]
theorem sesGood0 {who:Int} (h:I64 who):SesGood ⟨who,0,0,0,[]⟩:=by
 refine ⟨h,?_,?_,?_,?_⟩<;>simp [I64]
theorem dropS_mem {l:List (Nat × Ses)} {x:Nat × Ses} (h:x∈dropS l):x∈l:=by
 unfold dropS at h
 split at h
 ·exact h
 ·exact List.mem_of_mem_tail h
theorem dropS_len {l:List (Nat × Ses)} (h:l.length<=40):(dropS l).length<=39:=by
 unfold dropS
 split
 ·omega
 ·rw [List.length_tail];omega
theorem dropS_ok {n:Nat} {l:List (Nat × Ses)} (h:SesOk n l):SesOk n (dropS l):=by
 unfold dropS
 split
 ·exact h
 ·cases l with
  | nil=>exact h
  | cons x l=>exact h.tail.2.2
section
variable {D:DB} {F:Nat->Prop} {bb q n:Nat} {l:List (Nat × Ses)} {W W':World}
theorem Sn.upto {q':Nat} (h:Sn D F bb q n l W) (hq:q<=q'):Sn D F bb q' n l W:=by
 obtain ⟨p,rn,td,ts,h1,h2,h3,h4,h5,h6,h7⟩:=h.ex
 exact ⟨⟨p,rn,td,ts,h1,h2,h3,by omega,by omega,by omega,h7⟩,h.ok,h.good,h.few,h.room⟩
theorem goodKV_small {k v:Bytes} (h1:1<=k.length) (h2:k.length<=40) (h3:v.length<=2000):goodKV k v=true:=by
 simp [goodKV,h1,h2,h3]
set_option maxHeartbeats 8000000 in
set_option maxRecDepth 100000 in
theorem Sn.register (h:Sn D F bb q n l W) (hq:q<=18000) (who:Int) (hw:I64 who) (hn:n+1<=99999999) :
  Calls Tryz.prog 66 #[ptrV bb,.int .i64 who] W λ e w'=>e=.returned (.tuple #[.int .i64 ((n+1:Nat):Int),.int .i64 0])/\Sn D F bb (q+3) (n+1) (regS n who l) w'/\Keeps F W w':=by
 have HLi:=Hdz (h.list (by omega))
 have HH:=Hdz h
 have hfew:=h.few
 obtain ⟨m,hm⟩:=nmz (l.length)
 rw [hm] at hfew
 have HM:=Hdz hm
 have HGe:=Hdz h.good
 have HOk:=Hdz h.ok
 have hn8:(n:Int)<99999999:=by omega
 have hn9:¬ (99999999:Int)<=(n:Int):=by omega
 have hwn:IntKind.i64.wrap ((n:Int)+1)=((n+1:Nat):Int):=by rw [IntWalk.i64_in _ (by omega)];omega
 obtain ⟨n1,hn1⟩:=nmz (n+1)
 rw [hn1] at hwn hn ⊢
 have HN1:=Hdz hn1
 have s0good:=sesGood0 hw
 have HS0:=Hdz s0good
 -- behind the dropping
 have HPost:Hid (∀ W1 q1,q1<=q+1->Sn D F bb q1 n (dropS l) W1->Calls Tryz.prog 49 #[ptrV bb,strV sessK,strV nextK,strV (varsB [(n1:Int)])] W1 λ e w'=>e=.returned (.int .i64 0)/\Sn D F bb (q1+1) n1 (dropS l) w'/\Keeps F W1 w'):=λ W1 q1 hq1 hS=>by
  have hv:=varsB_len [(n1:Int)] (λ y hy=>by rw [List.mem_singleton] at hy;subst hy;exact ⟨by omega,by omega⟩)
  simp only [List.length_cons,List.length_nil] at hv
  refine hS.put (by omega) nextK (varsB [(n1:Int)]) (goodKV_small (by decide) (by decide) (by omega)) (ss_putNext (by omega)) ?_ hS.good hS.few
  obtain ⟨a,b,c⟩:=hS.ok
  exact ⟨λ y hy=>by have:=a y hy;omega,b,hn⟩
 have HPost2:Hid (∀ W1 q1,q1<=q+2->Sn D F bb q1 n1 (dropS l) W1->Calls Tryz.prog 49 #[ptrV bb,strV sessK,strV (dig 8 n1),strV (layS ⟨who,0,0,0,[]⟩)] W1 λ e w'=>e=.returned (.int .i64 0)/\Sn D F bb (q1+1) n1 (regS n who l) w'/\Keeps F W1 w'):=λ W1 q1 hq1 hS=>by
  have hlt:∀ x∈dropS l,x.1<n1:=λ x hx=>by
   have:=(HOk.out.1 x (dropS_mem hx)).2
   have:=HN1.out
   omega
  have hreg:regS n who l=dropS l++[(n1,⟨who,0,0,0,[]⟩)]:=by unfold regS;rw [HN1.out]
  rw [hreg]
  refine hS.put (by omega) _ _ (goodKV_small (by rw [dig_len];omega) (by rw [dig_len];omega) (by have:=(layS_len HS0.out).2;simp at this;omega)) (ss_putNew (by omega) hn hlt) ?_ ?_ ?_
  ·have:=(dropS_ok HOk.out).new (s:=⟨who,0,0,0,[]⟩) (by have:=HN1.out;omega)
   rw [HN1.out] at this
   exact this
  ·intro x hx
   rcases List.mem_append.1 hx with hx | hx
   ·exact HGe.out x (dropS_mem hx)
   ·rw [List.mem_singleton] at hx
    subst hx
    exact ⟨HS0.out,by simp⟩
  ·have:=dropS_len (l:=l) (by have:=HM.out;omega)
   rw [List.length_append,List.length_cons,List.length_nil]
   omega
 have HKey:=Hdz (λ W1=>key_ok n1 W1 (by omega))
 have HLay:=Hdz (λ W1=>lay_ok ⟨who,0,0,0,[]⟩ W1 HS0.out)
 have HVar:Hid (∀ W1 g T,Calls Tryz.prog 84 #[.slice (some ⟨g,0,none⟩) 1 1] W1 (λ e w'=>e=.returned (strV (varsB [(n1:Int)]))/\Below W1.heap.size W1 w')\/¬ Blk W1 g T #[.int .i64 (n1:Int)]):=λ W1 g T=>by
  by_cases hb:Blk W1 g T #[.int .i64 (n1:Int)]
  ·exact .inl (vars_any _ 1 1 [(n1:Int)] W1 (sl_blk [.int .i64 (n1:Int)] hb) (λ y hy=>by rw [List.mem_singleton] at hy;subst hy;exact ⟨by omega,by omega⟩) (by omega))
  ·exact .inr hb
 obtain ⟨nb,hnb⟩:=nmz (varsB [(n1:Int)])
 obtain ⟨kb,hkb⟩:=nmz (dig 8 n1)
 obtain ⟨lb,hlb⟩:=nmz (layS ⟨who,0,0,0,[]⟩)
 rw [hnb] at HPost HVar
 rw [hkb] at HPost2 HKey
 rw [hlb] at HPost2 HLay
 have HNle:=Hdz hn
 have hd9:decide ((99999999:Int)<=(n:Int))=false:=decide_eq_false hn9
 clear hn9
 clear h hm hn1 s0good hnb hkb hlb hw hn hn8
 by_cases h40:m<40
 ·have h40':(m:Int)<40:=by omega
  have h40'':¬ (40:Int)<=(m:Int):=by omega
  have hds:dropS l=l:=by unfold dropS;rw [if_pos (by have:=HM.out;omega)]
  rw [hds] at HPost
  clear hds
  go_enter Tryz.func66,Tryz.ntmps66
  go_wp2_with (fail)
  go_must (refine HLi.out.mono ?_)
  rintro e w1 ⟨v,rfl,hown,hb1⟩
  rw [HM.out] at hown
  obtain ⟨A,c,rfl,_⟩:=Sl.of_own hown
  have HS1:=Hdz (HH.out.below hb1)
  have HB1:Hid (Keeps F W w1):=Keeps.of_below hb1
  have HLa:=Hdz (HS1.out.last (by omega))
  clear hown hb1
  go_wp2_with (fail)
  go_must (refine HLa.out.mono ?_)
  rintro e w2 ⟨rfl,hb2⟩
  have HS2:=Hdz (HS1.out.below hb2)
  have HB2:=Hdz (HB1.out.then hb2)
  clear hb2
  go_wp2_with (fail)
  have hv3:=HVar.out (w2.alloc (.cells #[.int .i64 (n1:Int)] 3)) w2.heap.size 3
  have hV:=hv3.resolve_right (not_not_intro (Blk.new _ _ _))
  have HS2a:=Hdz (HS2.out.below ((Below.refl _ w2).alloc (Nat.le_refl _) (.cells #[.int .i64 (n1:Int)] 3)))
  have HB2a:=Hdz (HB2.out.then ((Below.refl _ _).alloc (Nat.le_refl _) (.cells #[.int .i64 (n1:Int)] 3)))
  clear hv3
  go_must (refine hV.mono ?_)
  rintro e w3 ⟨rfl,hb3⟩
  have HS3:=Hdz (HS2a.out.below hb3)
  have HB3:=Hdz (HB2a.out.then hb3)
  have HP:=Hdz (HPost.out w3 q (by omega) HS3.out)
  clear hb3 hV
  go_wp2_with (fail)
  go_must (refine HP.out.mono ?_)
  rintro e w4 ⟨rfl,hS4,hb4⟩
  have HS4:=Hdz hS4
  have HB4:=Hdz (HB3.out.go hb4)
  have HK:=Hdz (HKey.out w4)
  clear hS4 hb4
  go_wp2_with (fail)
  go_must (refine HK.out.mono ?_)
  rintro e w5 ⟨rfl,hb5⟩
  have HS5:=Hdz (HS4.out.below hb5)
  have HB5:=Hdz (HB4.out.then hb5)
  have HLw:=Hdz (HLay.out w5)
  clear hb5
  go_wp2_with (fail)
  go_must (refine HLw.out.mono ?_)
  rintro e w6 ⟨rfl,hb6⟩
  have HS6:=Hdz (HS5.out.below hb6)
  have HB6:=Hdz (HB5.out.then hb6)
  have hds:dropS l=l:=by unfold dropS;rw [if_pos (by have:=HM.out;omega)]
  have HP2:=Hdz (HPost2.out w6 (q+1) (by omega) (by rw [hds];exact HS6.out))
  clear hb6 hds
  go_wp2_with (fail)
  go_must (refine HP2.out.mono ?_)
  rintro e w7 ⟨rfl,hS7,hb7⟩
  have HS7:=Hdz (hS7.upto (by omega:q+1+1<=q+3))
  have HB7:=Hdz (HB6.out.go hb7)
  clear hS7 hb7
  go_wp2_with (fail)
  refine bodyPost_ret (v:=.tuple #[.int .i64 (n1:Int),.int .i64 0]) (by simp [results,Tryz.results66,go_sem]) rfl ?_
  exact ⟨rfl,HS7.out,HB7.out⟩
 ·have hm40:m=40:=by omega
  have h40':¬ (m:Int)<40:=by omega
  have h40'':(40:Int)<=(m:Int):=by omega
  have hm0:0<m:=by omega
  obtain ⟨x,t,hxt⟩:∃ x t,l=x :: t:=by
   cases hl:l with
   | nil=>have:=HM.out;rw [hl] at this;simp at this;omega
   | cons x t=>exact ⟨x,t,rfl⟩
  have hds:dropS l=delS x.1 l:=by
   unfold dropS
   rw [if_neg (by have:=HM.out;omega),hxt]
   simp [delS]
  have hx8:x.1<=99999999:=by
   have:=HOk.out.1 x (by rw [hxt];exact List.mem_cons_self ..)
   have:=HOk.out.2.2
   omega
  have HDel:Hid (∀ W1,Sn D F bb q n l W1->Calls Tryz.prog 86 #[ptrV bb,strV sessK,strV (dig 8 x.1)] W1 λ e w'=>e=.returned (.int .i64 0)/\Sn D F bb (q+1) n (dropS l) w'/\Keeps F W1 w'):=λ W1 hS=>by
   refine hS.del (by omega) (dig 8 x.1) (by rw [dig_len];omega) (by rw [dig_len];omega) ?_ (by rw [hds];exact ss_del hx8 HOk.out) (dropS_ok HOk.out) (λ y hy=>HGe.out y (dropS_mem hy)) (by have:=dropS_len (l:=l) (by have:=HM.out;omega);omega)
   rw [ss_get hx8 HOk.out,hxt]
   simp [getS]
  have HKey0:=Hdz (λ W1=>key_ok x.1 W1 hx8)
  have hrow0:(intsV (l.map λ x=>(x.1:Int)))[0]? = some (.int .i64 (x.1:Int)):=by rw [hxt];rfl
  obtain ⟨id0,hid0⟩:=nmz (x.1)
  rw [hid0] at hrow0 HKey0 HDel
  obtain ⟨k0,hk0⟩:=nmz (dig 8 id0)
  rw [hk0] at HKey0 HDel
  have HRow0:=Hdz hrow0
  clear hm40 hxt hds hx8 hrow0 hid0 hk0
  go_enter Tryz.func66,Tryz.ntmps66
  go_wp2_with (fail)
  go_must (refine HLi.out.mono ?_)
  rintro e w1 ⟨v,rfl,hown,hb1⟩
  rw [HM.out] at hown
  obtain ⟨A,c,rfl,_⟩:=Sl.of_own hown
  have HS1:=Hdz (HH.out.below hb1)
  have HB1:Hid (Keeps F W w1):=Keeps.of_below hb1
  have HLa:=Hdz (HS1.out.last (by omega))
  have HSl:=Hdz (Sl.of_own hown)
  clear hown hb1
  go_wp2_with (fail)
  go_must (refine HLa.out.mono ?_)
  rintro e w2 ⟨rfl,hb2⟩
  have HS2:=Hdz (HS1.out.below hb2)
  have HB2:=Hdz (HB1.out.then hb2)
  obtain ⟨_,_,e0,_,_,hcl⟩:=HSl.out.below hb2
  cases e0
  obtain ⟨bl0,of0,rfl,_,hcell⟩:=hcl hm0
  have x00:w2.cell? ⟨bl0,of0,none⟩=some (.int .i64 (id0:Int)):=hcell 0 _ HRow0.out
  have HK0:=Hdz (HKey0.out w2)
  clear hb2 hcl hcell
  go_wp2_with (fail)
  go_must (refine HK0.out.mono ?_)
  rintro e u1 ⟨rfl,hc1⟩
  have HT1:=Hdz (HS2.out.below hc1)
  have HC1:=Hdz (HB2.out.then hc1)
  have HDe:=Hdz (HDel.out u1 HT1.out)
  clear hc1
  go_wp2_with (fail)
  go_must (refine HDe.out.mono ?_)
  rintro e u2 ⟨rfl,hT2,hc2⟩
  have HT2:=Hdz hT2
  have HC2:=Hdz (HC1.out.go hc2)
  clear hT2 hc2
  go_wp2_with (fail)
  have hv3:=HVar.out (u2.alloc (.cells #[.int .i64 (n1:Int)] 3)) u2.heap.size 3
  have hV:=hv3.resolve_right (not_not_intro (Blk.new _ _ _))
  have HS2a:=Hdz (HT2.out.below ((Below.refl _ u2).alloc (Nat.le_refl _) (.cells #[.int .i64 (n1:Int)] 3)))
  have HB2a:=Hdz (HC2.out.then ((Below.refl _ _).alloc (Nat.le_refl _) (.cells #[.int .i64 (n1:Int)] 3)))
  clear hv3
  go_must (refine hV.mono ?_)
  rintro e w3 ⟨rfl,hb3⟩
  have HS3:=Hdz (HS2a.out.below hb3)
  have HB3:=Hdz (HB2a.out.then hb3)
  have HP:=Hdz (HPost.out w3 (q+1) (by omega) HS3.out)
  clear hb3 hV
  go_wp2_with (fail)
  go_must (refine HP.out.mono ?_)
  rintro e w4 ⟨rfl,hS4,hb4⟩
  have HS4:=Hdz hS4
  have HB4:=Hdz (HB3.out.go hb4)
  have HK:=Hdz (HKey.out w4)
  clear hS4 hb4
  go_wp2_with (fail)
  go_must (refine HK.out.mono ?_)
  rintro e w5 ⟨rfl,hb5⟩
  have HS5:=Hdz (HS4.out.below hb5)
  have HB5:=Hdz (HB4.out.then hb5)
  have HLw:=Hdz (HLay.out w5)
  clear hb5
  go_wp2_with (fail)
  go_must (refine HLw.out.mono ?_)
  rintro e w6 ⟨rfl,hb6⟩
  have HS6:=Hdz (HS5.out.below hb6)
  have HB6:=Hdz (HB5.out.then hb6)
  have HP2:=Hdz (HPost2.out w6 (q+2) (by omega) HS6.out)
  clear hb6
  go_wp2_with (fail)
  go_must (refine HP2.out.mono ?_)
  rintro e w7 ⟨rfl,hS7,hb7⟩
  have HS7:=Hdz (hS7.upto (by omega:q+2+1<=q+3))
  have HB7:=Hdz (HB6.out.go hb7)
  clear hS7 hb7
  go_wp2_with (fail)
  refine bodyPost_ret (v:=.tuple #[.int .i64 (n1:Int),.int .i64 0]) (by simp [results,Tryz.results66,go_sem]) rfl ?_
  exact ⟨rfl,HS7.out,HB7.out⟩
end
end Go.Ev
