/-
  Texts of this claim.
-/
import Derived.Test.YtmfoiaaehkandaaGreatDoorMBGvAppend
import Derived.Test.YtmfoiaaehkandaaGreatDoorMBGwBuild
import Derived.Deep.LoopGhost
set_option linter.unusedVariables false
set_option linter.unusedSimpArgs false
set_option maxHeartbeats 2000000
set_option maxRecDepth 100000
namespace Go.Ev
theorem if_on {p:Prop} [Decidable p] {a b:Prop} (h:p) (ha:a):if p then a else b:=by rw [if_pos h];exact ha
def swapL (l:List Int) (i j:Nat):List Int:=(l.set i (l.getD j 0)).set j (l.getD i 0)
theorem swapL_at {l:List Int} {i j k:Nat} (hi:i<l.length) (hj:j<l.length):(swapL l i j)[k]? = if k=j then l[i]? else if k=i then l[j]? else l[k]?:=by
 unfold swapL
 rw [List.getElem?_set]
 by_cases h:j=k
 ·subst h
  rw [if_pos rfl,if_pos (by simpa using hj),if_pos rfl,List.getElem?_eq_getElem hi]
  simp [List.getD_eq_getElem?_getD,hi]
 ·rw [if_neg h,if_neg (λ e=>h e.symm),List.getElem?_set]
  by_cases h2:i=k
  ·subst h2
   rw [if_pos rfl,if_pos hi,if_pos rfl,List.getElem?_eq_getElem hj]
   simp [List.getD_eq_getElem?_getD,hj]
  ·rw [if_neg h2,if_neg (λ e=>h2 e.symm)]
theorem swapL_perm {l:List Int} {i j:Nat} (hi:i<l.length) (hj:j<l.length):(swapL l i j).Perm l:=by
 have h:=Array.swap_perm (xs:=l.toArray) (i:=i) (j:=j) (by simpa using hi) (by simpa using hj)
 have e:(l.toArray.swap i j (by simpa using hi) (by simpa using hj)).toList=swapL l i j:=by
  apply List.ext_getElem?
  intro k
  rw [swapL_at hi hj]
  simp only [Array.toList_swap,List.getElem?_set]
  by_cases h1:j=k
  ·subst h1
   by_cases h3:i=j
   ·subst h3;simp [hi]
   ·simp [hi,hj,h3]
  ·by_cases h2:i=k
   ·subst h2;simp [h1,hi,hj];intro e;exact absurd e.symm h1
   ·rw [if_neg h1,if_neg h2,if_neg (λ e=>h1 e.symm),if_neg (λ e=>h2 e.symm)]
 have:=h.toList
 rw [e] at this
 exact this
def intsV (l:List Int):List Value:=l.map (Value.int .i64)
theorem intsV_len (l:List Int):(intsV l).length=l.length:=by simp [intsV]
theorem intsV_at (l:List Int) (k:Nat):(intsV l)[k]? = (l[k]?).map (Value.int .i64):=by simp [intsV]
theorem intsV_set (l:List Int) (k:Nat) (x:Int):(intsV l).set k (.int .i64 x)=intsV (l.set k x):=by simp [intsV,List.map_set]
theorem intsV_snoc (l:List Int) (x:Int):intsV (l++[x])=intsV l++[.int .i64 x]:=by simp [intsV]
open Go.Proofs Go.RowKit
theorem lenN_any (A:Option Addr) (n c:Nat) (w:World):Calls Tryz.prog 329 #[.slice A n c] w λ e w'=>e=.returned (.int .i64 n)/\w'=w:=by
 go_enter Tryz.func329,Tryz.ntmps329
 go_wp2
 go_ret
 exact ⟨rfl,rfl⟩
theorem lessN_any (g n c i j:Nat) (x y:Int) (w:World) (hx:w.cell? ⟨g,i,none⟩=some (.int .i64 x)) (hy:w.cell? ⟨g,j,none⟩=some (.int .i64 y)) (hi:i<n) (hj:j<n) (hn:n<=1000000) :
  Calls Tryz.prog 330 #[.slice (some ⟨g,0,none⟩) n c,.int .i64 i,.int .i64 j] w λ e w'=>e=.returned (.bool (decide (x<y)))/\w'=w.drew:=by
 have hi':(i:Int)<(n:Int):=by omega
 have hj':(j:Int)<(n:Int):=by omega
 go_enter Tryz.func330,Tryz.ntmps330
 go_wp2
 refine wRz ?_
 try simp only [lAz]
 refine tA 0 ?_;try simp only [lAz]
 refine tA 1 ?_;try simp only [lAz]
 refine tA 2 ?_;try simp only [lAz]
 refine tA 4 ?_;try simp only [lAz]
 refine tA 5 ?_;try simp only [lAz]
 refine tA 6 ?_;try simp only [lAz]
 refine wpAny_ready (rs:=[3,7]) (by kernel_rfl) (by simp) (aCz (λ K hK=>?_) (aCz (λ K hK=>?_) AllReady.nil))
 ·go_simp
  apply hK
  clear hK K
  refine rZz 7 λ K hK=>?_;go_simp;apply hK;clear hK K
  refine rZz 8 λ K hK=>?_;go_simp;apply hK;clear hK K
  refine rZz 9 λ K hK=>?_;go_simp;apply hK;clear hK K
  refine wDz ?_
  go_wp2
  go_ret
  exact ⟨by simp,rfl⟩
 ·go_simp
  apply hK
  clear hK K
  refine rZz 3 λ K hK=>?_;go_simp;apply hK;clear hK K
  refine rZz 8 λ K hK=>?_;go_simp;apply hK;clear hK K
  refine rZz 9 λ K hK=>?_;go_simp;apply hK;clear hK K
  refine wDz ?_
  go_wp2
  go_ret
  exact ⟨by simp,rfl⟩
theorem swapN_any (g n c i j:Nat) (x y:Int) (w:World) (hx:w.cell? ⟨g,i,none⟩=some (.int .i64 x)) (hy:w.cell? ⟨g,j,none⟩=some (.int .i64 y)) (hi:i<n) (hj:j<n) (hn:n<=1000000)
  (fx:w.frozen? ⟨g,i,none⟩=false) (fy:w.frozen? ⟨g,j,none⟩=false) :
  Calls Tryz.prog 331 #[.slice (some ⟨g,0,none⟩) n c,.int .i64 i,.int .i64 j] w λ e w'=>e=.returned (.tuple #[])/\w'=((w.setCell ⟨g,i,none⟩ (.int .i64 y)).setCell ⟨g,j,none⟩ (.int .i64 x)).drew:=by
 have hi':(i:Int)<(n:Int):=by omega
 have hj':(j:Int)<(n:Int):=by omega
 obtain ⟨v',hy'⟩:=cell?_setCell_some (w:=w) (p:=⟨g,i,none⟩) (x:=Value.int .i64 y) (q:=⟨g,j,none⟩) (v:=.int .i64 y) hy
 go_enter Tryz.func331,Tryz.ntmps331
 go_wp2
 refine wRz ?_
 try simp only [lAz]
 refine tA 0 ?_;try simp only [lAz]
 refine tA 1 ?_;try simp only [lAz]
 refine tA 2 ?_;try simp only [lAz]
 refine tA 3 ?_;try simp only [lAz]
 refine tA 4 ?_;try simp only [lAz]
 refine tA 5 ?_;try simp only [lAz]
 refine tA 6 ?_;try simp only [lAz]
 refine tA 8 ?_;try simp only [lAz]
 refine tA 9 ?_;try simp only [lAz]
 refine tA 10 ?_;try simp only [lAz]
 refine wpAny_ready (rs:=[7,11]) (by kernel_rfl) (by simp) (aCz (λ K hK=>?_) (aCz (λ K hK=>?_) AllReady.nil))
 ·go_simp
  apply hK
  clear hK K
  refine rZz 11 λ K hK=>?_;go_simp;apply hK;clear hK K
  refine rZz 12 λ K hK=>?_;go_simp;apply hK;clear hK K
  refine rZz 13 λ K hK=>?_;go_simp;apply hK;clear hK K
  refine rZz 14 λ K hK=>?_;go_simp;apply hK;clear hK K
  refine rZz 15 λ K hK=>?_;go_simp;apply hK;clear hK K
  refine wDz ?_
  refine bodyPost_end (results_none rfl _ _ _) rfl ?_
  exact ⟨rfl,rfl⟩
 ·go_simp
  apply hK
  clear hK K
  refine rZz 7 λ K hK=>?_;go_simp;apply hK;clear hK K
  refine rZz 12 λ K hK=>?_;go_simp;apply hK;clear hK K
  refine rZz 13 λ K hK=>?_;go_simp;apply hK;clear hK K
  refine rZz 14 λ K hK=>?_;go_simp;apply hK;clear hK K
  refine rZz 15 λ K hK=>?_;go_simp;apply hK;clear hK K
  refine wDz ?_
  refine bodyPost_end (results_none rfl _ _ _) rfl ?_
  exact ⟨rfl,rfl⟩
theorem load_nums (b:Nat) (v:Value) (w:World) (h:w.cell? ⟨b,0,none⟩=some v):(loadVar 268 ⟨b,0,none⟩).run Tryz.prog w=.ok v w:=by
 simp [loadVar,Tryz.isAgg268,h,go_sem]
theorem run_wrap {P:Program} (ts:Array TypeId) (t:TypeId) (a:Addr) (x y:String) (w:World):(Builtin.ssaWrapNilChk_ ts t #[.pointer (some a),strVal x,strVal y]).run P w=.ok (.pointer (some a)) w:=rfl
theorem method_val {P:Program} {k:Nat} {t e:TypeId} {b:Nat} {name:String} {w:World} {i:TypeInfo} {m:Method} {f:FuncId} {v:Value} (hi:P.info? t=some i) (hm:i.methods.find? (·.name==name)=some m) (hp:m.path=#[]) (hf:m.func=some (f,false))
  (hu:P.underlying t=some (.pointer e)) (hl:(loadVar e ⟨b,0,none⟩).run P w=.ok v w):(method (k+1) t (.pointer (some ⟨b,0,none⟩)) name).run P w=.ok (f,v) w:=by
 unfold method
 simp only [typeInfo,Sem.run_bind]
 simp [hi,hm,hp,hf,follow,receiverAt,run_underlying hu,Place.get,run_wrap,asAddr,go_sem]
 refine (congrArg (λ r=>Result.andThen r (λ a w'=>Result.ok (f,a) w')) (?_:_=Result.ok v w)).trans rfl
 simpa [loadVar,go_sem] using hl
theorem method_of {P:Program} {k:Nat} {t e:TypeId} {b:Nat} {name:String} {w:World} {f:FuncId} {v:Value} (h:(P.info? t).bind (λ i=>(i.methods.find? (·.name==name)).map (λ m=>(m.path,m.func)))=some (#[],some (f,false)))
  (hu:P.underlying t=some (.pointer e)) (hl:(loadVar e ⟨b,0,none⟩).run P w=.ok v w):(method (k+1) t (.pointer (some ⟨b,0,none⟩)) name).run P w=.ok (f,v) w:=by
 cases hi:P.info? t with
 | none=>simp [hi] at h
 | some i =>
  cases hm:i.methods.find? (·.name==name) with
  | none=>simp [hi,hm] at h
  | some m =>
   simp only [hi,Option.bind_some,hm,Option.map_some,Option.some.injEq,Prod.mk.injEq] at h
   exact method_val hi hm h.1 h.2 hu hl
theorem m_less (b:Nat) (v:Value) (w:World) (h:w.cell? ⟨b,0,none⟩=some v):(method 540 331 (.pointer (some ⟨b,0,none⟩)) "Less").run Tryz.prog w=.ok (330,v) w:=
 method_of (by kernel_rfl) Tryz.underlying331 (load_nums b v w h)
theorem m_swap (b:Nat) (v:Value) (w:World) (h:w.cell? ⟨b,0,none⟩=some v):(method 540 331 (.pointer (some ⟨b,0,none⟩)) "Swap").run Tryz.prog w=.ok (331,v) w:=
 method_of (by kernel_rfl) Tryz.underlying331 (load_nums b v w h)
theorem m_len (b:Nat) (v:Value) (w:World) (h:w.cell? ⟨b,0,none⟩=some v):(method 540 331 (.pointer (some ⟨b,0,none⟩)) "Len").run Tryz.prog w=.ok (329,v) w:=
 method_of (by kernel_rfl) Tryz.underlying331 (load_nums b v w h)
theorem m_push (b:Nat) (w:World):(method 540 331 (.pointer (some ⟨b,0,none⟩)) "Push").run Tryz.prog w=.ok (333,.pointer (some ⟨b,0,none⟩)) w:=by kernel_rfl
theorem m_pop (b:Nat) (w:World):(method 540 331 (.pointer (some ⟨b,0,none⟩)) "Pop").run Tryz.prog w=.ok (332,.pointer (some ⟨b,0,none⟩)) w:=by kernel_rfl
abbrev rowV (g n c:Nat):Value:=.slice (some ⟨g,0,none⟩) n c
def Perms (g n c:Nat) (xs:List Int) (w:World) (keep:Nat) (wr:World):Prop:=∃ ys:List Int,ys.Perm xs/\(∀ k,keep<=k->ys[k]? = xs[k]?)/\wr.ownsRow 0 3 1 (rowV g n c) n (intsV ys)/\Keeps (λ k=>k=g) w wr
theorem up_any (b g n c j:Nat) (xs:List Int) (w:World) (hc:w.cell? ⟨b,0,none⟩=some (rowV g n c)) (hbg:b≠g) (hbl:b<w.heap.size) (hown:w.ownsRow 0 3 1 (rowV g n c) n (intsV xs)) (hj:j<n) (hn:n<=1000000) :
  Calls Tryz.prog 273 #[.iface 331 (.pointer (some ⟨b,0,none⟩)),.int .i64 j] w λ e w'=>e=.returned (.tuple #[])/\Perms g n c xs w n w':=by
 go_enter Tryz.func273,Tryz.ntmps273
 go_wp2
 go_loopg [1] j (λ gk s1 wr=>∃ j':Nat,s1=.int .i64 j'/\j'<=gk/\j'<n/\Perms g n c xs w n wr)
 case atStart=>exact ⟨j,rfl,Nat.le_refl _,hj,xs,List.Perm.refl _,λ _ _=>rfl,hown,Keeps.refl _ _⟩
 case round =>
  obtain ⟨j',rfl,hg,hjn,ys,hp,hke,ho,hk⟩:=hrel
  have hz:=hk.size
  have hc2:wr.cell? ⟨b,0,none⟩=some (rowV g n c):=(hk.cell (p:=⟨b,0,none⟩) hbl hbg).trans hc
  by_cases h0:j'=0
  ·subst h0
   go_wp2
   refine bodyPost_end (results_none rfl _ _ _) rfl ?_
   exact ⟨rfl,ys,hp,hke,ho,hk⟩
  ·obtain ⟨i,hi⟩:∃ i,i=(j'-1) / 2:=⟨_,rfl⟩
   have hi2:((j':Int)-1) / 2=(i:Int):=by omega
   have hlt:i<j':=by omega
   have hj1:(1:Int)<=(j':Int):=by omega
   have hne:((i:Int)==(j':Int))=false:=by simp;omega
   clear hi
   have hyl:ys.length=n:=by have:=ho.1;rw [intsV_len] at this;omega
   have hil:i<ys.length:=by omega
   have hjl:j'<ys.length:=by omega
   have hcx:wr.cell? ⟨g,j',none⟩=some (.int .i64 ys[j']):=by rw [ho.cellAt j' (by omega),intsV_at,List.getElem?_eq_getElem hjl];rfl
   have hcy:wr.cell? ⟨g,i,none⟩=some (.int .i64 ys[i]):=by rw [ho.cellAt i (by omega),intsV_at,List.getElem?_eq_getElem hil];rfl
   have fx:=ho.frozenAt j'
   have fy:=ho.frozenAt i
   have hml:=m_less b _ wr hc2
   have hms:=m_swap b _ wr.drew hc2
   have hL:=Hdz (lessN_any g n c j' i ys[j'] ys[i] wr hcx hcy hjn (by omega) hn)
   have hS:=Hdz (swapN_any g n c i j' ys[i] ys[j'] wr.drew hcy hcx (by omega) hjn hn fy fx)
   have hyp:=Hdz (swapL_perm hil hjl)
   have ho1:=(ho.drew.stored i (.int .i64 ys[j'])).1
   have ho2:=(ho1.stored j' (.int .i64 ys[i])).1
   rw [intsV_set,intsV_set] at ho2
   have he:(ys.set i ys[j']).set j' ys[i]=swapL ys i j':=by simp [swapL,List.getD_eq_getElem?_getD,hil,hjl]
   rw [he] at ho2
   have HO:=Hdz ho2
   have hkk:Hid (∀ k,n<=k->(swapL ys i j')[k]? = xs[k]?):=λ k hkn=>by
    rw [swapL_at hil hjl,if_neg (by omega),if_neg (by omega)]
    exact hke k hkn
   have hK2:Keeps (λ k=>k=g) w (((wr.drew.setCell ⟨g,i,none⟩ (.int .i64 ys[j'])).setCell ⟨g,j',none⟩ (.int .i64 ys[i])).drew):=((hk.drew.setCell (p:=⟨g,i,none⟩) (λ _=>rfl) _).setCell (p:=⟨g,j',none⟩) (λ _=>rfl) _).drew
   have HP:=Hdz hp
   have HKE:=Hdz hke
   clear ho1 ho2 he hyl hcx hcy fx fy hp hke
   generalize ys[j']=x at *
   generalize ys[i]=y at *
   clear hjl hil
   generalize hq:decide (x<y)=q at hL
   clear hq
   cases q with
   | true =>
    go_wp2_with (first
     | (go_at_call 330;go_must (refine hL.out.mono ?_);rintro e w1 ⟨rfl,rfl⟩)
     | (go_at_call 331;go_must (refine hS.out.mono ?_);rintro e w2 ⟨rfl,rfl⟩))
    go_roundg i
    case measure=>omega
    case rel=>exact ⟨i,rfl,Nat.le_refl _,by omega,swapL ys i j',hyp.out.trans HP.out,hkk.out,HO.out.drew,hK2⟩
   | false =>
    go_wp2_with (first
     | (go_at_call 330;go_must (refine hL.out.mono ?_);rintro e w1 ⟨rfl,rfl⟩))
    refine bodyPost_end (results_none rfl _ _ _) rfl ?_
    exact ⟨rfl,ys,HP.out,HKE.out,ho.drew,hk.drew⟩
theorem row_at {W:World} {g n c:Nat} {ys:List Int} (ho:W.ownsRow 0 3 1 (rowV g n c) n (intsV ys)) {k:Nat} (hk:k<n):∃ x,ys[k]? = some x/\W.cell? ⟨g,k,none⟩=some (.int .i64 x)/\W.frozen? ⟨g,k,none⟩=false:=by
 have hyl:ys.length=n:=by have:=ho.1;rw [intsV_len] at this;omega
 have hkl:k<ys.length:=by omega
 exact ⟨ys[k],List.getElem?_eq_getElem hkl,by rw [ho.cellAt k (by omega),intsV_at,List.getElem?_eq_getElem hkl];rfl,ho.frozenAt k⟩
theorem swapped {w wr:World} {g n c i j keep:Nat} {xs ys:List Int} {x y:Int} (hp:ys.Perm xs) (hke:∀ k,keep<=k->ys[k]? = xs[k]?) (ho:wr.ownsRow 0 3 1 (rowV g n c) n (intsV ys)) (hk:Keeps (λ k=>k=g) w wr)
  (hx:ys[i]? = some x) (hy:ys[j]? = some y) (hi:i<keep) (hj:j<keep):Perms g n c xs w keep (((wr.setCell ⟨g,i,none⟩ (.int .i64 y)).setCell ⟨g,j,none⟩ (.int .i64 x)).drew):=by
 have hil:=(List.getElem?_eq_some_iff.1 hx).1
 have hjl:=(List.getElem?_eq_some_iff.1 hy).1
 refine ⟨swapL ys i j,(swapL_perm hil hjl).trans hp,λ k hkn=>?_,?_,((hk.setCell (p:=⟨g,i,none⟩) (λ _=>rfl) _).setCell (p:=⟨g,j,none⟩) (λ _=>rfl) _).drew⟩
 ·rw [swapL_at hil hjl,if_neg (by omega),if_neg (by omega)]
  exact hke k hkn
 ·have ho1:=(ho.stored i (.int .i64 y)).1
  have ho2:=(ho1.stored j (.int .i64 x)).1
  rw [intsV_set,intsV_set] at ho2
  have he:(ys.set i y).set j x=swapL ys i j:=by simp [swapL,List.getD_eq_getElem?_getD,hx,hy]
  rw [he] at ho2
  exact ho2.drew
theorem down_any (b g n c i0 m:Nat) (xs:List Int) (w:World) (hc:w.cell? ⟨b,0,none⟩=some (rowV g n c)) (hbg:b≠g) (hbl:b<w.heap.size) (hown:w.ownsRow 0 3 1 (rowV g n c) n (intsV xs)) (hm:m<=n) (hn:n<=1000000) (hi0:i0<=n) :
  Calls Tryz.prog 258 #[.iface 331 (.pointer (some ⟨b,0,none⟩)),.int .i64 i0,.int .i64 m] w λ e w'=>(∃ q:Bool,e=.returned (.bool q))/\Perms g n c xs w m w':=by
 go_enter Tryz.func258,Tryz.ntmps258
 go_wp2
 go_loopg [7,8,9,10] (n-i0) (λ gk s7 s8 s9 s10 wr=>∃ i:Nat,s7=.int .i64 i/\n-i<=gk/\i<=n/\Perms g n c xs w m wr)
 case atStart=>exact ⟨i0,rfl,Nat.le_refl _,hi0,xs,List.Perm.refl _,λ _ _=>rfl,hown,Keeps.refl _ _⟩
 case round =>
  obtain ⟨i,rfl,hg,hin,ys,hp,hke,ho,hk⟩:=hrel
  have hz:=hk.size
  have hc2:wr.cell? ⟨b,0,none⟩=some (rowV g n c):=(hk.cell (p:=⟨b,0,none⟩) hbl hbg).trans hc
  by_cases h1:m<=2*i+1
  ·have h1':(m:Int)<=2*(i:Int)+1:=by omega
   have HP:=Hdz hp
   have HKE:=Hdz hke
   clear hp hke
   go_wp2
   go_ret
   exact ⟨⟨_,rfl⟩,ys,HP.out,HKE.out,ho,hk⟩
  ·obtain ⟨j1,hj1a,hj1b⟩:∃ j1,j1<=2*i+1/\2*i+1<=j1:=⟨_,Nat.le_refl _,Nat.le_refl _⟩
   obtain ⟨j2,hj2a,hj2b⟩:∃ j2,j2<=2*i+2/\2*i+2<=j2:=⟨_,Nat.le_refl _,Nat.le_refl _⟩
   have h1':¬ (m:Int)<=(j1:Int):=by omega
   obtain ⟨x,hx,cx,fx⟩:=row_at ho (show i<n by omega)
   obtain ⟨y1,hy1,cy1,fy1⟩:=row_at ho (show j1<n by omega)
   have hml0:=m_less b _ wr hc2
   have hml1:=m_less b _ wr.drew hc2
   have hms1:=m_swap b _ wr.drew hc2
   have hms2:=m_swap b _ wr.drew.drew hc2
   have HP:=Hdz hp
   have HKE:=Hdz hke
   have HX:=Hdz hx
   have HY1:=Hdz hy1
   clear hp hke hx hy1
   have e1:2*(i:Int)+1=(j1:Int):=by omega
   have e2:(j1:Int)+1=(j2:Int):=by omega
   by_cases h2:j2<m
   ·have h2':(j2:Int)<(m:Int):=by omega
    obtain ⟨y2,hy2,cy2,fy2⟩:=row_at ho (show j2<n by omega)
    have HY2:=Hdz hy2
    clear hy2
    have hL:=lessN_any g n c j2 j1 y2 y1 wr cy2 cy1 (by omega) (by omega) hn
    generalize hq:decide (y2<y1)=q at hL
    have HL:=Hdz hL
    clear hq hL
    cases q with
    | true =>
     have hL2:=lessN_any g n c j2 i y2 x wr.drew cy2 cx (by omega) (by omega) hn
     generalize hq2:decide (y2<x)=q2 at hL2
     have HL2:=Hdz hL2
     have HS:=Hdz (swapN_any g n c i j2 x y2 wr.drew.drew cx cy2 (by omega) (by omega) hn fx fy2)
     have HR:=Hdz (swapped (c:=c) HP.out HKE.out (wr:=wr.drew.drew) ho (hk.drew.drew) HX.out HY2.out (show i<m by omega) (show j2<m by omega))
     clear hq2 hL2
     cases q2 with
     | true =>
      go_wp2_with (fail)
      go_must (refine HL.out.mono ?_)
      rintro e w1 ⟨rfl,rfl⟩
      go_wp2_with (fail)
      go_must (refine HL2.out.mono ?_)
      rintro e w1 ⟨rfl,rfl⟩
      go_wp2_with (fail)
      go_must (refine HS.out.mono ?_)
      rintro e w2 ⟨rfl,rfl⟩
      go_wp2_with (fail)
      go_roundg (n-j2)
      case measure=>omega
      case rel=>exact ⟨j2,rfl,Nat.le_refl _,by omega,HR.out⟩
     | false =>
      go_wp2_with (fail)
      go_must (refine HL.out.mono ?_)
      rintro e w1 ⟨rfl,rfl⟩
      go_wp2_with (fail)
      go_must (refine HL2.out.mono ?_)
      rintro e w1 ⟨rfl,rfl⟩
      go_wp2_with (fail)
      go_ret
      exact ⟨⟨_,rfl⟩,ys,HP.out,HKE.out,ho,hk.drew.drew⟩
    | false =>
     have hL2:=lessN_any g n c j1 i y1 x wr.drew cy1 cx (by omega) (by omega) hn
     generalize hq2:decide (y1<x)=q2 at hL2
     have HL2:=Hdz hL2
     have HS:=Hdz (swapN_any g n c i j1 x y1 wr.drew.drew cx cy1 (by omega) (by omega) hn fx fy1)
     have HR:=Hdz (swapped (c:=c) HP.out HKE.out (wr:=wr.drew.drew) ho (hk.drew.drew) HX.out HY1.out (show i<m by omega) (show j1<m by omega))
     clear hq2 hL2
     cases q2 with
     | true =>
      go_wp2_with (fail)
      go_must (refine HL.out.mono ?_)
      rintro e w1 ⟨rfl,rfl⟩
      go_wp2_with (fail)
      go_must (refine HL2.out.mono ?_)
      rintro e w1 ⟨rfl,rfl⟩
      go_wp2_with (fail)
      go_must (refine HS.out.mono ?_)
      rintro e w2 ⟨rfl,rfl⟩
      go_wp2_with (fail)
      go_roundg (n-j1)
      case measure=>omega
      case rel=>exact ⟨j1,rfl,Nat.le_refl _,by omega,HR.out⟩
     | false =>
      go_wp2_with (fail)
      go_must (refine HL.out.mono ?_)
      rintro e w1 ⟨rfl,rfl⟩
      go_wp2_with (fail)
      go_must (refine HL2.out.mono ?_)
      rintro e w1 ⟨rfl,rfl⟩
      go_wp2_with (fail)
      go_ret
      exact ⟨⟨_,rfl⟩,ys,HP.out,HKE.out,ho,hk.drew.drew⟩
   ·have h2':¬ (j2:Int)<(m:Int):=by omega
    have hL2:=lessN_any g n c j1 i y1 x wr cy1 cx (by omega) (by omega) hn
    generalize hq2:decide (y1<x)=q2 at hL2
    have HL2:=Hdz hL2
    have HS:=Hdz (swapN_any g n c i j1 x y1 wr.drew cx cy1 (by omega) (by omega) hn fx fy1)
    have HR:=Hdz (swapped (c:=c) HP.out HKE.out (wr:=wr.drew) ho (hk.drew) HX.out HY1.out (show i<m by omega) (show j1<m by omega))
    clear hq2 hL2
    cases q2 with
    | true =>
     go_wp2_with (fail)
     go_must (refine HL2.out.mono ?_)
     rintro e w1 ⟨rfl,rfl⟩
     go_wp2_with (fail)
     go_must (refine HS.out.mono ?_)
     rintro e w2 ⟨rfl,rfl⟩
     go_wp2_with (fail)
     go_roundg (n-j1)
     case measure=>omega
     case rel=>exact ⟨j1,rfl,Nat.le_refl _,by omega,HR.out⟩
    | false =>
     go_wp2_with (fail)
     go_must (refine HL2.out.mono ?_)
     rintro e w1 ⟨rfl,rfl⟩
     go_wp2_with (fail)
     go_ret
     exact ⟨⟨_,rfl⟩,ys,HP.out,HKE.out,ho,hk.drew⟩
theorem infoInt:(Tryz.prog.info? 3).map (λ i=>(i.zero,i.size,i.bytes))=some (some (.int .i64 0),1,8):=by kernel_rfl
def Pl (w:World) (b:Nat) (v:Value) (xs:List Int):Prop:=w.cell? ⟨b,0,none⟩=some v/\w.frozen? ⟨b,0,none⟩=false/\b<w.heap.size/\w.ownsRow 0 3 1 v xs.length (intsV xs)/\v.ownBlock≠some b
def PlS (b:Nat) (v:Value) (k:Nat):Prop:=k=b\/v.ownBlock=some k
theorem row_new1 (w:World) (u:Value) (T:TypeId) (B:Nat) (hB:B=w.heap.size):∀ j v,[u][j]? = some v->((w.alloc (.cells #[u] T)).drew).cell? ((⟨B,0,none⟩:Addr).add j)=some v:=by
 intro j v h
 subst hB
 rw [addr_add]
 cases j with
 | zero=>cases h;exact (Blk.new w T #[u]).cell 0
 | succ j=>simp at h
theorem push_end {w w1:World} {b:Nat} {v v':Value} {xs:List Int} {x:Int} {o:Obj} (hbl:b<w.heap.size) (hne:v.ownBlock≠some b) (hown:w.ownsRow 0 3 1 v xs.length (intsV xs)) (hown1:w1.ownsRow 0 3 1 v' (xs.length+1) (intsV xs++[.int .i64 x]))
  (hgrow:(w.alloc o).drew.grownBy w1 v.ownBlock) (hc:w1.cell? ⟨b,0,none⟩=some v) (hf:w1.frozen? ⟨b,0,none⟩=false) (hat:∀ k,v'.ownBlock=some k->v.ownBlock=some k\/(w.alloc o).drew.heap.size<=k) :
  Pl (w1.setCell ⟨b,0,none⟩ v') b v' (xs++[x])/\Keeps (PlS b v) w (w1.setCell ⟨b,0,none⟩ v')/\(∀ k,v'.ownBlock=some k->v.ownBlock=some k\/w.heap.size<=k):=by
 have hK1:Keeps (PlS b v) w w1:=(((Keeps.refl _ w).alloc o).drew).grown hgrow (λ k hk _=>.inr hk)
 have hv':∀ k,v'.ownBlock=some k->v.ownBlock=some k\/w.heap.size<=k:=λ k hk=>(hat k hk).imp id λ h=>by
  have:(w.alloc o).drew.heap.size=w.heap.size+1:=by show (w.alloc o).heap.size=_;simp
  omega
 have hne':v'.ownBlock≠some b:=λ hk=>by
  rcases hv' b hk with h | h
  ·exact hne h
  ·omega
 refine ⟨⟨?_,?_,?_,?_,hne'⟩,hK1.setCell (p:=⟨b,0,none⟩) (λ _=>.inl rfl) _,hv'⟩
 ·exact World.cell?_setCell_same _ _ _ hc
 ·rw [World.frozen?_setCell];exact hf
 ·have:=hK1.size;simp [World.setCell];omega
 ·rw [List.length_append,intsV_snoc]
  exact own_keeps hown1 ((Keeps.refl (λ k=>k=b) w1).setCell (p:=⟨b,0,none⟩) (λ _=>rfl) _) (λ k hk e=>hne' (e ▸ hk))
theorem pushN_any (b:Nat) (v:Value) (xs:List Int) (x:Int) (w:World) (h:Pl w b v xs) (hn:xs.length<=900000) :
  Calls Tryz.prog 333 #[.pointer (some ⟨b,0,none⟩),.iface 3 (.int .i64 x)] w λ e w'=>e=.returned (.tuple #[])/\∃ v',Pl w' b v' (xs++[x])/\Keeps (PlS b v) w w'/\(∀ k,v'.ownBlock=some k->v.ownBlock=some k\/w.heap.size<=k):=by
 obtain ⟨i0,hi,hz0,hz1,hz2⟩:=info_parts infoInt
 obtain ⟨hc,hf,hbl,hown,hne⟩:=h
 obtain ⟨A,c,rfl,_⟩:=Sl.of_own hown
 have hta:∀ w,(Instr.typeAssert (.iface 3 (.int .i64 x)) 20 3 false).run Tryz.prog w=.ok (.int .i64 x) w:=λ _=>by kernel_rfl
 have HC:Hid (∀ {o:Obj} (w1:World),(w.alloc o).drew.grownBy w1 (Value.ownBlock (.slice A xs.length c))->w1.cell? ⟨b,0,none⟩=some (.slice A xs.length c)):=λ {o} w1 hg =>
  (World.cell?_of_block (a:=⟨b,0,none⟩) (hg.block b (by show b<(w.alloc o).heap.size;simp;omega) (λ e=>hne e.symm))).trans ((World.cell?_alloc_past _ _ _ hbl).trans hc)
 have HF:Hid (∀ {o:Obj} (w1:World),(w.alloc o).drew.grownBy w1 (Value.ownBlock (.slice A xs.length c))->w1.frozen? ⟨b,0,none⟩=false):=λ {o} w1 hg =>
  (World.frozen?_of_block (a:=⟨b,0,none⟩) (hg.block b (by show b<(w.alloc o).heap.size;simp;omega) (λ e=>hne e.symm))).trans ((Below.frozen ((Below.refl w.heap.size w).alloc (Nat.le_refl _) o) (p:=⟨b,0,none⟩) hbl).trans hf)
 go_enter Tryz.func333,Tryz.ntmps333
 go_wp2
 refine wRz ?_
 try simp only [lAz]
 refine tA 0 ?_;try simp only [lAz]
 refine tA 1 ?_;try simp only [lAz]
 refine tA 2 ?_;try simp only [lAz]
 refine tA 4 ?_;try simp only [lAz]
 refine tA 5 ?_;try simp only [lAz]
 refine wpAny_ready (rs:=[3,6]) (by kernel_rfl) (by simp) (aCz (λ K hK=>?_) (aCz (λ K hK=>?_) AllReady.nil))
 ·go_simp
  apply hK
  clear hK K
  refine rZz 6 λ K hK=>?_;go_simp;apply hK;clear hK K
  refine rZz 7 λ K hK=>?_;refine if_on rfl ?_
  go_must (refine wp_append_at _ _ 268 rfl 0 3 i0 _ 1 8 Tryz.underlying268 hi hz0 hz1 hz2 rfl (by decide) _ xs.length (intsV xs) rfl (World.ownsRow.alloc hown _) ⟨w.heap.size,0,none⟩ 1 1 [.int .i64 x] rfl rfl ?_ (by simp [Value.oneCell']) (by unfold maxLen;omega) (by omega) (Nat.zero_le _) ?_)
  ·exact row_new1 _ _ _ _ rfl
  intro v' w1 hown1 hgrow hat
  obtain ⟨A',c',rfl,_⟩:=Sl.of_own hown1
  have hw1:w1.cell? ⟨b,0,none⟩=some (.slice A xs.length c):=HC.out w1 hgrow
  have hf1:w1.frozen? ⟨b,0,none⟩=false:=HF.out w1 hgrow
  have HE:=Hdz (push_end (x:=x) hbl hne hown hown1 hgrow hw1 hf1 hat)
  go_simp
  apply hK
  clear hK K
  refine rZz 8 λ K hK=>?_;go_simp;apply hK;clear hK K
  refine rZz 9 λ K hK=>?_;go_simp;apply hK;clear hK K
  refine wDz ?_
  refine bodyPost_end (results_none rfl _ _ _) rfl ?_
  exact ⟨rfl,_,HE.out⟩
 ·go_simp
  apply hK
  clear hK K
  refine rZz 3 λ K hK=>?_;go_simp;apply hK;clear hK K
  refine rZz 7 λ K hK=>?_;refine if_on rfl ?_
  go_must (refine wp_append_at _ _ 268 rfl 0 3 i0 _ 1 8 Tryz.underlying268 hi hz0 hz1 hz2 rfl (by decide) _ xs.length (intsV xs) rfl (World.ownsRow.alloc hown _) ⟨w.heap.size,0,none⟩ 1 1 [.int .i64 x] rfl rfl ?_ (by simp [Value.oneCell']) (by unfold maxLen;omega) (by omega) (Nat.zero_le _) ?_)
  ·exact row_new1 _ _ _ _ rfl
  intro v' w1 hown1 hgrow hat
  obtain ⟨A',c',rfl,_⟩:=Sl.of_own hown1
  have hw1:w1.cell? ⟨b,0,none⟩=some (.slice A xs.length c):=HC.out w1 hgrow
  have hf1:w1.frozen? ⟨b,0,none⟩=false:=HF.out w1 hgrow
  have HE:=Hdz (push_end (x:=x) hbl hne hown hown1 hgrow hw1 hf1 hat)
  go_simp
  apply hK
  clear hK K
  refine rZz 8 λ K hK=>?_;go_simp;apply hK;clear hK K
  refine rZz 9 λ K hK=>?_;go_simp;apply hK;clear hK K
  refine wDz ?_
  refine bodyPost_end (results_none rfl _ _ _) rfl ?_
  exact ⟨rfl,_,HE.out⟩
theorem Pl.row {w:World} {b:Nat} {v:Value} {xs:List Int} (h:Pl w b v xs) (hp:0<xs.length):∃ g c,v=rowV g xs.length c/\b≠g/\g<w.heap.size:=by
 obtain ⟨hc,hf,hbl,hown,hne⟩:=h
 rcases hown.2 with ⟨_,h0⟩ | ⟨g,cap,cur,hv,hbb,hheap,_⟩
 ·omega
 ·exact ⟨g,cap,hv,λ e=>hne (by rw [hv,e];rfl),(Array.getElem?_eq_some_iff.1 hheap).1⟩
theorem popN_any (b g c:Nat) (xs:List Int) (x:Int) (w:World) (h:Pl w b (rowV g (xs.length+1) c) (xs++[x])) (hn:xs.length<=900000) :
  Calls Tryz.prog 332 #[.pointer (some ⟨b,0,none⟩)] w λ e w'=>e=.returned (.iface 3 (.int .i64 x))/\Pl w' b (rowV g xs.length c) xs/\Keeps (λ k=>k=b) w w':=by
 obtain ⟨hc,hf,hbl,hown,hne⟩:=h
 have hl:(xs++[x]).length=xs.length+1:=by simp
 rw [hl] at hown
 have hcx:w.cell? ⟨g,xs.length,none⟩=some (.int .i64 x):=by
  rw [hown.cellAt xs.length (by omega),intsV_at];simp
 have hnc:xs.length+1<=c:=by
  obtain ⟨_,_,e,h1,_⟩:=Sl.of_own hown
  cases e;exact h1
 have hle:xs.length<=c:=by omega
 have hend:Pl (w.setCell ⟨b,0,none⟩ (rowV g xs.length c)) b (rowV g xs.length c) xs/\Keeps (λ k=>k=b) w (w.setCell ⟨b,0,none⟩ (rowV g xs.length c)):=by
  have hK:=(Keeps.refl (λ k=>k=b) w).setCell (p:=⟨b,0,none⟩) (λ _=>rfl) (rowV g xs.length c)
  refine ⟨⟨World.cell?_setCell_same _ _ _ hc,by rw [World.frozen?_setCell];exact hf,by simpa [World.setCell] using hbl,?_,hne⟩,hK⟩
  rcases hown.2 with ⟨_,h0⟩ | ⟨g',cap,cur,hv,hbb,hheap,hnc',hcm,hcs,hcx'⟩
  ·omega
  ·simp only [rowV,Value.slice.injEq,Option.some.injEq,Addr.mk.injEq,and_true,true_and] at hv
   obtain ⟨rfl,rfl⟩:=hv
   have hgb:g≠b:=λ e=>hne (by rw [e];rfl)
   refine own_of ((hK.block g (Array.getElem?_eq_some_iff.1 hheap).1 hgb).trans hheap) hbb (by omega) hcm hcs (by simp [intsV]) λ j hj=>?_
   have:=congrArg (λ l=>l[j]?) hcx'
   simp only [List.getElem?_take,intsV_snoc] at this
   rw [if_pos (by omega),List.getElem?_append_left (by rw [intsV_len];omega)] at this
   simpa using this
 have HE:=Hdz hend
 clear hend hown hne hl
 generalize xs.length=n at *
 go_enter Tryz.func332,Tryz.ntmps332
 go_wp2
 go_ret
 exact ⟨rfl,HE.out⟩
def PlK (b:Nat) (v v':Value) (w w':World):Prop:=Keeps (PlS b v) w w'/\∀ k,v'.ownBlock=some k->v.ownBlock=some k\/w.heap.size<=k
theorem PlK.refl (b:Nat) (v:Value) (w:World):PlK b v v w w:=⟨Keeps.refl _ _,λ _ h=>.inl h⟩
theorem PlK.trans {b:Nat} {v v1 v2:Value} {w w1 w2:World} (h:PlK b v v1 w w1) (h2:PlK b v1 v2 w1 w2):PlK b v v2 w w2:=by
 refine ⟨h.1.trans h2.1 λ i hi hs=>?_,λ k hk=>?_⟩
 ·rcases hs with hs | hs
  ·exact .inl hs
  ·rcases h.2 i hs with h | h
   ·exact .inr h
   ·omega
 ·rcases h2.2 k hk with h' | h'
  ·exact h.2 k h'
  ·have:=h.1.size;exact .inr (by omega)
theorem Pl.perms {w w':World} {b g n c keep:Nat} {xs:List Int} (hl:xs.length=n) (h:Pl w b (rowV g n c) xs) (hp:Perms g n c xs w keep w'):∃ ys,Pl w' b (rowV g n c) ys/\ys.Perm xs/\(∀ k,keep<=k->ys[k]? = xs[k]?)/\PlK b (rowV g n c) (rowV g n c) w w':=by
 obtain ⟨hc,hf,hbl,hown,hne⟩:=h
 obtain ⟨ys,h1,h2,h3,h4⟩:=hp
 have hbg:b≠g:=λ e=>hne (by rw [e];rfl)
 have hyl:ys.length=n:=h1.length_eq.trans hl
 refine ⟨ys,⟨(h4.cell (p:=⟨b,0,none⟩) hbl hbg).trans hc,(h4.frozen (p:=⟨b,0,none⟩) hbl hbg).trans hf,Nat.lt_of_lt_of_le hbl h4.size,by rw [hyl];exact h3,hne⟩,h1,h2,h4.mono λ i _ hi=>.inr (by rw [hi];rfl),λ k hk=>.inl hk⟩
def PushPost (b:Nat) (v:Value) (xs:List Int) (x:Int) (w:World) (e:Ending) (w':World):Prop:=e=.returned (.tuple #[])/\∃ v' ys,Pl w' b v' ys/\ys.Perm (x :: xs)/\PlK b v v' w w'
theorem hpush_any (b:Nat) (v:Value) (xs:List Int) (x:Int) (w:World) (h:Pl w b v xs) (hn:xs.length<=800000) :
  Calls Tryz.prog 244 #[.iface 331 (.pointer (some ⟨b,0,none⟩)),.iface 3 (.int .i64 x)] w (PushPost b v xs x w):=by
 have hP:=Hdz (pushN_any b v xs x w h (by omega))
 have hm1:=m_push b
 have HH:=Hdz h
 clear h
 go_enter Tryz.func244,Tryz.ntmps244
 go_wp2_with (fail)
 go_must (refine hP.out.mono ?_)
 rintro e w1 ⟨rfl,v1,hp1,hk1,hv1⟩
 obtain ⟨g,c,rfl,hbg,hgl⟩:=hp1.row (by simp)
 have hl:(xs++[x]).length=xs.length+1:=by simp
 rw [hl] at hp1 hv1
 have hml:=m_len b _ w1 hp1.1
 have hU:=Hdz (up_any b g (xs.length+1) c xs.length (xs++[x]) w1 hp1.1 hbg hp1.2.2.1 (by have:=hp1.2.2.2.1;rw [hl] at this;exact this) (by omega) (by omega))
 have HP1:=Hdz hp1
 clear hp1 hm1 hl
 have hlx:=Hdz (show (xs++[x]).length=xs.length+1 by simp)
 generalize xs.length=n at *
 go_wp2_with (first
  | (go_at_call 329;go_must (refine (lenN_any _ _ _ _).mono ?_);rintro e w2 ⟨rfl,rfl⟩)
  | (go_at_call 273;go_must (refine hU.out.mono ?_);rintro e w2 ⟨rfl,hperm⟩))
 refine bodyPost_end (results_none rfl _ _ _) rfl ?_
 obtain ⟨ys,q1,q2,q3,q4⟩:=HP1.out.perms hlx.out hperm
 exact ⟨rfl,_,ys,q1,q2.trans (List.perm_append_singleton x xs),PlK.trans ⟨hk1,hv1⟩ q4⟩
def PopPost (b:Nat) (v:Value) (x:Int) (xs:List Int) (r:Value) (w:World) (e:Ending) (w':World):Prop:=e=.returned r/\∃ v' ys,Pl w' b v' ys/\ys.Perm xs/\PlK b v v' w w'
theorem last_of {ys xs:List Int} {x:Int} {n:Nat} (h:ys.Perm xs) (hl:xs.length=n+1) (hk:ys[n]? = some x):∃ zs,ys=zs++[x]/\zs.length=n:=by
 have hyl:ys.length=n+1:=h.length_eq.trans hl
 refine ⟨ys.take n,?_,by rw [List.length_take];omega⟩
 have:=List.take_append_drop n ys
 rw [<- this]
 congr 1
 ·rw [this]
 ·apply List.ext_getElem?
  intro i
  rw [List.getElem?_drop]
  cases i with
  | zero=>rw [Nat.add_zero,hk];rfl
  | succ i=>rw [List.getElem?_eq_none (by omega)];rfl
theorem hpop_any (b:Nat) (v:Value) (x:Int) (xs:List Int) (w:World) (h:Pl w b v (x :: xs)) (hn:xs.length<=800000) :
  Calls Tryz.prog 260 #[.iface 331 (.pointer (some ⟨b,0,none⟩))] w (PopPost b v x xs (.iface 3 (.int .i64 x)) w):=by
 obtain ⟨g,c,rfl,hbg,hgl⟩:=h.row (by simp)
 have hl:(x :: xs).length=xs.length+1:=rfl
 rw [hl] at h
 obtain ⟨hc,hf,hbl,hown,hne⟩:=id h
 rw [hl] at hown
 have hml:=m_len b _ w hc
 have hms:=m_swap b _ w hc
 have hmp:=m_pop b
 obtain ⟨x0,hx0,cx,fx⟩:=row_at hown (show 0<xs.length+1 by omega)
 cases hx0
 obtain ⟨y,hy,cy,fy⟩:=row_at hown (show xs.length<xs.length+1 by omega)
 have hS:=Hdz (swapN_any g (xs.length+1) c 0 xs.length x y w cx cy (by omega) (by omega) (by omega) fx fy)
 obtain ⟨ys,q1,q2,q3,q4⟩:=h.perms rfl (swapped (c:=c) (keep:=xs.length+1) (List.Perm.refl _) (λ _ _=>rfl) hown (Keeps.refl _ w) (show (x :: xs)[0]? = some x from rfl) hy (by omega) (by omega))
 have hyn:ys[xs.length]? = some x:=by
  have h1:=q1.2.2.2.1
  have h2:(((w.setCell ⟨g,0,none⟩ (.int .i64 y)).setCell ⟨g,xs.length,none⟩ (.int .i64 x)).drew).cell? ⟨g,xs.length,none⟩=some (.int .i64 x):=by
   obtain ⟨u,hu⟩:=cell?_setCell_some (w:=w) (p:=⟨g,0,none⟩) (x:=Value.int .i64 y) (q:=⟨g,xs.length,none⟩) (v:=.int .i64 y) cy
   exact World.cell?_setCell_same _ _ _ hu
  have hyl:=q2.length_eq
  rw [show ys.length=xs.length+1 from hyl] at h1
  rw [h1.cellAt xs.length (by omega),intsV_at] at h2
  cases hq:ys[xs.length]? with
  | none=>rw [hq] at h2;cases h2
  | some z=>rw [hq] at h2;cases h2;rfl
 have hyl:ys.length=xs.length+1:=q2.length_eq
 have hD:=Hdz (λ W (hW:W=(((w.setCell ⟨g,0,none⟩ (.int .i64 y)).setCell ⟨g,xs.length,none⟩ (.int .i64 x)).drew))=>down_any b g (xs.length+1) c 0 xs.length ys W (by rw [hW];exact q1.1) hbg (by rw [hW];exact q1.2.2.1) (by rw [hW,<- hyl];have:=q1.2.2.2.1;rw [hyl] at this ⊢;exact this) (by omega) (by omega) (by omega))
 have hEnd:Hid (∀ w3,Perms g (xs.length+1) c ys (((w.setCell ⟨g,0,none⟩ (.int .i64 y)).setCell ⟨g,xs.length,none⟩ (.int .i64 x)).drew) xs.length w3 →
   Calls Tryz.prog 332 #[.pointer (some ⟨b,0,none⟩)] w3 (PopPost b (rowV g (xs.length+1) c) x xs (.iface 3 (.int .i64 x)) w)):=by
  intro w3 hp3
  obtain ⟨ys2,r1,r2,r3,r4⟩:=q1.perms hyl hp3
  obtain ⟨zs,rfl,hzl⟩:=last_of r2 hyl ((r3 _ (Nat.le_refl _)).trans hyn)
  rw [<- hzl] at r1 r4
  refine (popN_any b g c zs x w3 r1 (by omega)).mono ?_
  rintro e w4 ⟨he,hp,hk⟩
  refine ⟨he,_,zs,hp,?_,?_⟩
  ·have h1:(zs++[x]).Perm (x :: xs):=r2.trans q2
   exact List.Perm.cons_inv ((List.perm_append_singleton x zs).symm.trans h1)
  ·have h5:PlK b (rowV g (zs.length+1) c) (rowV g zs.length c) w3 w4:=⟨hk.mono λ _ _ e=>.inl e,λ k hk=>.inl hk⟩
   rw [hzl] at r4 h5 ⊢
   exact (q4.trans r4).trans h5
 clear hyn hyl q1 q2 q3 q4 hy hown hne h
 go_enter Tryz.func260,Tryz.ntmps260
 go_wp2_with (first
  | (go_at_call 329;go_must (refine (lenN_any _ _ _ _).mono ?_);rintro e w2 ⟨rfl,rfl⟩)
  | (go_at_call 331;go_must (refine hS.out.mono ?_);rintro e w2 ⟨rfl,rfl⟩))
 go_must (refine (hD.out _ rfl).mono ?_)
 rintro e w3 ⟨⟨q,rfl⟩,hp3⟩
 go_wp2_with (fail)
 go_must (refine (hEnd.out _ hp3).mono ?_)
 rintro e w4 ⟨rfl,hrest⟩
 go_wp2_with (fail)
 go_ret
 exact ⟨rfl,hrest⟩
theorem pileLen_any (b:Nat) (v:Value) (xs:List Int) (w:World) (h:Pl w b v xs) (hn:xs.length<=800000) :
  Calls Tryz.prog 259 #[.pointer (some ⟨b,0,none⟩)] w λ e w'=>e=.returned (.int .i64 xs.length)/\w'=w:=by
 obtain ⟨hc,hf,hbl,hown,hne⟩:=h
 obtain ⟨A,c,rfl,_⟩:=Sl.of_own hown
 go_enter Tryz.func259,Tryz.ntmps259
 go_wp2
 go_ret
 exact ⟨rfl,rfl⟩
def firstV:List Int->Value
 | []=>.tuple #[.int .i64 0,.bool false]
 | x :: _=>.tuple #[.int .i64 x,.bool true]
theorem pileFirst_any (b:Nat) (v:Value) (xs:List Int) (w:World) (h:Pl w b v xs) (hn:xs.length<=800000) :
  Calls Tryz.prog 221 #[.pointer (some ⟨b,0,none⟩)] w λ e w'=>e=.returned (firstV xs)/\w'=w:=by
 have hL:=Hdz (pileLen_any b v xs w h hn)
 cases xs with
 | nil =>
  go_enter Tryz.func221,Tryz.ntmps221
  go_wp2_with (fail)
  go_must (refine hL.out.mono ?_)
  rintro e w1 ⟨rfl,rfl⟩
  go_wp2_with (fail)
  go_ret2
  exact ⟨rfl,rfl⟩
 | cons x xs =>
  obtain ⟨g,c,rfl,hbg,hgl⟩:=h.row (by simp)
  obtain ⟨hc,hf,hbl,hown,hne⟩:=h
  obtain ⟨x0,hx0,cx,fx⟩:=row_at (n:=(x :: xs).length) hown (show 0<(x :: xs).length by simp)
  cases hx0
  have hpos:((((x :: xs).length:Nat):Int)==0)=false:=by simp<;>omega
  have hpos2:(0:Int)<(((x :: xs).length:Nat):Int):=by simp<;>omega
  have hpos3:0<(x :: xs).length:=by simp
  clear hown
  have HF:=Hdz (show firstV (x :: xs)=.tuple #[.int .i64 x,.bool true] from rfl)
  rw [HF.out]
  generalize (x :: xs).length=n at *
  go_enter Tryz.func221,Tryz.ntmps221
  go_wp2_with (fail)
  go_must (refine hL.out.mono ?_)
  rintro e w1 ⟨rfl,rfl⟩
  go_wp2_with (fail)
  go_ret2
  exact ⟨rfl,rfl⟩
def TakePost (b:Nat) (v:Value) (xs:List Int) (w:World) (e:Ending) (w':World):Prop:=e=.returned (firstV xs)/\∃ v' ys,Pl w' b v' ys/\ys.Perm xs.tail/\PlK b v v' w w'
theorem pileTake_any (b:Nat) (v:Value) (xs:List Int) (w:World) (h:Pl w b v xs) (hn:xs.length<=800000) :
  Calls Tryz.prog 223 #[.pointer (some ⟨b,0,none⟩)] w (TakePost b v xs w):=by
 have hL:=Hdz (pileLen_any b v xs w h hn)
 cases xs with
 | nil =>
  have HH:=Hdz h
  clear h
  go_enter Tryz.func223,Tryz.ntmps223
  go_wp2_with (fail)
  go_must (refine hL.out.mono ?_)
  rintro e w1 ⟨rfl,rfl⟩
  go_wp2_with (fail)
  go_ret2
  exact ⟨rfl,v,[],HH.out,List.Perm.refl _,PlK.refl _ _ _⟩
 | cons x xs =>
  have hP:=Hdz (hpop_any b v x xs w h (by simp at hn;omega))
  have hta:∀ w,(Instr.typeAssert (.iface 3 (.int .i64 x)) 20 3 false).run Tryz.prog w=.ok (.int .i64 x) w:=λ _=>by kernel_rfl
  have hpos:((((x :: xs).length:Nat):Int)==0)=false:=by simp<;>omega
  clear h
  generalize (x :: xs).length=n at *
  go_enter Tryz.func223,Tryz.ntmps223
  go_wp2_with (fail)
  go_must (refine hL.out.mono ?_)
  rintro e w1 ⟨rfl,rfl⟩
  go_wp2_with (fail)
  go_must (refine hP.out.mono ?_)
  rintro e w2 ⟨rfl,hrest⟩
  go_wp2_with (fail)
  go_ret2
  exact ⟨rfl,hrest⟩
def PutNPost (b:Nat) (v:Value) (l xs:List Int) (w:World) (e:Ending) (w':World):Prop:=e=.returned (.tuple #[])/\∃ v' ys,Pl w' b v' ys/\ys.Perm (l++xs)/\PlK b v v' w w'
theorem pilePut_any (b:Nat) (v:Value) (xs l:List Int) (A:Option Addr) (m d:Nat) (w:World) (h:Pl w b v xs) (hl:Sl w 1 (.slice A m d) m (intsV l)) (hA:∀ a,A=some a->¬ PlS b v a.block) (hn:xs.length+m<=800000) :
  Calls Tryz.prog 210 #[.pointer (some ⟨b,0,none⟩),.slice A m d] w (PutNPost b v l xs w):=by
 have hlm:l.length=m:=by obtain ⟨_,_,e,_,h1,_⟩:=hl;rw [intsV_len] at h1;cases e;omega
 subst hlm
 have HL:=Hdz hl
 have HA:=Hdz hA
 clear hl hA
 go_enter Tryz.func210,Tryz.ntmps210
 go_wp2
 go_loopg [10] l.length (λ gk s10 wr=>∃ k:Nat,k<=l.length/\l.length-k<=gk/\s10=.int .i64 k/\∃ v' ys,Pl wr b v' ys/\ys.Perm (l.take k++xs)/\PlK b v v' w wr)
 case atStart=>exact ⟨0,by omega,by omega,rfl,v,xs,h,by simp,PlK.refl _ _ _⟩
 case round =>
  obtain ⟨k,hk,hgk,rfl,v',ys,hp,hperm,hkept⟩:=hrel
  have hz:=hkept.1.size
  by_cases hlt:k<l.length
  ·obtain ⟨_,_,e0,h0,h1,h2⟩:=HL.out
   cases e0
   obtain ⟨blk,off,rfl,hbl,hcell⟩:=h2 (by omega)
   have c0:=hcell k (.int .i64 l[k]) (by rw [intsV_at,List.getElem?_eq_getElem hlt];rfl)
   have c1:wr.cell? ⟨blk,off+k,none⟩=some (.int .i64 l[k]):=(hkept.1.cell (p:=⟨blk,off+k,none⟩) hbl (HA.out ⟨blk,off,none⟩ rfl)).trans c0
   have hyl:ys.length=k+xs.length:=by rw [hperm.length_eq,List.length_append,List.length_take];omega
   have hP:=Hdz (hpush_any b v' ys l[k] wr hp (by omega))
   have hpe:Hid (∀ zs:List Int,zs.Perm (l[k] :: ys)->zs.Perm (l.take (k+1)++xs)):=λ zs hz=>by
    refine hz.trans ((hperm.cons _).trans ?_)
    rw [List.take_succ_eq_append_getElem hlt,List.append_assoc]
    exact List.perm_middle.symm
   have hp2:=hp.2.2.1
   have HPl:=Hdz hp
   have hPm:=Hdz hperm
   clear hp hperm hcell h2 h1 c0 hyl h
   generalize l[k]=x at *
   go_wp2_with (fail)
   go_must (refine hP.out.mono ?_)
   rintro e w1 ⟨rfl,v2,zs,hp3,hpm3,hk3⟩
   go_wp2_with (fail)
   go_roundg (l.length-(k+1))
   case measure=>omega
   case rel=>exact ⟨k+1,by omega,by omega,by go_num,v2,zs,hp3,hpe.out zs hpm3,hkept.trans hk3⟩
  ·obtain rfl:k=l.length:=by omega
   rw [List.take_length] at hperm
   have hPm:=Hdz hperm
   have HPl:=Hdz hp
   clear hperm hp h
   go_wp2
   refine bodyPost_end (results_none rfl _ _ _) rfl ?_
   exact ⟨rfl,v',ys,HPl.out,hPm.out,hkept⟩
theorem infoStr:(Tryz.prog.info? 9).map (λ i=>(i.zero,i.size,i.bytes))=some (some (.string ⟨#[]⟩),1,16):=by kernel_rfl
structure DevAt (w:World) (d most L:Nat) (sy nw:Value):Prop where
 blk:Blk w d 262 #[.int .i64 most,.bool true,.bool false,.int .i64 0,sy,nw,.chan none]
 srow:∃ cs,w.ownsRow 0 9 1 sy L cs
 nrow:∃ cs,w.ownsRow 0 9 1 nw L cs
 ne:∀ k,sy.ownBlock=some k->nw.ownBlock≠some k
 small:L<=100000/\most<=100000
def DevS (d:Nat) (sy nw:Value) (k:Nat):Prop:=k=d\/sy.ownBlock=some k\/nw.ownBlock=some k
theorem DevAt.keeps {S:Nat->Prop} {w w':World} {d most L:Nat} {sy nw:Value} (h:DevAt w d most L sy nw) (hk:Keeps S w w') (hs:∀ k,DevS d sy nw k->¬ S k):DevAt w' d most L sy nw:=by
 obtain ⟨h1,⟨c1,h2⟩,⟨c2,h3⟩,h4,h5⟩:=h
 exact ⟨h1.keeps hk (hs _ (.inl rfl)),⟨c1,own_keeps h2 hk λ k e=>hs k (.inr (.inl e))⟩,⟨c2,own_keeps h3 hk λ k e=>hs k (.inr (.inr e))⟩,h4,h5⟩
theorem devLen_any (d most L:Nat) (sy nw:Value) (w:World) (h:DevAt w d most L sy nw) :
  Calls Tryz.prog 126 #[.pointer (some ⟨d,0,none⟩)] w λ e w'=>e=.returned (.int .i64 L)/\w=w':=by
 obtain ⟨h1,h2,⟨cs,h3⟩,h4,h5⟩:=h
 obtain ⟨A,c,rfl,_⟩:=Sl.of_own h3
 have c5:w.cell? ⟨d,5,none⟩=some (.slice A L c):=h1.cell 5
 go_enter Tryz.func126,Tryz.ntmps126
 go_wp2
 go_ret
 exact ⟨rfl,rfl⟩
theorem devOff_any (d:Nat) (w:World) (h:w.cell? ⟨d,1,none⟩=some (.bool true)) :
  Calls Tryz.prog 169 #[.pointer (some ⟨d,0,none⟩)] w λ e w'=>e=.returned (.bool false)/\w=w':=by
 go_enter Tryz.func169,Tryz.ntmps169
 go_wp2
 go_ret
 exact ⟨rfl,rfl⟩
theorem devOp_any (d:Nat) (w:World) (h:w.cell? ⟨d,2,none⟩=some (.bool false)) :
  Calls Tryz.prog 170 #[.pointer (some ⟨d,0,none⟩)] w λ e w'=>e=.returned (.bool false)/\w=w':=by
 go_enter Tryz.func170,Tryz.ntmps170
 go_wp2
 go_ret
 exact ⟨rfl,rfl⟩
def GrowPost (d most L:Nat) (sy nw:Value) (w:World) (e:Ending) (w':World):Prop:=e=.returned (.int .i64 0)/\∃ sy' nw',DevAt w' d most (L+1) sy' nw'/\Keeps (DevS d sy nw) w w' ∧
 (∀ k,sy'.ownBlock=some k->sy.ownBlock=some k\/w.heap.size<=k)/\(∀ k,nw'.ownBlock=some k->nw.ownBlock=some k\/w.heap.size<=k)
structure GrowK (d:Nat) (sy nw sy' nw':Value) (w w':World):Prop where
 keeps:Keeps (DevS d sy nw) w w'
 sy:∀ k,sy'.ownBlock=some k->sy.ownBlock=some k\/w.heap.size<=k
 nw:∀ k,nw'.ownBlock=some k->nw.ownBlock=some k\/w.heap.size<=k
theorem GrowK.trans {d:Nat} {sy nw sy1 nw1 sy2 nw2:Value} {w w1 w2:World} (h:GrowK d sy nw sy1 nw1 w w1) (k:GrowK d sy1 nw1 sy2 nw2 w1 w2):GrowK d sy nw sy2 nw2 w w2:=by
 have hz:=h.keeps.size
 refine ⟨h.keeps.trans k.keeps λ i hi hs=>?_,λ i hi=>?_,λ i hi=>?_⟩
 ·rcases hs with hs | hs | hs
  ·exact .inl hs
  ·rcases h.sy i hs with h1 | h1
   ·exact .inr (.inl h1)
   ·omega
  ·rcases h.nw i hs with h1 | h1
   ·exact .inr (.inr h1)
   ·omega
 ·rcases k.sy i hi with h1 | h1
  ·exact h.sy i h1
  ·exact .inr (by omega)
 ·rcases k.nw i hi with h1 | h1
  ·exact h.nw i h1
  ·exact .inr (by omega)
theorem alloc_size1 (w:World) (o:Obj):(w.alloc o).heap.size=w.heap.size+1:=by simp
theorem row_newS (w:World) (u:Value) (T:TypeId) (B:Nat) (hB:B=w.heap.size):∀ j v,[u][j]? = some v->(w.alloc (.cells #[u] T)).cell? ((⟨B,0,none⟩:Addr).add j)=some v:=by
 intro j v h
 subst hB
 rw [addr_add]
 cases j with
 | zero=>cases h;exact (Blk.new w T #[u]).cell 0
 | succ j=>simp at h
def ToPost (d most N:Nat) (sy nw:Value) (w:World) (e:Ending) (w':World):Prop:=e=.returned (.int .i64 0)/\∃ sy' nw',DevAt w' d most N sy' nw'/\GrowK d sy nw sy' nw' w w'
theorem to_ms {N len gk L:Nat} (h:len<N) (hg:N-len<=gk) (hl:L<=len):N-(len+1)<gk/\L<=len+1/\len+1<=N/\N-(len+1)<=N-(len+1):=⟨by omega,by omega,by omega,by omega⟩
theorem devTo_any (d most L N:Nat) (sy nw:Value) (w:World) (h:DevAt w d most L sy nw) (hLN:L<=N) (hm:N<=most) :
  Calls Tryz.prog 122 #[.pointer (some ⟨d,0,none⟩),.int .i64 (N:Int)] w (ToPost d most N sy nw w):=by
 obtain ⟨i0,hi,hz0,hz1,hz2⟩:=info_parts infoStr
 obtain ⟨h1,⟨cs1,h2⟩,⟨cs2,h3⟩,h4,h5⟩:=h
 obtain ⟨A1,k1,rfl,_⟩:=Sl.of_own h2
 obtain ⟨A2,k2,rfl,_⟩:=Sl.of_own h3
 have g0:w.cell? ⟨d,0,none⟩=some (.int .i64 most):=h1.cell 0
 have g1:w.cell? ⟨d,1,none⟩=some (.bool true):=h1.cell 1
 have g2:w.cell? ⟨d,2,none⟩=some (.bool false):=h1.cell 2
 have g5:w.cell? ⟨d,5,none⟩=some (.slice A2 L k2):=h1.cell 5
 have hbl:=h1.lt
 have hm1:(L:Int)<=(N:Int):=by omega
 have hm2:(N:Int)<=(most:Int):=by omega
 have hR:=Hdz (repeat_zero 256 w (by decide) (by decide))
 go_enter Tryz.func122,Tryz.ntmps122
 go_wp2_with (first
  | (go_at_call 169;go_must (refine (devOff_any _ _ g1).mono ?_);rintro e w1 ⟨rfl,rfl⟩)
  | (go_at_call 170;go_must (refine (devOp_any _ _ g2).mono ?_);rintro e w1 ⟨rfl,rfl⟩))
 go_must (refine hR.out.mono ?_)
 rintro e w1 ⟨⟨t,rfl,ht⟩,hb1⟩
 have ht1:Value.oneCell' (.string t)=true:=rfl
 have hD1:DevAt w1 d most L (.slice A1 L k1) (.slice A2 L k2):=DevAt.keeps (S:=λ _=>False) ⟨h1,⟨cs1,h2⟩,⟨cs2,h3⟩,h4,h5⟩ (Keeps.of_below hb1) (λ _ _ h=>h)
 have hK1:GrowK d (.slice A1 L k1) (.slice A2 L k2) (.slice A1 L k1) (.slice A2 L k2) w w1:=⟨Keeps.of_below hb1,λ _ h=>.inl h,λ _ h=>.inl h⟩
 have H5:=Hdz h5
 clear hR h1 h2 h3 h4 g0 g1 g2 g5 h5
 go_wp2_with (fail)
 go_loopg [] (N-L) (λ gk wr=>∃ len sy nw,DevAt wr d most len sy nw/\L<=len/\len<=N/\N-len<=gk/\GrowK d (.slice A1 L k1) (.slice A2 L k2) sy nw w wr)
 case atStart=>exact ⟨L,_,_,hD1,Nat.le_refl _,by omega,by omega,hK1⟩
 case round =>
  obtain ⟨len,sy,nw,hD,hl1,hl2,hg,hK⟩:=hrel
  have hD0:=Hdz hD
  obtain ⟨b1,⟨c1,r1⟩,⟨c2,r2⟩,q4,q5⟩:=hD
  obtain ⟨B1,m1,rfl,_⟩:=Sl.of_own r1
  obtain ⟨B2,m2,rfl,_⟩:=Sl.of_own r2
  have g4:wr.cell? ⟨d,4,none⟩=some (.slice B1 len m1):=b1.cell 4
  have g5:wr.cell? ⟨d,5,none⟩=some (.slice B2 len m2):=b1.cell 5
  have f4:=b1.frozen 4
  have f5:=b1.frozen 5
  have hbl2:=b1.lt
  have H5':=H5.out
  obtain ⟨H5a,H5b⟩:=H5'
  have hn2:=own_ne r2 b1 (by decide)
  have hn1:=own_ne r1 b1 (by decide)
  by_cases hlt:len<N
  ·have hlt1:(len:Int)<(N:Int):=by omega
   have hms:=Hdz (to_ms hlt hg hl1)
   go_wp2_with (at_builtin;go_must (refine wpList_append_at rfl _ _ 40 rfl 0 9 i0 _ 1 16 Tryz.underlying40 hi hz0 hz1 hz2 rfl (by decide) _ len c2 rfl (r2.alloc _) ⟨wr.heap.size,0,none⟩ 1 1 [.string t] rfl rfl (row_newS _ _ _ _ rfl) (by simp [Value.oneCell']) (by unfold maxLen;omega) (by omega) (Nat.zero_le _) ?_))
   intro v2 w2 ho2 hg2 ha2
   obtain ⟨B3,m3,rfl,_⟩:=Sl.of_own ho2
   have K2:Keeps (λ k=>Value.ownBlock (.slice B2 len m2)=some k) wr w2:=((Keeps.refl _ wr).alloc _).grown hg2 (λ k hk _=>hk)
   have b2:=b1.keeps K2 (λ e=>hn2 d e rfl)
   have hc25:w2.cell? ⟨d,5,none⟩=some (.slice B2 len m2):=b2.cell 5
   have hf25:=b2.frozen 5
   have b3:Blk (w2.setCell ⟨d,5,none⟩ (.slice B3 (len+1) m3)) d 262 #[.int .i64 most,.bool true,.bool false,.int .i64 0,.slice B1 len m1,.slice B3 (len+1) m3,.chan none]:=b2.set 5 _
   have hc34:(w2.setCell ⟨d,5,none⟩ (.slice B3 (len+1) m3)).cell? ⟨d,4,none⟩=some (.slice B1 len m1):=b3.cell 4
   have hf34:=b3.frozen 4
   have K3:Keeps (λ k=>k=d) w2 (w2.setCell ⟨d,5,none⟩ (.slice B3 (len+1) m3)):=(Keeps.refl (λ k=>k=d) _).setCell (p:=⟨d,5,none⟩) (λ _=>rfl) _
   have r1b:=own_keeps (own_keeps r1 K2 (λ k hk e=>q4 k hk e)) K3 (λ k hk e=>hn1 k hk e)
   have hz2':=K2.size
   have hat2:∀ k,Value.ownBlock (.slice B3 (len+1) m3)=some k->Value.ownBlock (.slice B2 len m2)=some k\/wr.heap.size<=k:=λ k hk=>(ha2 k hk).imp id λ h=>by omega
   have hn3:∀ k,Value.ownBlock (.slice B3 (len+1) m3)=some k->k≠d:=λ k hk e=>by
    rcases hat2 k hk with h | h
    ·exact hn2 k h e
    ·omega
   have r2b:=own_keeps ho2 K3 (λ k hk e=>hn3 k hk e)
   have q4b:∀ k,Value.ownBlock (.slice B1 len m1)=some k->Value.ownBlock (.slice B3 (len+1) m3)≠some k:=λ k hk e=>by
    rcases hat2 k e with h | h
    ·exact q4 k hk h
    ·have:=(r1.lt k hk).2;omega
   go_wp2_with (at_builtin;go_must (refine wpList_append_at rfl _ _ 40 rfl 0 9 i0 _ 1 16 Tryz.underlying40 hi hz0 hz1 hz2 rfl (by decide) _ len c1 rfl (r1b.alloc _) ⟨w2.heap.size,0,none⟩ 1 1 [.string t] rfl rfl (row_newS _ _ _ _ (by simp [World.setCell])) (by simp [Value.oneCell']) (by unfold maxLen;omega) (by omega) (Nat.zero_le _) ?_))
   intro v4 w4 ho4 hg4 ha4
   obtain ⟨B4,m4,rfl,_⟩:=Sl.of_own ho4
   have K4:Keeps (λ k=>Value.ownBlock (.slice B1 len m1)=some k) (w2.setCell ⟨d,5,none⟩ (.slice B3 (len+1) m3)) w4:=((Keeps.refl _ _).alloc _).grown hg4 (λ k hk _=>hk)
   have b4:=b3.keeps K4 (λ e=>hn1 d e rfl)
   have hc44:w4.cell? ⟨d,4,none⟩=some (.slice B1 len m1):=b4.cell 4
   have hf44:=b4.frozen 4
   have b5:Blk (w4.setCell ⟨d,4,none⟩ (.slice B4 (len+1) m4)) d 262 #[.int .i64 most,.bool true,.bool false,.int .i64 0,.slice B4 (len+1) m4,.slice B3 (len+1) m3,.chan none]:=b4.set 4 _
   have K5:Keeps (λ k=>k=d) w4 (w4.setCell ⟨d,4,none⟩ (.slice B4 (len+1) m4)):=(Keeps.refl (λ k=>k=d) _).setCell (p:=⟨d,4,none⟩) (λ _=>rfl) _
   have hs3:(w2.setCell ⟨d,5,none⟩ (.slice B3 (len+1) m3)).heap.size=w2.heap.size:=by simp [World.setCell]
   have hat4:∀ k,Value.ownBlock (.slice B4 (len+1) m4)=some k->Value.ownBlock (.slice B1 len m1)=some k\/w2.heap.size<=k:=λ k hk=>(ha4 k hk).imp id λ h=>by omega
   have hn4:∀ k,Value.ownBlock (.slice B4 (len+1) m4)=some k->k≠d:=λ k hk e=>by
    rcases hat4 k hk with h | h
    ·exact hn1 k h e
    ·omega
   have r1c:=own_keeps ho4 K5 (λ k hk e=>hn4 k hk e)
   have r2c:=own_keeps (own_keeps r2b K4 (λ k hk e=>q4b k e hk)) K5 (λ k hk e=>hn3 k hk e)
   have hz4:=K4.size
   have q4c:∀ k,Value.ownBlock (.slice B4 (len+1) m4)=some k->Value.ownBlock (.slice B3 (len+1) m3)≠some k:=λ k hk e=>by
    rcases hat4 k hk with h | h
    ·exact q4b k h e
    ·have:=(ho2.lt k e).2;omega
   have hKK:GrowK d (.slice B1 len m1) (.slice B2 len m2) (.slice B4 (len+1) m4) (.slice B3 (len+1) m3) wr (w4.setCell ⟨d,4,none⟩ (.slice B4 (len+1) m4)):=by
    refine ⟨?_,λ k hk=>(hat4 k hk).imp id λ h=>by omega,hat2⟩
    exact (((K2.mono λ i _ e=>.inr (.inr e)).trans K3 λ i _ e=>.inl e).trans K4 λ i _ e=>.inr (.inl e)).trans K5 λ i _ e=>.inl e
   have hDD:DevAt (w4.setCell ⟨d,4,none⟩ (.slice B4 (len+1) m4)) d most (len+1) (.slice B4 (len+1) m4) (.slice B3 (len+1) m3):=⟨b5,⟨_,r1c⟩,⟨_,r2c⟩,q4c,by omega,H5b⟩
   have HD:=Hdz hDD
   have HK:=Hdz (hK.trans hKK)
   clear hKK hDD r1c r2c q4c hat4 hat2 hn4 hn3 q4b r2b r1b
   go_wp2_with (fail)
   go_roundg (N-(len+1))
   case measure=>exact hms.out.1
   case rel=>exact ⟨len+1,_,_,HD.out,hms.out.2.1,hms.out.2.2.1,hms.out.2.2.2,HK.out⟩
  ·obtain rfl:len=N:=by omega
   have hle:¬ ((len:Int)<(len:Int)):=by omega
   go_wp2_with (fail)
   go_ret
   exact ⟨rfl,_,_,hD0.out,hK⟩
theorem devGrow_any (d most L:Nat) (sy nw:Value) (w:World) (h:DevAt w d most L sy nw) (hm:L+1<=most) :
  Calls Tryz.prog 122 #[.pointer (some ⟨d,0,none⟩),.int .i64 ((L:Int)+1)] w (GrowPost d most L sy nw w):=
 (devTo_any d most L (L+1) sy nw w h (by omega) hm).mono λ _ _ ⟨h1,a,b,h2,h3⟩=>⟨h1,a,b,h2,h3.keeps,h3.sy,h3.nw⟩
end Go.Ev
