/-
  Texts of this claim.
-/
import Derived.Test.YtmfoiaaehkandaaGreatDoorMBGwShrink
set_option linter.unusedVariables false
set_option linter.unusedSimpArgs false
namespace Go.Ev
open Go.Proofs Go.RowKit Go.Shelf
attribute [local go_sem] Oper.semAt_some
theorem UpsG.len {M M2:Store} {kids kids2:List Child} {G:List (Int × Nat × List Child)} {nn:List Int} (h:UpsG M kids G M2 kids2 nn):nn.length<=2*G.length:=by
 induction h with
 | nil=>simp
 | snoc h1 h2 h3 ih =>
  have:∀ {M:Store} {L:List Child} {ks:List Child} {M':Store} {n2:List Int},LaidG M L ks M' n2->n2.length<=2:=by
   rintro M L ks M' n2 (⟨_,_,_,rfl⟩ | ⟨_,(⟨_,_,_,_,_,_,_,rfl⟩ | ⟨_,_,_,_,_,_,_,_,_,_,_,_,_,_,_,_,rfl⟩)⟩)<;>simp
  have:=this h3
  simp only [List.length_append,List.length_cons,List.length_nil]
  omega
theorem UpsE.len {M M2:Store} {kids kids2:List Child} {G:List (Int × Nat × List Child)} {k:Nat} {nn:List Int} (h:UpsE M kids G k M2 kids2 nn):nn.length<=2*G.length:=by
 have h1:=h.ups.len
 rw [List.length_take] at h1
 omega
structure UpGJ (p:Nat) (x:Wc) (most:Nat) (M:Store) (cnt:Nat) (made D:List Int) (G:List (Int × Nat × List Child)) (kv0:Value) (kids:List Child) (Db:Nat) (w:World) (k:Nat) (W:World):Prop where
 ex:∃ M2 kids2 new2 x2 v2,((k=1/\kids2.length=2/\UpsE M kids G G.length M2 kids2 new2)\/(k=0/\∃ c,kids2=[c]/\EndG M kids G c.page M2 new2 []/\new2.length<=2*G.length+2)\/(k=0/\kids2=[]/\UpsE M kids G G.length M2 [] new2))/\WkOk W p x2 most M2 (cnt+new2.length) (made++new2) D ∧
  WkK p x x2 w w/\OwnsC W 0 v2 kids2/\Blk W (w.heap.size+2) 240 #[v2]/\(∀ j,v2.ownBlock=some j->¬ x2.S p j)/\(∀ j,w.heap.size<=j->j<w.heap.size+6->¬ x2.S p j)/\(∀ j,x2.S p j->x.S p j\/w.heap.size<=j)/\x2.b=x.b/\x2.c.maps (w.heap.size+6)
 frame:Keeps (λ j=>x.S p j\/kv0.ownBlock=some j) w W
 b3:Blk W w.heap.size 233 #[ptrV x.b]
 b6:Blk W (w.heap.size+3) 3 #[.int .i64 0]
 b7:Blk W (w.heap.size+4) 28 #[.int .i64 0]
 dd:W.heap[Db]? = some (.deferred (some []))
section
variable {p most cnt:Nat} {x:Wc} {M:Store} {made dropped:List Int}
set_option maxHeartbeats 20000000 in
set_option maxRecDepth 100000 in
theorem upG_ok (A B:Option Addr) (cp ck:Nat) (st:List Step) (kids:List Child) (w:World) (h:WkOk w p x most M cnt made dropped) (hst:w.ownsRow 0 289 3 (.slice A st.length cp) st.length (stepsCs st)) (hkids:OwnsC w 0 (.slice B kids.length ck) kids) (hl:st.length<=30) (hsteps:StepsOk w 0 st) (hkS:∀ j,(Value.slice B kids.length ck).ownBlock=some j->¬ x.S p j)
  (hstS:∀ j,(Value.slice A st.length cp).ownBlock=some j->¬ x.S p j) (hsS:∀ s∈st,∀ j,s.v.ownBlock=some j->¬ x.S p j/\(Value.slice B kids.length ck).ownBlock≠some j) (hsat:∀ s∈st,s.at'<s.L.length) (hfit:AllFitG M kids (st.map Step.ghost).reverse) (hend:∀ M2 kids1 new,UpsE M kids (st.map Step.ghost).reverse st.length M2 kids1 new->KidsG kids1/\(2<=kids1.length->FitP (headKey [] kids1))) (hkf:KidsG kids) (hBn:B=none->ck=0) (hids:(st.map (·.id)).Nodup)
  (hshr:∀ pre s M2 kids1 new c y,(st.map Step.ghost).reverse=pre++[s]->UpsG M kids pre M2 kids1 new->s.2.2[s.2.1]? = some c->allC s.2.2 s.2.1 c kids1=[y]->∃ root drp,Shrink M2 y.page root drp/\drp.length<=28) (hroom:cnt+2*st.length+4<=most) (hmd:made.length<=1000) (hdl:dropped.length<=49000) :
  Calls Tryz.prog 149 #[ptrV x.b,.slice A st.length cp,.slice B kids.length ck] w (UpGP p x most M cnt made dropped st (.slice B kids.length ck) kids w):=by
 have hBk:=Hdz (λ W=>callsIn_wide.1 (backward_in Fence.wide 9 trivial rfl A st.length cp W))
 refine (callsIn_wide (n:=9)).1 (callsIn_of_wp_marks Tryz.func149 rfl trivial (wpIn_wide.2 ?_) rfl)
 simp only [Tryz.ntmps149,List.size_toArray,List.length_cons,List.length_nil,Nat.reduceAdd,Nat.reduceSub,Array.replicate_succ,Array.replicate_zero,List.push_toArray,List.append_toArray,List.nil_append,List.cons_append]
 go_wp2_with (fail)
 go_must (refine (hBk.out _).mono ?_)
 rintro e w1 ⟨rfl,rfl⟩
 go_wp2_with (fail)
 refine (wpIn_wide (n:=9)).1 ?_
 obtain ⟨W0,hW0⟩:=nmz (((((((w.alloc (.cells #[ptrV x.b] 233)).alloc (.cells #[.slice A st.length cp] 216)).alloc (.cells #[.slice B kids.length ck] 240)).alloc (.cells #[.int .i64 0] 3)).alloc (.cells #[.int .i64 0] 28)).alloc (.cells #[.slice A st.length cp] 216)))
 have hB0:Below w.heap.size w W0:=by
  rw [<- hW0]
  exact ((((((Below.refl _ w).alloc (Nat.le_refl _) _).alloc (by simp) _).alloc (by simp;omega) _).alloc (by simp;omega) _).alloc (by simp;omega) _).alloc (by simp;omega) _
 have hsz:W0.heap.size=w.heap.size+6:=by rw [<- hW0];simp
 obtain ⟨g,hA,hgl,hg0,hgc⟩:∃ g,(0<st.length->A=some ⟨g,0,none⟩)/\(0<st.length->g<w.heap.size)/\(¬ 0<st.length->g<w.heap.size+6)/\∀ j u,(stepsCs st)[j]? = some u->w.cell? ⟨g,0+j,none⟩=some u:=by
  rcases hst.2 with ⟨e,h0⟩ | ⟨g,cap,cur,e,_,hh,_⟩
  ·refine ⟨0,λ h=>by omega,λ h=>by omega,λ _=>by omega,λ j u hu=>?_⟩
   have:st=[]:=List.eq_nil_of_length_eq_zero h0
   subst this
   simp [stepsCs] at hu
  ·simp only [Value.slice.injEq] at e
   obtain ⟨rfl,_,_⟩:=e
   obtain ⟨_,_,e0,_,_,hcl⟩:=Sl.of_own hst
   cases e0
   by_cases hp:0<st.length
   ·obtain ⟨b',o',e1,hb',hc'⟩:=hcl hp
    cases e1
    exact ⟨_,λ _=>rfl,λ _=>hb',λ h=>absurd hp h,hc'⟩
   ·have:st=[]:=List.eq_nil_of_length_eq_zero (by omega)
    subst this
    exact ⟨0,λ h=>absurd h (by simp),λ h=>absurd h (by simp),λ _=>by omega,λ j u hu=>by simp [stepsCs] at hu⟩
 have hbs:W0.cell? ⟨w.heap.size+5,0,none⟩=some (.slice A st.length cp):=by
  rw [<- hW0]
  have:=(Blk.new' (w:=(((((w.alloc (.cells #[ptrV x.b] 233)).alloc (.cells #[.slice A st.length cp] 216)).alloc (.cells #[.slice B kids.length ck] 240)).alloc (.cells #[.int .i64 0] 3)).alloc (.cells #[.int .i64 0] 28))) (t:=216) (cs:=#[.slice A st.length cp]) (g:=w.heap.size+5) (by simp)).cell 0
  exact this
 have k3:Blk W0 w.heap.size 233 #[ptrV x.b]:=by
  rw [<- hW0];exact (((((Blk.new' rfl).alloc _).alloc _).alloc _).alloc _).alloc _
 have k4:Blk W0 (w.heap.size+1) 216 #[.slice A st.length cp]:=by
  rw [<- hW0];exact ((((Blk.new' (by simp)).alloc _).alloc _).alloc _).alloc _
 have k5:Blk W0 (w.heap.size+2) 240 #[.slice B kids.length ck]:=by
  rw [<- hW0];exact (((Blk.new' (by simp)).alloc _).alloc _).alloc _
 have k6:Blk W0 (w.heap.size+3) 3 #[.int .i64 0]:=by
  rw [<- hW0];exact ((Blk.new' (by simp)).alloc _).alloc _
 have k7:Blk W0 (w.heap.size+4) 28 #[.int .i64 0]:=by
  rw [<- hW0];exact (Blk.new' (by simp)).alloc _
 have k8:Blk W0 (w.heap.size+5) 216 #[.slice A st.length cp]:=by
  rw [<- hW0];exact Blk.new' (by simp)
 rw [hW0]
 clear hW0
 refine rangeFunc_eachS rfl (by decide) rfl trivial (enters_of Tryz.func239 (by kernel_rfl) rfl)
  (back_eachS Fence.wide 8 trivial rfl (by decide) (w.heap.size+5) g 0 cp A st (by omega) W0 (by omega) hbs hA (λ h=>by have:=hgl h;omega) (λ j u hu=>by
   have hs0:0<st.length:=by
    cases st with
    | nil=>simp [stepsCs] at hu
    | cons s l=>simp
   exact (hB0.cell (p:=⟨g,0+j,none⟩) (hgl hs0)).trans (hgc j u hu))) (λ h k=>h.trans k) ?hKb (λ _=>rfl)
  (UpGI p x most M cnt made dropped st (.slice A st.length cp) (.slice B kids.length ck) kids w) (UpGX p x most M cnt made dropped st (.slice B kids.length ck) kids w) ?hI ?hIx ?h0
  (λ i a' W=>∃ Bx,w.heap.size+6<=Bx/\Blk W Bx 289 (stepCs st[i.1]).toArray/\a'={ tmps:=#[ptrV x.b,.slice A st.length cp,.slice B kids.length ck,ptrV w.heap.size,ptrV (w.heap.size+1),ptrV (w.heap.size+1+1),ptrV (w.heap.size+1+1+1),ptrV (w.heap.size+1+1+1+1),undef,ptrV Bx,undef,undef,undef,.slice A st.length cp,.func (.func 239) #[] #[ptrV (w.heap.size+1+1+1+1+1)],.int .i64 (i.1:Int),stepV st[i.1],undef,undef,undef,undef,undef,undef,undef,undef,undef,undef,undef,undef,undef,undef,undef,undef,undef,undef,undef,undef,undef,undef,undef,undef,undef,undef,undef,undef,undef,undef,undef,undef,undef,undef,undef,undef,undef,undef,undef,undef,undef,undef,undef,undef,undef,undef,undef,undef,undef,undef,undef,undef,undef,undef,undef,undef,undef,undef,undef,undef,undef,undef,undef,undef,undef,undef,undef,undef,undef,undef,undef,undef,undef,undef,undef,undef,undef,undef,undef,undef,undef,undef,undef,undef,undef],defers:=[] }) ?hAx ?assign ?body ?done ?stop
 case hKb =>
  intro W l o o' hl _ _ _
  have hg6:g<w.heap.size+6:=by
   by_cases hp:0<st.length
   ·have:=hgl hp;omega
   ·exact hg0 hp
  exact ⟨World.putObj_heap_other (by omega),World.putObj_heap_other (by omega)⟩
 case hI=>exact UpGI.own (by omega)
 case hIx=>exact UpGX.own (by omega)
 case hAx =>
  rintro i a' _ W W' row ⟨Bx,h1,h2,h3⟩ hg' hr
  exact ⟨Bx,h1,blk_turn h2 hg' hr,h3⟩
 case h0 =>
  have hlt:=h.lt
  refine ⟨⟨M,kids,[],x,.slice B kids.length ck,UpsE.nil _ _ _,by simpa using h.below hB0,WkK.refl _ _ _,own_below hkids hB0,k5,λ j hj=>⟨hkS j hj,.inl hj⟩,λ j h1 h2 h3=>by have:=hlt j h3;omega,λ j hj=>.inl hj,rfl,?_⟩,Keeps.of_below hB0,k3,k4,k6,k7,k8⟩
  have q:=λ j (hj:j∈x.c.ids p)=>hlt j (.inl (.inl hj))
  exact ⟨by have:=q x.c.mb (by simp [Pc.ids]);omega,by have:=q x.c.db (by simp [Pc.ids]);omega,by have:=q x.c.wb (by simp [Pc.ids]);omega⟩
 case assign =>
  rintro l k i W K hx hI hK
  have hso:=(hsteps st[i.1] (List.getElem_mem ..)).1
  have hKi:=λ a' W' q1 q2 q3 q4=>hK a' W' q1 q2 q3 q4
  clear hK
  have hIa:UpGI p x most M cnt made dropped st (.slice A st.length cp) (.slice B kids.length ck) kids w k (W.alloc (.cells (stepCs st[i.1]).toArray 289)):=(UpGI.own (B:=w.heap.size+6) (Nat.le_refl _)).alloc _ hI
  have hbx:Blk (W.alloc (.cells (stepCs st[i.1]).toArray 289)) W.heap.size 289 (stepCs st[i.1]).toArray:=Blk.new _ _ _
  have hWs:w.heap.size+6<=W.heap.size:=by have:=hI.bs.lt;omega
  have hkf:KeepsFrom W0.heap.size W (W.alloc (.cells (stepCs st[i.1]).toArray 289)):=(KeepsOthers.alloc _ _).from _
  have hkb:KB (w.heap.size+5) g W (W.alloc (.cells (stepCs st[i.1]).toArray 289)):=⟨Below.heap_alloc _ _ _ (by omega),Below.heap_alloc _ _ _ (by
   by_cases hp:0<st.length
   ·have:=hgl hp;omega
   ·have:=hg0 hp;omega)⟩
  generalize st[i.1]=s at *
  obtain ⟨sid,sat,sv,sL⟩:=s
  unfold OwnsC at hso
  simp only at hso
  obtain ⟨As,cs,rfl,_⟩:=Sl.of_own hso
  simp only [stepV]
  have HKi:=Hdz hKi
  have HIa:=Hdz hIa
  have Hbx:=Hdz hbx
  have HKF:=Hdz hkf
  clear hKi hIa hbx hI hkf hids hshr hBn hend hfit
  gi_wp2
  exact HKi.out _ _ HKF.out hkb HIa.out ⟨W.heap.size,hWs,Hbx.out,rfl⟩
 case body =>
  rintro l k i a' W hx hI ⟨Bx,hBx,hbx,rfl⟩
  obtain ⟨⟨M1,kids1,new,x1,kv,i1,i2,i3,i4,i5,i6,i7,i8,i9,i10⟩,hf,q3,q4,q6,q7,qs⟩:=hI
  obtain ⟨j0,hj,hz0,hz1,hz2⟩:=info_parts infoInt
  obtain ⟨D1,hD1⟩:∃ D1,D1=dropped++((st.map Step.ghost).reverse.take k).map (·.1):=⟨_,rfl⟩
  have hD1l:D1.length<=49990:=by
   rw [hD1]
   simp only [List.length_append,List.length_map,List.length_take,List.length_reverse]
   omega
  rw [<- hD1] at i2
  have HD1:=Hdz hD1
  clear hD1
  rcases x1 with ⟨xc,xb,xm,xd⟩
  simp only at i9
  subst i9
  have hdr:=i2.dr
  simp only at hdr
  obtain ⟨Ad,cd,rfl,_⟩:=Sl.of_own hdr
  clear hdr
  have g3:W.cell? ⟨w.heap.size,0,none⟩=some (ptrV x.b):=q3.cell 0
  have g2:W.cell? ⟨x.b,2,none⟩=some (.slice Ad D1.length cd):=i2.blk.cell 2
  have b0:W.cell? ⟨Bx,0,none⟩=some (.int .i64 st[i.1].id):=hbx.cell 0
  have b1:W.cell? ⟨Bx,1,none⟩=some (.int .i64 (st[i.1].at':Int)):=hbx.cell 1
  have b2:W.cell? ⟨Bx,2,none⟩=some st[i.1].v:=hbx.cell 2
  have hdrop:=λ v4 w4 r1 r2 r3=>drop_turn (v4:=v4) (w4:=w4) i2 (st[i.1]'i.2).id r1 r2 r3
  have hcells:=λ w4 q=>drop_cells (w4:=w4) i2 (st[i.1]'i.2).id q
  have hown1:=(i2.alloc (.cells #[.int .i64 st[i.1].id] 3)).drew.dr
  simp only at hdrop hcells hown1
  have hbox:∀ k,(Value.slice Ad D1.length cd).ownBlock=some k->k≠w.heap.size:=λ k hk e=>i7 k (by omega) (by omega) (.inr (.inr (.inr hk)))
  have HB3:=Hdz (λ w4 q=>(hcells w4 q).2.2 w.heap.size _ (by have:=q3.lt;omega) hbox g3)
  have g3a:(W.alloc (.cells #[.int .i64 st[i.1].id] 3)).cell? ⟨w.heap.size,0,none⟩=some (ptrV x.b):=(q3.alloc _).cell 0
  have HD:=Hdz hdrop
  have HC:=Hdz hcells
  have HO:=Hdz hown1
  clear hdrop hcells hown1
  gi_wp2
  refine region_round (by kernel_rfl) (by kernel_rfl) (by rintro ⟨_,_,h⟩;exact h) ?_
  refine any_only (T:=λ a W'=>∃ v4 w4,w4.ownsRow 0 3 1 v4 (D1.length+1) (intsV D1++[.int .i64 st[i.1].id])/\(W.alloc (.cells #[.int .i64 st[i.1].id] 3)).drew.grownBy w4 (Value.slice Ad D1.length cd).ownBlock/\(∀ k,v4.ownBlock=some k->(Value.slice Ad D1.length cd).ownBlock=some k\/(W.alloc (.cells #[.int .i64 st[i.1].id] 3)).drew.heap.size<=k)/\W'=w4.setCell ⟨x.b,2,none⟩ v4/\a={ tmps:=#[ptrV x.b,.slice A st.length cp,.slice B kids.length ck,ptrV w.heap.size,ptrV (w.heap.size+1),ptrV (w.heap.size+1+1),ptrV (w.heap.size+1+1+1),ptrV (w.heap.size+1+1+1+1),undef,ptrV Bx,undef,undef,undef,.slice A st.length cp,.func (.func 239) #[] #[ptrV (w.heap.size+1+1+1+1+1)],.int .i64 (i.1:Int),stepV st[i.1],ptrV x.b,ptrV x.b,ptrV x.b,.pointer (some ⟨x.b,2,none⟩),.slice Ad D1.length cd,.pointer (some ⟨Bx,0,none⟩),.int .i64 st[i.1].id,.slice (some ⟨W.heap.size,0,none⟩) 1 1,v4,ptrV x.b,.pointer (some ⟨x.b,2,none⟩),undef,undef,undef,undef,undef,undef,undef,undef,undef,undef,undef,undef,undef,undef,undef,undef,undef,undef,undef,undef,undef,undef,undef,undef,undef,undef,undef,undef,undef,undef,undef,undef,undef,undef,undef,undef,undef,undef,undef,undef,undef,undef,undef,undef,undef,undef,undef,undef,undef,undef,undef,undef,undef,undef,undef,undef,undef,undef,undef,undef,undef,undef,undef,undef,undef,undef,undef,undef,undef,undef,undef,undef,undef,undef],defers:=[] }) ?hT _ _ _ _ ?hA
  case hA =>
   change wpAny _ _ _ _ _ _ _ (World.drew _)
   try simp only [lAz]
   refine tA 5 ?_;try simp only [lAz]
   refine rA 1 (v:=?_) (hy:=?hy) ?_;case hy=>(intro w hE;have q0:=hE.cell g3;go_simp;try with_reducible rfl)
   try simp only [lAz]
   refine tA 2 ?_;try simp only [lAz]
   refine tA 3 ?_;try simp only [lAz]
   refine rA 4 (v:=?_) (hy:=?hy) ?_;case hy=>(intro w hE;have q0:=hE.cell g2;go_simp;try with_reducible rfl)
   try simp only [lAz]
   refine rA 6 (v:=?_) (hy:=?hy) ?_;case hy=>(intro w hE;have q0:=hE.cell b0;go_simp;try with_reducible rfl)
   try simp only [lAz]
   refine wpAny_ready (rs:=[0,7]) (by kernel_rfl) (by simp) (aCz (λ K hK=>?_) (aCz (λ K hK=>?_) AllReady.nil))
   focus
    go_simp
    apply hK
    clear hK K
    refine rZz 7 λ K hK=>?_;go_simp;apply hK;clear hK K
    refine wpAny_ready (rs:=[8]) (by kernel_rfl) (by simp) (aCz (λ K hK=>?_) AllReady.nil)
   rotate_left
   focus
    go_simp
    apply hK
    clear hK K
    refine wpAny_ready (rs:=[0,8]) (by kernel_rfl) (by simp) (aCz (λ K hK=>?_) (aCz (λ K hK=>?_) AllReady.nil))
   focus
    go_simp
    apply hK
    clear hK K
    refine wpAny_ready (rs:=[8]) (by kernel_rfl) (by simp) (aCz (λ K hK=>?_) AllReady.nil)
   all_goals
    refine if_on rfl ?_
    go_must (refine wp_append_at _ _ 35 rfl 0 3 j0 _ 1 8 Tryz.underlying35 hj hz0 hz1 hz2 rfl (by decide) _ D1.length (intsV D1) rfl HO.out ⟨W.heap.size,0,none⟩ 1 1 [.int .i64 st[i.1].id] rfl rfl ?_ (by simp [Value.oneCell']) (by unfold maxLen;omega) (by omega) (Nat.zero_le _) ?_)
    ·exact row_new1 _ _ _ _ rfl
    intro v4 w4 own4 hg4 hw4
    obtain ⟨z1,z2,_⟩:=HC.out w4 hg4
    have z3:=HB3.out w4 hg4
    obtain ⟨A4,c4,rfl,_⟩:=Sl.of_own own4
    have HX:=Hdz (Anz own4 (Anz hg4 hw4))
    clear own4 hg4 hw4
    go_simp
    apply hK
    clear hK K
    try (refine rd 0 (by decide +kernel) rfl (λ K hK=>?_);go_simp;apply hK;clear hK K)
    try simp only [lAz]
    refine tA 9 ?_;try simp only [lAz]
    refine tA 10 ?_;try simp only [lAz]
    refine rZz 11 λ K hK=>?_;go_simp;apply hK;clear hK K
    refine wDz ?_
    exact ⟨_,w4,HX.out.1,HX.out.2.1,HX.out.2.2,rfl,rfl⟩
  case hT =>
   rintro a W2 ⟨v4,w4,own4,hg4,hw4,rfl,rfl⟩
   obtain ⟨hW2,hK2⟩:=HD.out v4 w4 own4 hg4 hw4
   obtain ⟨W2,hW2e⟩:∃ W2,W2=w4.setCell ⟨x.b,2,none⟩ v4:=⟨_,rfl⟩
   rw [<- hW2e] at hW2 hK2 ⊢
   clear hW2e own4 hg4 hw4 HD HC HO HB3 g3a g3 g2 b0 b1 b2 w4
   have hKk:=hK2.keeps
   have hlt1:=i2.lt
   have hbk:∀ j,w.heap.size<=j->j<w.heap.size+6->¬ (⟨xc,x.b,xm,.slice Ad D1.length cd⟩:Wc).S p j:=i7
   have hbx2:=hbx.keeps hKk (i2.notStep hbx)
   have p3:=q3.keeps hKk (hbk _ (by omega) (by omega))
   have p4:=q4.keeps hKk (hbk _ (by omega) (by omega))
   have p5:=i5.keeps hKk (hbk _ (by omega) (by omega))
   have p6:=q6.keeps hKk (hbk _ (by omega) (by omega))
   have p7:=q7.keeps hKk (hbk _ (by omega) (by omega))
   have ps:=qs.keeps hKk (hbk _ (by omega) (by omega))
   have okv:=own_keeps i4 hKk λ j hj=>(i6 j hj).1
   have hskeep:∀ s∈st,OwnsC W2 0 s.v s.L:=λ s hs=>by
    have h1:=own_keeps (hsteps s hs).1 hf λ j hj e=>by
     rcases e with e | e
     ·exact (hsS s hs j hj).1 e
     ·exact (hsS s hs j hj).2 e
    refine own_keeps h1 hKk λ j hj e=>?_
    rcases i8 j e with e | e
    ·exact (hsS s hs j hj).1 e
    ·have:=((hsteps s hs).1.lt j hj).2;omega
   have hk:k<st.length:=by
    have:=(List.getElem?_eq_some_iff.1 hx).1
    simpa [backs_len] using this
   have hi:i.1=st.length-1-k:=by
    rw [backs_at st.length k hk,Option.some.injEq] at hx
    rw [<- hx]
   obtain ⟨rs1,rs2⟩:=rev_split st k hk
   have hst_i:st[st.length-1-k]'(by omega)=st[i.1]:=by simp only [hi]
   rw [hst_i] at rs1 rs2
   have hidn:k+1≠st.length->(st[i.1]'i.2).id≠(st[0]'(by omega)).id:=λ hh e=>by
    have h1:=List.pairwise_iff_getElem.1 hids 0 i.1 (by rw [List.length_map];omega) (by rw [List.length_map];exact i.2) (by omega)
    rw [List.getElem_map,List.getElem_map] at h1
    exact h1 e.symm
   have hp0:W.cell? ⟨g,0,none⟩=some (.int .i64 (st[0]'(by omega)).id):=by
    have hAg:=hA (by omega)
    rw [hf.cell (p:=⟨g,0,none⟩) (hgl (by omega)) (λ e=>by
     subst hAg
     rcases e with e | e
     ·exact hstS g rfl e
     ·exact own_apart hst hkids (by decide) g rfl e)]
    refine hgc 0 _ ?_
    cases st with
    | nil=>simp at hk
    | cons s0 r0=>rfl
   have hid0:k+1=st.length->(st[i.1]'i.2).id=(st[0]'(by omega)).id:=λ hh=>by
    have h1:i.1=0:=by omega
    simp only [h1]
   have HPid:=Hdz hid0
   have HP0:=Hdz (Anz hp0 (Anz hidn (Anz (hgl (by omega)) hf.size)))
   clear hp0 hidn hid0
   have hmem:st[i.1]∈st:=List.getElem_mem ..
   have hsv:=hskeep _ hmem
   have hsl:=hsat _ hmem
   have hrc:=(hsteps _ hmem).2
   have hsn:=hsS _ hmem
   have hslt:=λ j hj=>((hsteps _ hmem).1.lt j hj).2
   generalize st[i.1]=s at *
   obtain ⟨sid,sat,sv,sL⟩:=s
   simp only at hsv hsl hrc hsn hslt
   obtain ⟨c0,hc0⟩:∃ c0,sL[sat]? = some c0:=⟨_,List.getElem?_eq_getElem hsl⟩
   obtain ⟨kf,fp⟩:=hfit _ _ _ _ _ _ rs1 i1.ups c0 hc0
   have hpl:((st.map Step.ghost).reverse.take k).length=k:=by rw [List.length_take,List.length_reverse,List.length_map];omega
   have hpost:(st.map Step.ghost).reverse.drop (k+1)=[]->k+1=st.length:=λ e=>by
    have:=congrArg List.length e
    rw [List.length_drop,List.length_reverse,List.length_map,List.length_nil] at this
    omega
   have HStep:=Hdz (λ (kids2:List Child) (M2:Store) (new2:List Int) hl h1=>UpsE.step (M2:=M2) (kids2:=kids2) (new2:=new2) i1 rs1 hpl hc0 hl h1)
   simp only [Step.ghost] at fp rs1 rs2 HStep
   have hdr0:k+1=st.length->(st.map Step.ghost).reverse.drop (k+1)=[]:=λ e=>List.drop_eq_nil_of_le (by rw [List.length_reverse,List.length_map];omega)
   have HShr:Hid (k+1=st.length->∀ y,allC sL sat c0 kids1=[y]->∃ root drp,Shrink M1 y.page root drp/\drp.length<=28/\EndG M kids (st.map Step.ghost).reverse root M1 new drp):=λ e y hy=>by
    have hG:(st.map Step.ghost).reverse=(st.map Step.ghost).reverse.take k++[(sid,sat,sL)]:=by
     have h1:=rs1
     rw [hdr0 e] at h1
     exact h1
    obtain ⟨root,drp,h1,h2⟩:=hshr _ _ _ _ _ c0 y hG i1.ups hc0 hy
    exact ⟨root,drp,h1,h2,.inr ⟨_,_,M1,kids1,new,c0,hG,i1.ups,hc0,.inl ⟨y,hy,h1,rfl,rfl⟩⟩⟩
   clear hdr0
   clear hpl
   have HPost:=Hdz hpost
   clear hpost
   by_cases hne:kids1=[]
   case' pos =>
    obtain ⟨gk,hgke⟩:∃ gk,gk=w.heap.size+2:=⟨_,rfl⟩
    obtain ⟨Ak,capk,rfl,hAn⟩:∃ Ak capk,kv=.slice Ak kids1.length capk/\(Ak=none->capk=0):=by
     rcases okv.2 with ⟨e,h0⟩ | ⟨g',cap',cur',e,_⟩
     ·exact ⟨none,0,by rw [e,h0],λ _=>rfl⟩
     ·exact ⟨_,_,e,λ h=>by cases h⟩
    have hneg:¬ (0:Int)<(kids1.length:Int):=by rw [hne];simp
    obtain ⟨As,cs,e0,hcs0,hcl0,hcl⟩:=Sl.of_own hsv
    subst e0
    obtain ⟨gs,os,rfl,hgs,hcell⟩:=hcl (by omega)
    have hsat0:(0:Int)<=(sat:Int):=by omega
    have hsat1:(sat:Int)<(sL.length:Int):=by omega
    have HH:=Hdz (Anz hW2 hK2)
    have hgk6:True/\((Value.slice B kids.length ck).ownBlock=some gk\/w.heap.size+2<=gk):=⟨trivial,.inr (by omega)⟩
    have hgkB:gk≠Bx:=by omega
    have hAg:=hA (by omega)
    have hg1:=hgl (by omega)
    have hgS:¬ (⟨xc,x.b,xm,.slice Ad D1.length cd⟩:Wc).S p g/\g≠gk:=by
     subst hAg
     refine ⟨λ e=>?_,by omega⟩
     rcases i8 g e with e | e
     ·exact hstS g rfl e
     ·omega
    have hkcells:∃ o,W.heap[gk]? = some o/\o.isCells=true:=⟨_,by rw [hgke];exact i5,rfl⟩
    have hx1c:=i2.cells
    have k2b:Hid (w.heap.size+6<=W.heap.size):=by
     have:=qs.lt
     exact (show w.heap.size+6<=W.heap.size by omega)
    have hgkn:True:=trivial
    have HI:=Hdz (Anz i1 (Anz i3 (Anz i6 (Anz i7 (Anz i8 (Anz i10 (Anz hf (Anz hx1c (Anz hlt1 (Anz hkcells (Anz hgS (Anz hgkn (Anz hgk6 (Anz rs2 hc0))))))))))))))
    have hc2n:∀ j,w.heap.size<=j->j<w.heap.size+6->¬ (⟨xc,x.b,xm,v4⟩:Wc).S p j:=λ j h1 h2 e=>by
     rcases hK2.sub j e with e | e
     ·exact hbk j h1 h2 e
     ·have:=q3.lt;have:=qs.lt;omega
    obtain ⟨W3,hW3e⟩:∃ W3,W3=W2:=⟨_,rfl⟩
    subst hW3e
    have K3:Keeps (λ j=>j=gk) W3 W3:=Keeps.refl _ _
    have hW3:=hW2
    have r3:=p3
    have r4:=p4
    have r5:=p5
    have r6:=p6
    have r7:=p7
    have rs:=ps
    have rbx:=hbx2
    have rsv:=hsv
    have q15:W3.ownsRow 0 291 2 (.slice Ak kids1.length capk) kids1.length (childrenCs (headKey c0.key kids1)):=by
     have e1:headKey c0.key kids1=kids1:=by rw [hne];rfl
     rw [e1]
     exact okv
    have HRest:=Hdz (Anz hW3 (Anz K3 (Anz rsv q15)))
    have HR2:=Hdz (Anz r3 (Anz r4 (Anz r5 (Anz r6 (Anz r7 (Anz rs rbx))))))
    have hgk2:gk<=w.heap.size+2:=by omega
    have hgk3:w.heap.size+2<=gk:=by omega
    clear hne hgke hcell hcl hW2 hK2 hKk okv i2 i4 i5 q3 q4 q6 q7 qs hbx hskeep hsteps hsat hsS hfit hend hkf hshr hids hBn hst hkids h hBk hB0 hA hgl hg0 hgc hbs k3 k4 k5 k6 k7 k8 hsv
    dsimp only
    by_cases hal0:allC sL sat c0 kids1=[]
    ·have hall:(allC sL sat c0 kids1).length<=200:=by
      rw [hal0];simp
     have hsl200:sL.length<=10000:=by
      have:(allC sL sat c0 kids1).length=min sat sL.length+kids1.length+(sL.length-(sat+1)):=by
       unfold allC
       simp only [headKey_len,List.length_append,List.length_take,List.length_drop]
      omega
     have hCall:=replC_any (some ⟨gs,os,none⟩) Ak sL.length cs kids1.length capk sat sL (headKey c0.key kids1) W3 (Sl.of_own rsv) (Sl.of_own q15) hAn hsl200 (by have:=kf.two;omega) hsl
     change Calls _ _ _ _ (ReplPost (allC sL sat c0 kids1) W3) at hCall
     obtain ⟨al,hal⟩:∃ al,al=allC sL sat c0 kids1:=⟨_,rfl⟩
     rw [<- hal] at hCall hal0 hall
     have c5b:W3.cell? ⟨w.heap.size+2,0,none⟩=some (.slice Ak kids1.length capk):=r5.cell 0
     have b1b:W3.cell? ⟨Bx,1,none⟩=some (.int .i64 (sat:Int)):=rbx.cell 1
     have b2b:W3.cell? ⟨Bx,2,none⟩=some (.slice (some ⟨gs,os,none⟩) sL.length cs):=rbx.cell 2
     have HCall:=Hdz hCall
     have HAL:=Hdz hal
     have HAl0:=Hdz hal0
     clear hal0 hCall hal rsv q15 p3 p4 p5 p6 p7 ps hbx2
     gi_wp2_with (fail)
     go_must (refine ⟨trivial,(calls_round HCall.out).mono ?_⟩)
     rintro e W4 ⟨va,rfl,ova,hb4⟩
     unfold OwnsC at ova
     obtain ⟨Aa,ca,rfl,_⟩:=Sl.of_own ova
     have s5:=Blk.below' r5 hb4
     have c5c:W4.cell? ⟨w.heap.size+2,0,none⟩=some (.slice Ak kids1.length capk):=s5.cell 0
     have f5c:=s5.frozen 0
     have hA0:((al.length:Int)==0)=true:=by rw [HAl0.out];rfl
     have HE:Hid (KeepsFrom W0.heap.size W (W4.setCell ⟨w.heap.size+2,0,none⟩ (.slice none 0 0))/\KB (w.heap.size+5) g W (W4.setCell ⟨w.heap.size+2,0,none⟩ (.slice none 0 0))/\UpGI p x most M cnt made dropped st (.slice A st.length cp) (.slice B kids.length ck) kids w (k+1) (W4.setCell ⟨w.heap.size+2,0,none⟩ (.slice none 0 0))):=by
      obtain ⟨i1,i3,i6,i7,i8,i10,hf,hx1c,hlt1,hkcells,hgS,_,hgk6,rs2,hc0⟩:=HI.out
      obtain ⟨hW2,hK2⟩:=HH.out
      have K5:Keeps (λ j=>j=w.heap.size+2) W4 (W4.setCell ⟨w.heap.size+2,0,none⟩ (.slice none 0 0)):=(Keeps.refl (λ j=>j=w.heap.size+2) W4).setCell (p:=⟨w.heap.size+2,0,none⟩) (λ _=>rfl) _
      have hW5:=(hW3.below hb4).keeps K5 (λ j hj e=>hc2n j (by omega) (by omega) hj)
      have K45:Keeps (λ j=>j=w.heap.size+2) W3 (W4.setCell ⟨w.heap.size+2,0,none⟩ (.slice none 0 0)):=(Keeps.of_below hb4).trans K5 (λ _ _ e=>e)
      have hsub:∀ j,(⟨xc,x.b,xm,v4⟩:Wc).S p j->(⟨xc,x.b,xm,.slice Ad D1.length cd⟩:Wc).S p j\/W.heap.size<=j:=λ j e=>hK2.sub j e
      have hszW:w.heap.size+6<=W.heap.size:=k2b.out
      have k6:Keeps (λ j=>(⟨xc,x.b,xm,.slice Ad D1.length cd⟩:Wc).S p j\/j=w.heap.size+2) W (W4.setCell ⟨w.heap.size+2,0,none⟩ (.slice none 0 0)):=
       (hK2.keeps.mono (S':=λ j=>(⟨xc,x.b,xm,.slice Ad D1.length cd⟩:Wc).S p j\/j=w.heap.size+2) (λ _ _ e=>.inl e)).trans K45 (λ i _ e=>.inr e)
      have hU:=HStep.out [] M1 [] (.inl ⟨HAL.out.symm.trans HAl0.out,rfl,rfl,rfl⟩) (λ _=>by rw [<- HAL.out,HAl0.out];simp)
      rw [List.append_nil] at hU
      refine ⟨⟨k6.size,λ k o hB hh ho=>?_⟩,⟨?_,?_⟩,⟨⟨M1,[],new,⟨xc,x.b,xm,v4⟩,.slice none 0 0,hU,?_,?_,World.ownsRow_nil _ _ _ _,(Blk.below' r5 hb4).set 0 _,(λ j hj=>by cases hj),hc2n,?_,rfl,i10⟩,?_,?_,?_,?_,?_,?_⟩⟩
      ·refine (k6.block k (Array.getElem?_eq_some_iff.1 hh).1 ?_).trans hh
       rintro (e | e)
       ·rcases hx1c k e with e | ⟨o',e1,e2⟩
        ·obtain ⟨m1,m2,m3⟩:=i10
         have m1':xc.mb<w.heap.size+6:=m1
         have m2':xc.db<w.heap.size+6:=m2
         have m3':xc.wb<w.heap.size+6:=m3
         have e':k=xc.mb\/k=xc.db\/k=xc.wb:=e
         omega
        ·rw [hh] at e1;cases e1;rw [ho] at e2;cases e2
       ·omega
      ·refine k6.block _ (by omega) ?_
       rintro (e | e)
       ·exact hbk _ (by omega) (by omega) e
       ·omega
      ·refine k6.block _ (by omega) ?_
       rintro (e | e)
       ·exact hgS.1 e
       ·omega
      ·rw [rs2,List.map_append,<- List.append_assoc,<- HD1.out]
       exact hW5
      ·exact ⟨Keeps.refl _ _,λ j e=>(hsub j e).elim (λ e=>i8 j e) (λ e=>.inr (by omega)),hK2.same.trans i3.same,hK2.mb.trans i3.mb,hK2.db.trans i3.db,hK2.wb.trans i3.wb⟩
      ·exact λ j e=>(hsub j e).elim (λ e=>i8 j e) (λ e=>.inr (by omega))
      ·refine hf.trans k6 λ i hi e=>?_
       rcases e with e | e
       ·rcases i8 i e with e | e
        ·exact .inl e
        ·omega
       ·omega
      ·exact r3.keeps K45 (λ e=>by omega)
      ·exact r4.keeps K45 (λ e=>by omega)
      ·exact r6.keeps K45 (λ e=>by omega)
      ·exact r7.keeps K45 (λ e=>by omega)
      ·exact rs.keeps K45 (λ e=>by omega)
     clear ova hb4 s5 r3 r4 r5 r6 r7 rs rbx hW3 K3
     gi_wp2_with (fail)
     exact HE.out
    have HAne:=Hdz hal0
    replace fp:=fp hal0
    clear hal0
   case' neg =>
    have hane:allC sL sat c0 kids1≠[]:=by
     intro e
     have h1:=congrArg List.length e
     unfold allC at h1
     simp only [headKey_len,List.length_append,List.length_nil] at h1
     exact hne (List.eq_nil_of_length_eq_zero (by omega))
    have HAne:=Hdz hane
    replace fp:=fp hane
    clear hane
    rcases okv.2 with ⟨_,h0⟩ | ⟨gk,capk,curk,rfl,hgb,hheap,hnc,hcm,hcs,hcx⟩
    ·exact absurd (List.eq_nil_of_length_eq_zero h0) hne
    have hpos:=List.length_pos_iff.2 hne
    have hpos':(0:Int)<(kids1.length:Int):=by omega
    obtain ⟨As,cs,e0,hcs0,hcl0,hcl⟩:=Sl.of_own hsv
    subst e0
    obtain ⟨gs,os,rfl,hgs,hcell⟩:=hcl (by omega)
    have ck0:W2.cell? ⟨gs,os+sat*2,none⟩=some (strV c0.key):=by
     have h1:=childrenCs_at sL sat 0 hsl (by omega)
     rw [List.getElem?_eq_getElem hsl,Option.some.injEq] at hc0
     rw [hc0] at h1
     exact hcell _ _ (h1.trans rfl)
    have c5:W2.cell? ⟨w.heap.size+2,0,none⟩=some (.slice (some ⟨gk,0,none⟩) kids1.length capk):=p5.cell 0
    have b1:W2.cell? ⟨Bx,1,none⟩=some (.int .i64 (sat:Int)):=hbx2.cell 1
    have b2:W2.cell? ⟨Bx,2,none⟩=some (.slice (some ⟨gs,os,none⟩) sL.length cs):=hbx2.cell 2
    have hsat0:(0:Int)<=(sat:Int):=by omega
    have hsat1:(sat:Int)<(sL.length:Int):=by omega
    obtain ⟨u0,d0⟩:∃ u,W2.cell? ⟨gk,0,none⟩=some u:=⟨_,by rw [cell_of_row W2 gk _ curk _ (0,0) hheap];exact Array.getElem?_eq_getElem (by omega)⟩
    have f0:=okv.frozenAt 0
    obtain ⟨q14,_⟩:=okv.stored 0 (strV c0.key)
    have HH:=Hdz (Anz hW2 hK2)
    have hk0lt:=λ j hj=>(hkids.lt j hj).2
    have hgk6:=i6 gk rfl
    have hgkn:¬ (w.heap.size<=gk/\gk<w.heap.size+6):=by
     rintro ⟨e1,e2⟩
     rcases hgk6.2 with e | e
     ·have:=hk0lt gk e;omega
     ·omega
    have hgkB:gk≠Bx:=own_ne i4 hbx (by decide) gk rfl
    have hgkS:¬ (⟨xc,x.b,xm,v4⟩:Wc).S p gk:=λ e=>by
     rcases hK2.sub gk e with e | e
     ·exact hgk6.1 e
     ·have:=(i4.lt gk rfl).2;omega
    have hsvn:∀ j,(Value.slice (some ⟨gs,os,none⟩) sL.length cs).ownBlock=some j->j≠gk:=λ j hj e=>by
     subst e
     rcases hgk6.2 with e | e
     ·exact (hsn j hj).2 e
     ·have:=hslt j hj;omega
    have hAg:=hA (by omega)
    have hg1:=hgl (by omega)
    have hgS:¬ (⟨xc,x.b,xm,.slice Ad D1.length cd⟩:Wc).S p g/\g≠gk:=by
     subst hAg
     refine ⟨λ e=>?_,λ e=>?_⟩
     ·rcases i8 g e with e | e
      ·exact hstS g rfl e
      ·omega
     ·rcases hgk6.2 with e2 | e2
      ·exact own_apart hst hkids (by decide) g rfl (e ▸ e2)
      ·omega
    have hkcells:∃ o,W.heap[gk]? = some o/\o.isCells=true:=own_cells i4 gk rfl
    have hx1c:=i2.cells
    have k2b:Hid (w.heap.size+6<=W.heap.size):=by
     have:=qs.lt
     exact (show w.heap.size+6<=W.heap.size by omega)
    have HI:=Hdz (Anz i1 (Anz i3 (Anz i6 (Anz i7 (Anz i8 (Anz i10 (Anz hf (Anz hx1c (Anz hlt1 (Anz hkcells (Anz hgS (Anz hgkn (Anz hgk6 (Anz rs2 hc0))))))))))))))
    have hc2n:∀ j,w.heap.size<=j->j<w.heap.size+6->¬ (⟨xc,x.b,xm,v4⟩:Wc).S p j:=λ j h1 h2 e=>by
     rcases hK2.sub j e with e | e
     ·exact hbk j h1 h2 e
     ·have:=q3.lt;have:=qs.lt;omega
    obtain ⟨W3,hW3e⟩:∃ W3,W3=(W2.setCell ⟨gk,0,none⟩ (strV c0.key)).drew:=⟨_,rfl⟩
    have K3:Keeps (λ j=>j=gk) W2 W3:=by rw [hW3e];exact ((Keeps.refl (λ j=>j=gk) W2).setCell (p:=⟨gk,0,none⟩) (λ _=>rfl) _).drew
    have hW3:=hW2.keeps K3 (λ j hj e=>hgkS (e ▸ hj))
    have r3:=p3.keeps K3 (λ e=>hgkn (by omega))
    have r4:=p4.keeps K3 (λ e=>hgkn (by omega))
    have r5:=p5.keeps K3 (λ e=>hgkn (by omega))
    have r6:=p6.keeps K3 (λ e=>hgkn (by omega))
    have r7:=p7.keeps K3 (λ e=>hgkn (by omega))
    have rs:=ps.keeps K3 (λ e=>hgkn (by omega))
    have rbx:=hbx2.keeps K3 (λ e=>hgkB e.symm)
    have rsv:=own_keeps hsv K3 hsvn
    have q15:W3.ownsRow 0 291 2 (.slice (some ⟨gk,0,none⟩) kids1.length capk) kids1.length (childrenCs (headKey c0.key kids1)):=by
     cases hkk:kids1 with
     | nil=>exact absurd hkk hne
     | cons z r =>
      rw [hkk] at q14
      rw [childrenCs_head] at q14
      rw [hW3e]
      exact q14
    have HW3e:=Hdz hW3e
    have HRest:=Hdz (Anz hW3 (Anz K3 (Anz rsv q15)))
    have HR2:=Hdz (Anz r3 (Anz r4 (Anz r5 (Anz r6 (Anz r7 (Anz rs rbx))))))
    clear hW3e hW3 K3 r3 r4 r5 r6 r7 rs rbx rsv q15 q14
    clear hcell hcl hheap hcx hcs hcm hnc hW2 hK2 hKk okv i2 i4 i5 q3 q4 q6 q7 qs hbx hskeep hsteps hsat hsS hfit hend hkf hshr hids hBn hst hkids h hBk hB0 hA hgl hg0 hgc hbs k3 k4 k5 k6 k7 k8 hsv
    dsimp only
    gi_wp2
    refine region_round (by kernel_rfl) (by kernel_rfl) (by rintro ⟨_,_,h⟩;exact h) ?_
    change wpAny _ _ _ _ _ _ _ (World.drew _)
    try simp only [lAz]
    refine tA 1 ?_;try simp only [lAz]
    refine tA 3 ?_;try simp only [lAz]
    refine rA 2 (v:=?_) (hy:=?hy) ?_;case hy=>(intro w hE;have q0:=hE.cell b2;go_simp;try with_reducible rfl)
    try simp only [lAz]
    refine rA 4 (v:=?_) (hy:=?hy) ?_;case hy=>(intro w hE;have q0:=hE.cell b1;go_simp;try with_reducible rfl)
    try simp only [lAz]
    refine tA 5 ?_;try simp only [lAz]
    refine tA 6 ?_;try simp only [lAz]
    refine rA 7 (v:=?_) (hy:=?hy) ?_;case hy=>(intro w hE;have q0:=hE.cell ck0;go_simp;try with_reducible rfl)
    try simp only [lAz]
    refine rA 0 (v:=?_) (hy:=?hy) ?_;case hy=>(intro w hE;have q0:=hE.cell c5;go_simp;try with_reducible rfl)
    try simp only [lAz]
    refine rZz 8 λ K hK=>?_;go_simp;apply hK;clear hK K
    refine rZz 9 λ K hK=>?_;go_simp;apply hK;clear hK K
    refine rZz 10 λ K hK=>?_;go_simp;apply hK;clear hK K
    refine wDz ?_
    rw [<- HW3e.out]
    obtain ⟨hW3,K3,rsv,q15⟩:=HRest.out
    obtain ⟨r3,r4,r5,r6,r7,rs,rbx⟩:=HR2.out
    have hAn:(some ⟨gk,0,none⟩:Option Addr)=none->capk=0:=λ h=>by cases h
    clear c5 b1 b2 ck0 d0 f0
    obtain ⟨Ak,hAk⟩:∃ A,(some ⟨gk,0,none⟩:Option Addr)=A:=⟨_,rfl⟩
    rw [hAk] at r5 q15 hAn
    clear hAk
   all_goals
    have hall:(allC sL sat c0 kids1).length<=200:=by
     have h1:=layC_len (allC sL sat c0 kids1)
     have h2:=fp.len
     omega
    have hsl200:sL.length<=10000:=by
     have:(allC sL sat c0 kids1).length=min sat sL.length+kids1.length+(sL.length-(sat+1)):=by
      unfold allC
      simp only [headKey_len,List.length_append,List.length_take,List.length_drop]
     omega
    have hCall:=replC_any (some ⟨gs,os,none⟩) Ak sL.length cs kids1.length capk sat sL (headKey c0.key kids1) W3 (Sl.of_own rsv) (Sl.of_own q15) hAn hsl200 (by have:=kf.two;omega) hsl
    change Calls _ _ _ _ (ReplPost (allC sL sat c0 kids1) W3) at hCall
    have al2:1<=(allC sL sat c0 kids1).length:=List.length_pos_iff.2 HAne.out
    have HOne:=Hdz (Classical.em ((allC sL sat c0 kids1).length=1/\k+1=st.length))
    obtain ⟨al,hal⟩:∃ al,al=allC sL sat c0 kids1:=⟨_,rfl⟩
    rw [<- hal] at hCall fp al2 hall
    have c5b:W3.cell? ⟨w.heap.size+2,0,none⟩=some (.slice Ak kids1.length capk):=r5.cell 0
    have b1b:W3.cell? ⟨Bx,1,none⟩=some (.int .i64 (sat:Int)):=rbx.cell 1
    have b2b:W3.cell? ⟨Bx,2,none⟩=some (.slice (some ⟨gs,os,none⟩) sL.length cs):=rbx.cell 2
    have HCall:=Hdz hCall
    have HAL:=Hdz hal
    clear hCall hal rsv q15 p3 p4 p5 p6 p7 ps hbx2
    gi_wp2_with (fail)
    go_must (refine ⟨trivial,(calls_round HCall.out).mono ?_⟩)
    rintro e W4 ⟨va,rfl,ova,hb4⟩
    unfold OwnsC at ova
    rcases HOne.out with hone | hone
    ·have HLast:=Hdz hone
     clear hone
     have hal1:al.length=1:=by rw [HAL.out];exact HLast.out.1
     obtain ⟨y,hy⟩:∃ y,al=[y]:=List.length_eq_one_iff.1 hal1
     obtain ⟨Aa,ca,e0a,_,_,hcla⟩:=Sl.of_own ova
     subst e0a
     obtain ⟨ga,oa,rfl,hga,hcella⟩:=hcla (by omega)
     have hga3:W3.heap.size<=ga:=(ova.lt ga rfl).1
     have m1:W4.cell? ⟨ga,oa+1,none⟩=some (.int .i64 y.page):=hcella 1 _ (by rw [hy];rfl)
     have HY:=Hdz hy
     clear hcla hcella hy
     have s3:=Blk.below' r3 hb4
     have s5:=Blk.below' r5 hb4
     have c5c:W4.cell? ⟨w.heap.size+2,0,none⟩=some (.slice Ak kids1.length capk):=s5.cell 0
     have f5c:=s5.frozen 0
     have e3c:(W4.setCell ⟨w.heap.size+2,0,none⟩ (.slice none 0 0)).cell? ⟨w.heap.size,0,none⟩=some (ptrV x.b):=by
      have hk:=(Keeps.refl (λ j=>j=w.heap.size+2) W4).setCell (p:=⟨w.heap.size+2,0,none⟩) (λ _=>rfl) (.slice none 0 0)
      exact (s3.keeps hk (λ e=>by omega)).cell 0
     have hA0:((al.length:Int)==0)=false:=by
      simp only [beq_eq_false_iff_ne,ne_eq];omega
     have hA1:((al.length:Int)==1)=true:=by
      rw [hal1];rfl
     have hsd:(sid==(st[0]'(by omega)).id)=true:=by simpa using HPid.out HLast.out.2
     have KW3:Keeps (λ j=>(⟨xc,x.b,xm,.slice Ad D1.length cd⟩:Wc).S p j\/j=gk\/j=w.heap.size+2) W (W4.setCell ⟨w.heap.size+2,0,none⟩ (.slice none 0 0)):=by
      have k1:=HH.out.2.keeps.mono (S':=λ j=>(⟨xc,x.b,xm,.slice Ad D1.length cd⟩:Wc).S p j\/j=gk\/j=w.heap.size+2) (λ _ _ e=>.inl e)
      exact ((k1.trans K3 (λ i _ e=>.inr (.inl e))).trans (S':=λ _=>False) (Keeps.of_below hb4) (λ _ _ e=>e.elim)).setCell (p:=⟨w.heap.size+2,0,none⟩) (λ _=>.inr (.inr rfl)) _
     have hKc:=(Keeps.refl (λ j=>j=w.heap.size+2) W4).setCell (p:=⟨w.heap.size+2,0,none⟩) (λ _=>rfl) (.slice none 0 0)
     have e9a:(W4.setCell ⟨w.heap.size+2,0,none⟩ (.slice none 0 0)).cell? ⟨Bx,0,none⟩=some (.int .i64 sid):=((Blk.below' rbx hb4).keeps hKc (λ e=>by omega)).cell 0
     have e9b:(W4.setCell ⟨w.heap.size+2,0,none⟩ (.slice none 0 0)).cell? ⟨w.heap.size+1,0,none⟩=some (.slice A st.length cp):=((Blk.below' r4 hb4).keeps hKc (λ e=>by omega)).cell 0
     have e9c:(W4.setCell ⟨w.heap.size+2,0,none⟩ (.slice none 0 0)).cell? ⟨g,0,none⟩=some (.int .i64 (st[0]'(by omega)).id):=by
      have hgS:=HI.out.2.2.2.2.2.2.2.2.2.2.1
      rw [KW3.cell (p:=⟨g,0,none⟩) (Nat.lt_of_lt_of_le HP0.out.2.2.1 HP0.out.2.2.2) (λ e=>by
       rcases e with e | e | e
       ·exact hgS.1 e
       ·exact hgS.2 e
       ·have e2:g=w.heap.size+2:=e
        have:=HP0.out.2.2.1;omega)]
      exact HP0.out.1
     have hst0:0<st.length:=by omega
     have hpal:0<al.length:=by omega
     have HL1:=Hdz hal1
     clear KW3 hKc hal1
     have HO4:=Hdz (Anz ova hb4)
     clear ova hb4 s3 s5 r3 r4 r5 r6 r7 rs rbx hW3 K3 c5b b1b b2b
     gi_wp2_with (fail)
     refine region_round (by kernel_rfl) (by kernel_rfl) (by rintro ⟨_,_,h⟩;exact h) ?_
     change wpAny _ _ _ _ _ _ _ (World.drew _)
     rw [hAg] at e9b
     try simp only [lAz]
     refine tA 0 ?_;try simp only [lAz]
     refine tA 1 ?_;try simp only [lAz]
     refine tA 2 ?_;try simp only [lAz]
     refine tA 3 ?_;try simp only [lAz]
     refine tA 4 ?_;try simp only [lAz]
     refine rA 6 (v:=?_) (hy:=?hy) ?_;case hy=>(intro w hE;have q0:=hE.cell e9b;go_simp;try with_reducible rfl)
     try simp only [lAz]
     refine tA 7 ?_;try simp only [lAz]
     refine tA 8 ?_;try simp only [lAz]
     refine rA 5 (v:=?_) (hy:=?hy) ?_;case hy=>(intro w hE;have q0:=hE.cell e9a;go_simp;try with_reducible rfl)
     try simp only [lAz]
     refine rA 9 (v:=?_) (hy:=?hy) ?_;case hy=>(intro w hE;have q0:=hE.cell e9c;go_simp;try with_reducible rfl)
     try simp only [lAz]
     refine tA 10 ?_;try simp only [lAz]
     refine tA 11 ?_;try simp only [lAz]
     refine wDz ?_
     obtain ⟨hW3,K3,rsv,q15⟩:=HRest.out
     obtain ⟨r3,r4,r5,r6,r7,rs,rbx⟩:=HR2.out
     obtain ⟨ova,hb4⟩:=HO4.out
     obtain ⟨i1,i3,i6,i7,i8,i10,hf,hx1c,hlt1,hkcells,hgS,_,hgk6,rs2,hc0⟩:=HI.out
     obtain ⟨hW2,hK2⟩:=HH.out
     obtain ⟨W5,hW5e⟩:∃ W5,W5=(W4.setCell ⟨w.heap.size+2,0,none⟩ (.slice none 0 0)).drew:=⟨_,rfl⟩
     have K5:Keeps (λ j=>j=w.heap.size+2) W4 W5:=by
      rw [hW5e]
      exact ((Keeps.refl (λ j=>j=w.heap.size+2) W4).setCell (p:=⟨w.heap.size+2,0,none⟩) (λ _=>rfl) (.slice none 0 0)).drew
     have hW5:=(hW3.below hb4).keeps K5 (λ j hj e=>hc2n j (by omega) (by omega) hj)
     have K45:Keeps (λ j=>j=w.heap.size+2) W3 W5:=(Keeps.of_below hb4).trans K5 (λ _ _ e=>e)
     have t3:=r3.keeps K45 (λ e=>by omega)
     have t4:=r4.keeps K45 (λ e=>by omega)
     have t6:=r6.keeps K45 (λ e=>by omega)
     have t7:=r7.keeps K45 (λ e=>by omega)
     have ts:=rs.keeps K45 (λ e=>by omega)
     have t5:Blk W5 (w.heap.size+2) 240 #[.slice none 0 0]:=by
      rw [hW5e]
      exact (Blk.below' r5 hb4).set 0 _
     have hsz3:=r5.lt
     obtain ⟨root,drp,hS1,hS2,hS3⟩:=HShr.out HLast.out.2 y (by rw [<- HAL.out];exact HY.out)
     have hSh:=shrink_ok y.page root drp W5.drew hW5.drew hS1 hS2 (by rw [List.length_append];simp;omega)
     have HSh:=Hdz hSh
     have e3:W5.cell? ⟨w.heap.size,0,none⟩=some (ptrV x.b):=t3.cell 0
     have m5:W5.cell? ⟨ga,oa+1,none⟩=some (.int .i64 y.page):=(K5.cell (p:=⟨ga,oa+1,none⟩) hga (λ e=>by have e2:ga=w.heap.size+2:=e;omega)).trans m1
     have HT:=Hdz (Anz t3 (Anz t4 (Anz t5 (Anz t6 (Anz t7 ts)))))
     rw [<- hW5e]
     have k4:Keeps (λ j=>(⟨xc,x.b,xm,.slice Ad D1.length cd⟩:Wc).S p j\/j=gk\/j=w.heap.size+2) W W5:=by
      have k1:=hK2.keeps.mono (S':=λ j=>(⟨xc,x.b,xm,.slice Ad D1.length cd⟩:Wc).S p j\/j=gk\/j=w.heap.size+2) (λ _ _ e=>.inl e)
      have k2:=k1.trans K3 (λ i _ e=>.inr (.inl e))
      exact k2.trans K45 (λ i _ e=>.inr (.inr e))
     have HK4:=Hdz k4
     have HS3:=Hdz hS3
     have hsz5:W3.heap.size<=W5.heap.size:=K45.size
     have hszW:w.heap.size+6<=W.heap.size:=by
      rcases Nat.lt_or_ge W.heap.size (w.heap.size+6) with h | h
      ·have:=k2b.out;omega
      ·exact h
     have hszW5:W.heap.size<=W5.heap.size:=k4.size
     clear k4 hS1 hS2 hS3 hSh
     clear hW5e ova hb4 K5 K45 hW5 t3 t4 t5 t6 t7 ts r3 r4 r5 r6 r7 rs rbx hW3 K3 rsv q15 i1 i3 i6 i7 i8 i10 hf hx1c hlt1 hkcells hgS hgk6 rs2 hc0 hW2 hK2 c5c f5c e3c m1 e9a e9b e9c
     gi_wp2_with (fail)
     refine region_round (by kernel_rfl) (by kernel_rfl) (by rintro ⟨_,_,h⟩;exact h) ?_
     change wpAny _ _ _ _ _ _ _ (World.drew _)
     try simp only [lAz]
     refine tA 1 ?_;try simp only [lAz]
     refine tA 2 ?_;try simp only [lAz]
     refine tA 3 ?_;try simp only [lAz]
     refine rA 0 (v:=?_) (hy:=?hy) ?_;case hy=>(intro w hE;have q0:=hE.cell e3;go_simp;try with_reducible rfl)
     try simp only [lAz]
     refine rA 4 (v:=?_) (hy:=?hy) ?_;case hy=>(intro w hE;have q0:=hE.cell m5;go_simp;try with_reducible rfl)
     try simp only [lAz]
     refine rZz 5 λ K hK=>?_;go_simp
     (go_must (refine HSh.out.mono ?_);rintro e W6 ⟨x3,rfl,hW6,hK6⟩)
     obtain ⟨t3,t4,t5,t6,t7,ts⟩:=HT.out
     have KD:Keeps (λ _=>False) W5 W5.drew:=(Keeps.refl (λ _=>False) W5).drew
     have u6:=(t6.keeps KD (λ e=>e)).keeps hK6.keeps (hc2n _ (by omega) (by omega))
     have u7:=(t7.keeps KD (λ e=>e)).keeps hK6.keeps (hc2n _ (by omega) (by omega))
     have c6:W6.cell? ⟨w.heap.size+3,0,none⟩=some (.int .i64 0):=u6.cell 0
     have f6:=u6.frozen 0
     have c7:W6.cell? ⟨w.heap.size+4,0,none⟩=some (.int .i64 0):=u7.cell 0
     have f7:=u7.frozen 0
     have H6:=Hdz (Anz hW6 (Anz hK6 (Anz u6 u7)))
     clear hW6 hK6 u6 u7 t3 t4 t5 t6 t7 ts KD
     go_simp
     apply hK
     clear hK K
     try simp only [lAz]
     refine tA 6 ?_;try simp only [lAz]
     refine tA 7 ?_;try simp only [lAz]
     refine rZz 8 λ K hK=>?_;go_simp;apply hK;clear hK K
     refine rZz 9 λ K hK=>?_;go_simp;apply hK;clear hK K
     refine wDz ?_
     have HE:Hid (KeepsFrom W0.heap.size W ((W6.setCell ⟨w.heap.size+3,0,none⟩ (.int .i64 root)).setCell ⟨w.heap.size+4,0,none⟩ (.int .i64 0))/\UpGX p x most M cnt made dropped st (.slice B kids.length ck) kids w (k+1) ((W6.setCell ⟨w.heap.size+3,0,none⟩ (.int .i64 root)).setCell ⟨w.heap.size+4,0,none⟩ (.int .i64 0))):=by
      obtain ⟨i1,i3,i6,i7,i8,i10,hf,hx1c,hlt1,hkcells,hgS,_,hgk6,rs2,hc0⟩:=HI.out
      obtain ⟨hW2,hK2⟩:=HH.out
      obtain ⟨hW6,hK6,u6,u7⟩:=H6.out
      have K6:Keeps (λ j=>j=w.heap.size+3\/j=w.heap.size+4) W6 ((W6.setCell ⟨w.heap.size+3,0,none⟩ (.int .i64 root)).setCell ⟨w.heap.size+4,0,none⟩ (.int .i64 0)):=((Keeps.refl (λ j=>j=w.heap.size+3\/j=w.heap.size+4) W6).setCell (p:=⟨w.heap.size+3,0,none⟩) (λ _=>.inl rfl) _).setCell (p:=⟨w.heap.size+4,0,none⟩) (λ _=>.inr rfl) _
      have hz6:W5.heap.size<=W6.heap.size:=hK6.keeps.size
      have hsub:∀ j,x3.S p j->(⟨xc,x.b,xm,.slice Ad D1.length cd⟩:Wc).S p j\/W.heap.size<=j:=λ j e=>by
       rcases hK6.sub j e with e | e
       ·exact hK2.sub j e
       ·have e2:W5.heap.size<=j:=e
        exact .inr (by omega)
      have k5:Keeps (λ j=>(⟨xc,x.b,xm,.slice Ad D1.length cd⟩:Wc).S p j\/j=gk\/j=w.heap.size+2\/j=w.heap.size+3\/j=w.heap.size+4) W W5.drew:=
       (HK4.out.mono (λ _ _ e=>by
        rcases e with e | e | e
        ·exact .inl e
        ·exact .inr (.inl e)
        ·exact .inr (.inr (.inl e)))).drew
      have k6:=(k5.trans hK6.keeps (λ i hi e=>by
       rcases hK2.sub i e with e | e
       ·exact .inl e
       ·omega)).trans K6 (λ i _ e=>.inr (.inr (.inr e)))
      have hn3:∀ j,w.heap.size<=j->j<w.heap.size+6->¬ x3.S p j:=λ j h1 h2 e=>by
       rcases hsub j e with e | e
       ·exact hbk j h1 h2 e
       ·omega
      have hGt:(st.map Step.ghost).reverse.take (k+1)=(st.map Step.ghost).reverse:=List.take_of_length_le (by rw [List.length_reverse,List.length_map];have:=HLast.out.2;omega)
      have hGm:dropped++(st.map Step.ghost).reverse.map (λ z:Int × Nat × List Child=>z.1)=D1++[sid]:=by
       have h1:=rs2
       rw [hGt] at h1
       rw [h1,List.map_append,<- List.append_assoc,HD1.out]
       rfl
      refine ⟨⟨k6.size,λ k o hB hh ho=>?_⟩,⟨⟨root,M1,new,drp,x3,HS3.out,?_,?_,?_,?_,?_⟩,?_⟩⟩
      ·refine (k6.block k (Array.getElem?_eq_some_iff.1 hh).1 ?_).trans hh
       rintro (e | e | e)
       ·rcases hx1c k e with e | ⟨o',e1,e2⟩
        ·obtain ⟨m1,m2,m3⟩:=i10
         have m1':xc.mb<w.heap.size+6:=m1
         have m2':xc.db<w.heap.size+6:=m2
         have m3':xc.wb<w.heap.size+6:=m3
         have e':k=xc.mb\/k=xc.db\/k=xc.wb:=e
         omega
        ·rw [hh] at e1;cases e1;rw [ho] at e2;cases e2
       ·obtain ⟨o',e1,e2⟩:=hkcells
        rw [<- e,hh] at e1;cases e1;rw [ho] at e2;cases e2
       ·omega
      ·rw [hGm]
       exact hW6.keeps K6 (λ j hj e=>hn3 j (by omega) (by omega) hj)
      ·exact ⟨Keeps.refl _ _,λ j e=>(hsub j e).elim (λ e=>i8 j e) (λ e=>.inr (by omega)),hK6.same.trans (hK2.same.trans i3.same),hK6.mb.trans (hK2.mb.trans i3.mb),hK6.db.trans (hK2.db.trans i3.db),hK6.wb.trans (hK2.wb.trans i3.wb)⟩
      ·obtain ⟨m1,m2,m3⟩:=i10
       exact ⟨by rw [hK6.mb,hK2.mb];exact m1,by rw [hK6.db,hK2.db];exact m2,by rw [hK6.wb,hK2.wb];exact m3⟩
      ·exact (u6.set 0 _).keeps ((Keeps.refl (λ j=>j=w.heap.size+4) _).setCell (p:=⟨w.heap.size+4,0,none⟩) (λ _=>rfl) _) (λ e=>by omega)
      ·exact (u7.keeps ((Keeps.refl (λ j=>j=w.heap.size+3) W6).setCell (p:=⟨w.heap.size+3,0,none⟩) (λ _=>rfl) _) (λ e=>by omega)).set 0 _
      ·refine hf.trans k6 λ i hi e=>?_
       rcases e with e | e | e
       ·rcases i8 i e with e | e
        ·exact .inl e
        ·omega
       ·rcases hgk6.2 with e2 | e2
        ·exact .inr (e ▸ e2)
        ·omega
       ·omega
     gi_wp2_with (fail)
     exact HE.out
    have HLast:=Hdz (Anz HAne.out (Anz (λ e h=>hone ⟨h,HPost.out e⟩:(st.map Step.ghost).reverse.drop (k+1)=[]->(allC sL sat c0 kids1).length≠1) hone))
    clear hone
    obtain ⟨Aa,ca,rfl,_⟩:=Sl.of_own ova
    have s3:=Blk.below' r3 hb4
    have s5:=Blk.below' r5 hb4
    have c5c:W4.cell? ⟨w.heap.size+2,0,none⟩=some (.slice Ak kids1.length capk):=s5.cell 0
    have f5c:=s5.frozen 0
    have e3c:(W4.setCell ⟨w.heap.size+2,0,none⟩ (.slice none 0 0)).cell? ⟨w.heap.size,0,none⟩=some (ptrV x.b):=by
     have hk:=(Keeps.refl (λ j=>j=w.heap.size+2) W4).setCell (p:=⟨w.heap.size+2,0,none⟩) (λ _=>rfl) (.slice none 0 0)
     exact (s3.keeps hk (λ e=>by omega)).cell 0
    have hA0:((al.length:Int)==0)=false:=by
     simp only [beq_eq_false_iff_ne,ne_eq];omega
    by_cases hl1:al.length=1
    case' pos =>
     have hA1:((al.length:Int)==1)=true:=by
      rw [hl1];rfl
     have hneid:=HP0.out.2.1 λ e=>HLast.out.2.2 ⟨by rw [<- HAL.out];exact hl1,e⟩
     have hsd:(sid==(st[0]'(by omega)).id)=false:=by simpa using hneid
     have KW3:Keeps (λ j=>(⟨xc,x.b,xm,.slice Ad D1.length cd⟩:Wc).S p j\/j=gk\/j=w.heap.size+2) W (W4.setCell ⟨w.heap.size+2,0,none⟩ (.slice none 0 0)):=by
      have k1:=HH.out.2.keeps.mono (S':=λ j=>(⟨xc,x.b,xm,.slice Ad D1.length cd⟩:Wc).S p j\/j=gk\/j=w.heap.size+2) (λ _ _ e=>.inl e)
      exact ((k1.trans K3 (λ i _ e=>.inr (.inl e))).trans (S':=λ _=>False) (Keeps.of_below hb4) (λ _ _ e=>e.elim)).setCell (p:=⟨w.heap.size+2,0,none⟩) (λ _=>.inr (.inr rfl)) _
     have hKc:=(Keeps.refl (λ j=>j=w.heap.size+2) W4).setCell (p:=⟨w.heap.size+2,0,none⟩) (λ _=>rfl) (.slice none 0 0)
     have e9a:(W4.setCell ⟨w.heap.size+2,0,none⟩ (.slice none 0 0)).cell? ⟨Bx,0,none⟩=some (.int .i64 sid):=((Blk.below' rbx hb4).keeps hKc (λ e=>by omega)).cell 0
     have e9b:(W4.setCell ⟨w.heap.size+2,0,none⟩ (.slice none 0 0)).cell? ⟨w.heap.size+1,0,none⟩=some (.slice A st.length cp):=((Blk.below' r4 hb4).keeps hKc (λ e=>by omega)).cell 0
     have e9c:(W4.setCell ⟨w.heap.size+2,0,none⟩ (.slice none 0 0)).cell? ⟨g,0,none⟩=some (.int .i64 (st[0]'(by omega)).id):=by
      have hgS:=HI.out.2.2.2.2.2.2.2.2.2.2.1
      rw [KW3.cell (p:=⟨g,0,none⟩) (Nat.lt_of_lt_of_le HP0.out.2.2.1 HP0.out.2.2.2) (λ e=>by
       rcases e with e | e | e
       ·exact hgS.1 e
       ·exact hgS.2 e
       ·have e2:g=w.heap.size+2:=e
        have:=HP0.out.2.2.1;omega)]
      exact HP0.out.1
     have hst0:0<st.length:=by omega
     clear KW3 hKc hneid hl1
     have HO4:=Hdz (Anz ova hb4)
     clear ova hb4 s3 s5 r3 r4 r5 r6 r7 rs rbx hW3 K3 c5b b1b b2b
     gi_wp2_with (fail)
     refine region_round (by kernel_rfl) (by kernel_rfl) (by rintro ⟨_,_,h⟩;exact h) ?_
     change wpAny _ _ _ _ _ _ _ (World.drew _)
     rw [hAg] at e9b
     try simp only [lAz]
     refine tA 0 ?_;try simp only [lAz]
     refine tA 1 ?_;try simp only [lAz]
     refine tA 2 ?_;try simp only [lAz]
     refine tA 3 ?_;try simp only [lAz]
     refine tA 4 ?_;try simp only [lAz]
     refine rA 6 (v:=?_) (hy:=?hy) ?_;case hy=>(intro w hE;have q0:=hE.cell e9b;go_simp;try with_reducible rfl)
     try simp only [lAz]
     refine tA 7 ?_;try simp only [lAz]
     refine tA 8 ?_;try simp only [lAz]
     refine rA 5 (v:=?_) (hy:=?hy) ?_;case hy=>(intro w hE;have q0:=hE.cell e9a;go_simp;try with_reducible rfl)
     try simp only [lAz]
     refine rA 9 (v:=?_) (hy:=?hy) ?_;case hy=>(intro w hE;have q0:=hE.cell e9c;go_simp;try with_reducible rfl)
     try simp only [lAz]
     refine tA 10 ?_;try simp only [lAz]
     refine tA 11 ?_;try simp only [lAz]
     refine wDz ?_
    case' neg =>
     have hA1:((al.length:Int)==1)=false:=by
      simp only [beq_eq_false_iff_ne,ne_eq];omega
     clear hl1
     have HO4:=Hdz (Anz ova hb4)
     clear ova hb4 s3 s5 r3 r4 r5 r6 r7 rs rbx hW3 K3 c5b b1b b2b
     gi_wp2_with (fail)
     refine region_round (by kernel_rfl) (by kernel_rfl) (by rintro ⟨_,_,h⟩;exact h) ?_
     change wpAny _ _ _ _ _ _ _ (World.drew _)
     try simp only [lAz]
     refine tA 0 ?_;try simp only [lAz]
     refine tA 1 ?_;try simp only [lAz]
     refine tA 2 ?_;try simp only [lAz]
     refine tA 3 ?_;try simp only [lAz]
     refine sA 4 ?_;try simp only [lAz]
     refine sA 5 ?_;try simp only [lAz]
     refine sA 6 ?_;try simp only [lAz]
     refine sA 7 ?_;try simp only [lAz]
     refine sA 8 ?_;try simp only [lAz]
     refine sA 9 ?_;try simp only [lAz]
     refine sA 10 ?_;try simp only [lAz]
     refine tA 11 ?_;try simp only [lAz]
     refine wDz ?_
    all_goals
     obtain ⟨hW3,K3,rsv,q15⟩:=HRest.out
     obtain ⟨r3,r4,r5,r6,r7,rs,rbx⟩:=HR2.out
     obtain ⟨ova,hb4⟩:=HO4.out
     obtain ⟨i1,i3,i6,i7,i8,i10,hf,hx1c,hlt1,hkcells,hgS,_,hgk6,rs2,hc0⟩:=HI.out
     obtain ⟨hW2,hK2⟩:=HH.out
     obtain ⟨W5,hW5e⟩:∃ W5,W5=(W4.setCell ⟨w.heap.size+2,0,none⟩ (.slice none 0 0)).drew:=⟨_,rfl⟩
     have K5:Keeps (λ j=>j=w.heap.size+2) W4 W5:=by
      rw [hW5e]
      exact ((Keeps.refl (λ j=>j=w.heap.size+2) W4).setCell (p:=⟨w.heap.size+2,0,none⟩) (λ _=>rfl) (.slice none 0 0)).drew
     have hW5:=(hW3.below hb4).keeps K5 (λ j hj e=>hc2n j (by omega) (by omega) hj)
     have K45:Keeps (λ j=>j=w.heap.size+2) W3 W5:=(Keeps.of_below hb4).trans K5 (λ _ _ e=>e)
     have t3:=r3.keeps K45 (λ e=>by omega)
     have t4:=r4.keeps K45 (λ e=>by omega)
     have t6:=r6.keeps K45 (λ e=>by omega)
     have t7:=r7.keeps K45 (λ e=>by omega)
     have ts:=rs.keeps K45 (λ e=>by omega)
     have t5:Blk W5 (w.heap.size+2) 240 #[.slice none 0 0]:=by
      rw [hW5e]
      exact (Blk.below' r5 hb4).set 0 _
     have hsz3:=r5.lt
     have oval:=own_keeps ova K5 (λ j hj e=>by have:=(ova.lt j hj).1;omega)
     obtain ⟨c1,r,hcr⟩:∃ c1 r,al=c1 :: r:=by
      cases al with
      | nil=>simp at al2
      | cons a b=>exact ⟨a,b,rfl⟩
     have hkk:headKey [] al=al:=by
      rw [HAL.out]
      unfold allC
      rw [headKey_twice]
     have hc1k:c1.key=[]:=by
      rw [hcr] at hkk
      simp only [headKey,List.cons.injEq,and_true] at hkk
      rw [<- hkk]
     have hnl:=i1.ups.len
     have hGk:((st.map Step.ghost).reverse.take k).length<=k:=by
      rw [List.length_take];omega
     have hv:=Sl.of_own oval
     rw [show childrenCs al=childrenCs (c1 :: r) by rw [<- hcr]] at hv
     have hBr:=branches_any Aa al.length ca c1 r al hW5 hv (by rw [<- hcr];exact hkk.symm) (FitC.of fp) (by omega) (by omega) (by rw [List.length_append];omega)
     rw [hc1k] at hBr
     have e3:W5.cell? ⟨w.heap.size,0,none⟩=some (ptrV x.b):=t3.cell 0
     have HBr:=Hdz hBr
     have HT:=Hdz (Anz t3 (Anz t4 (Anz t5 (Anz t6 (Anz t7 ts)))))
     rw [<- hW5e]
     have k4:Keeps (λ j=>(⟨xc,x.b,xm,.slice Ad D1.length cd⟩:Wc).S p j\/j=gk\/j=w.heap.size+2) W W5:=by
      have k1:=hK2.keeps.mono (S':=λ j=>(⟨xc,x.b,xm,.slice Ad D1.length cd⟩:Wc).S p j\/j=gk\/j=w.heap.size+2) (λ _ _ e=>.inl e)
      have k2:=k1.trans K3 (λ i _ e=>.inr (.inl e))
      exact k2.trans K45 (λ i _ e=>.inr (.inr e))
     have HK4:=Hdz k4
     have HCR:=Hdz hcr
     have hsz5:W3.heap.size<=W5.heap.size:=K45.size
     have hszW:w.heap.size+6<=W.heap.size:=by
      rcases Nat.lt_or_ge W.heap.size (w.heap.size+6) with h | h
      ·have:=k2b.out;omega
      ·exact h
     have hszW5:W.heap.size<=W5.heap.size:=k4.size
     clear k4 hcr hc1k
     clear hW5e hBr hv oval ova hb4 K5 K45 hW5 t3 t4 t5 t6 t7 ts r3 r4 r5 r6 r7 rs rbx hW3 K3 rsv q15 hkk i1 i3 i6 i7 i8 i10 hf hx1c hlt1 hkcells hgS hgk6 rs2 hc0 hW2 hK2 c5c f5c e3c
     gi_wp2_with (fail)
     go_must (refine ⟨trivial,(calls_round HBr.out).mono ?_⟩)
     rintro e W6 ⟨kids2,M2,new2,x3,v3,rfl,hLd,ov3,ns3,hW6,hK6⟩
     unfold OwnsC at ov3
     obtain ⟨A3,d3,rfl,_⟩:=Sl.of_own ov3
     obtain ⟨t3,t4,t5,t6,t7,ts⟩:=HT.out
     have u5:=t5.keeps hK6.keeps (hc2n _ (by omega) (by omega))
     have c5d:W6.cell? ⟨w.heap.size+2,0,none⟩=some (.slice none 0 0):=u5.cell 0
     have f5d:=u5.frozen 0
     have HE:Hid (KeepsFrom W0.heap.size W (W6.setCell ⟨w.heap.size+2,0,none⟩ (.slice A3 kids2.length d3))/\KB (w.heap.size+5) g W (W6.setCell ⟨w.heap.size+2,0,none⟩ (.slice A3 kids2.length d3))/\UpGI p x most M cnt made dropped st (.slice A st.length cp) (.slice B kids.length ck) kids w (k+1) (W6.setCell ⟨w.heap.size+2,0,none⟩ (.slice A3 kids2.length d3))):=by
      obtain ⟨i1,i3,i6,i7,i8,i10,hf,hx1c,hlt1,hkcells,hgS,_,hgk6,rs2,hc0⟩:=HI.out
      obtain ⟨hW2,hK2⟩:=HH.out
      have K6:Keeps (λ j=>j=w.heap.size+2) W6 (W6.setCell ⟨w.heap.size+2,0,none⟩ (.slice A3 kids2.length d3)):=(Keeps.refl (λ j=>j=w.heap.size+2) W6).setCell (p:=⟨w.heap.size+2,0,none⟩) (λ _=>rfl) _
      have hz6:=hK6.keeps.size
      have hsub:∀ j,x3.S p j->(⟨xc,x.b,xm,.slice Ad D1.length cd⟩:Wc).S p j\/W.heap.size<=j:=λ j e=>by
       rcases hK6.sub j e with e | e
       ·exact hK2.sub j e
       ·exact .inr (by omega)
      have k6:Keeps (λ j=>(⟨xc,x.b,xm,.slice Ad D1.length cd⟩:Wc).S p j\/j=gk\/j=w.heap.size+2) W (W6.setCell ⟨w.heap.size+2,0,none⟩ (.slice A3 kids2.length d3)):=by
       refine (HK4.out.trans hK6.keeps (λ i hi e=>?_)).trans K6 (λ i _ e=>.inr (.inr e))
       rcases hK2.sub i e with e | e
       ·exact .inl e
       ·omega
      have hn3:∀ j,w.heap.size<=j->j<w.heap.size+6->¬ x3.S p j:=λ j h1 h2 e=>by
       rcases hsub j e with e | e
       ·exact hbk j h1 h2 e
       ·omega
      have v3ge:∀ j,(Value.slice A3 kids2.length d3).ownBlock=some j->W5.heap.size<=j:=λ j hj=>(ov3.lt j hj).1
      refine ⟨⟨k6.size,λ k o hB hh ho=>?_⟩,⟨?_,?_⟩,⟨⟨M2,kids2,new++new2,x3,.slice A3 kids2.length d3,?_,?_,?_,?_,?_,?_,hn3,?_,?_,?_⟩,?_,?_,?_,?_,?_,?_⟩⟩
      ·refine (k6.block k (Array.getElem?_eq_some_iff.1 hh).1 ?_).trans hh
       rintro (e | e | e)
       ·rcases hx1c k e with e | ⟨o',e1,e2⟩
        ·obtain ⟨m1,m2,m3⟩:=i10
         have m1':xc.mb<w.heap.size+6:=m1
         have m2':xc.db<w.heap.size+6:=m2
         have m3':xc.wb<w.heap.size+6:=m3
         have e':k=xc.mb\/k=xc.db\/k=xc.wb:=e
         omega
        ·rw [hh] at e1;cases e1;rw [ho] at e2;cases e2
       ·obtain ⟨o',e1,e2⟩:=hkcells
        rw [<- e,hh] at e1;cases e1;rw [ho] at e2;cases e2
       ·omega
      ·refine k6.block _ (by omega) ?_
       rintro (e | e | e)
       ·exact hbk _ (by omega) (by omega) e
       ·omega
       ·omega
      ·refine k6.block _ (by omega) ?_
       rintro (e | e | e)
       ·exact hgS.1 e
       ·exact hgS.2 e
       ·omega
      ·rw [HAL.out] at hLd
       exact HStep.out _ _ _ (.inr ⟨HLast.out.1,hLd⟩) HLast.out.2.1
      ·have h7:=hW6.keeps K6 (λ j hj e=>hn3 j (by omega) (by omega) hj)
       rw [rs2,List.map_append,<- List.append_assoc,<- List.append_assoc,<- HD1.out,List.length_append,<- Nat.add_assoc]
       exact h7
      ·exact ⟨Keeps.refl _ _,λ j e=>(hsub j e).elim (λ e=>i8 j e) (λ e=>.inr (by omega)),hK6.same.trans (hK2.same.trans i3.same),hK6.mb.trans (hK2.mb.trans i3.mb),hK6.db.trans (hK2.db.trans i3.db),hK6.wb.trans (hK2.wb.trans i3.wb)⟩
      ·unfold OwnsC
       exact own_base (own_keeps ov3 K6 (λ j hj e=>by have:=v3ge j hj;omega)) (Nat.zero_le _)
      ·exact u5.set 0 _
      ·exact λ j hj=>⟨ns3 j hj,.inr (by have:=v3ge j hj;omega)⟩
      ·exact λ j e=>(hsub j e).elim (λ e=>i8 j e) (λ e=>.inr (by omega))
      ·exact hK6.same
      ·obtain ⟨m1,m2,m3⟩:=i10
       exact ⟨by rw [hK6.mb,hK2.mb];exact m1,by rw [hK6.db,hK2.db];exact m2,by rw [hK6.wb,hK2.wb];exact m3⟩
      ·refine hf.trans k6 λ i hi e=>?_
       rcases e with e | e | e
       ·rcases i8 i e with e | e
        ·exact .inl e
        ·omega
       ·rcases hgk6.2 with e2 | e2
        ·exact .inr (e ▸ e2)
        ·omega
       ·omega
      ·exact (t3.keeps hK6.keeps (hc2n _ (by omega) (by omega))).keeps K6 (λ e=>by omega)
      ·exact (t4.keeps hK6.keeps (hc2n _ (by omega) (by omega))).keeps K6 (λ e=>by omega)
      ·exact (t6.keeps hK6.keeps (hc2n _ (by omega) (by omega))).keeps K6 (λ e=>by omega)
      ·exact (t7.keeps hK6.keeps (hc2n _ (by omega) (by omega))).keeps K6 (λ e=>by omega)
      ·exact (ts.keeps hK6.keeps (hc2n _ (by omega) (by omega))).keeps K6 (λ e=>by omega)
     clear u5 t3 t4 t5 t6 t7 ts hLd ov3 ns3 hW6 hK6
     gi_wp2_with (fail)
     exact HE.out
 case done =>
  intro D W hD hI hWD
  rename_i KK hKK
  refine hKK _ _ ?_
  dsimp only
  obtain ⟨⟨M1,kids1,new,x1,kv,i1,i2,i3,i4,i5,i6,i7,i8,i9,i10⟩,hf,q3,q4,q6,q7,qs⟩:=hI
  have htake:(st.map Step.ghost).reverse.take (backs st.length).length=(st.map Step.ghost).reverse:=List.take_of_length_le (by simp [backs_len])
  rw [htake] at i2
  obtain ⟨G,hG⟩:∃ G,G=(st.map Step.ghost).reverse:=⟨_,rfl⟩
  have hGl:G.length=st.length:=by rw [hG];simp
  rw [backs_len,<- hGl] at i1
  rw [<- hG] at i1 i2 hend
  rw [<- hGl] at hend
  obtain ⟨hkf1,hfp⟩:=hend _ _ _ i1
  have hnl:=i1.len
  have hJ0:UpGJ p x most M cnt made (dropped++G.map (·.1)) G (.slice B kids.length ck) kids D w (kids1.length-1) W:=by
   refine ⟨⟨M1,kids1,new,x1,kv,?_,i2,i3,i4,i5,λ j hj=>(i6 j hj).1,i7,i8,i9,i10⟩,hf,q3,q6,q7,hWD⟩
   have h2:=hkf1.two
   by_cases h:kids1.length=2
   ·exact .inl ⟨by omega,h,i1⟩
   ·by_cases h0:kids1.length=0
    ·obtain rfl:=List.eq_nil_of_length_eq_zero h0
     exact .inr (.inr ⟨rfl,rfl,i1⟩)
    ·obtain ⟨c,rfl⟩:=List.length_eq_one_iff.1 (show kids1.length=1 by omega)
     refine .inr (.inl ⟨rfl,c,rfl,?_,by omega⟩)
     have:=i1.fin (Nat.le_refl _) (root:=c.page) (M':=M1) (new3:=[]) (.inr (.inl ⟨c,rfl,rfl,rfl,rfl⟩))
     rwa [List.append_nil] at this
  have HEnd:=Hdz hend
  have HG:=Hdz hG
  have hDge:w.heap.size+6<=D:=by omega
  clear i1 i2 i3 i4 i5 i6 i7 i8 i9 i10 hf q3 q4 q6 q7 qs hend hfit hshr hids hsteps hsat hsS hstS hst hkids h hBk hB0 hA hgl hg0 hgc hbs k3 k4 k5 k6 k7 k8 hWD htake hG hfp
  go_wp2
  go_loopg [] (kids1.length-1) (λ gk wr=>UpGJ p x most M cnt made (dropped++G.map (·.1)) G (.slice B kids.length ck) kids D w gk wr)
  case atStart=>exact hJ0
  case round =>
   obtain ⟨⟨M2,kids2,new2,x2,v2,hcase,j2,j3,j4,j5,j6,j7,j8,j9,j10⟩,jf,p3,p6,p7,pd⟩:=hrel
   have hsz2:w.heap.size+4<wr.heap.size:=p7.lt
   have hdlt:D<wr.heap.size:=(Array.getElem?_eq_some_iff.1 pd).1
   rcases hcase with ⟨rfl,hl2,hU⟩ | ⟨rfl,c,rfl,hE,hn2⟩ | ⟨rfl,rfl,hU⟩
   ·obtain ⟨c1,c2,rfl⟩:∃ c1 c2,kids2=[c1,c2]:=by
     match kids2,hl2 with
     | [c1,c2],_=>exact ⟨c1,c2,rfl⟩
    obtain ⟨_,hfp⟩:=HEnd.out _ _ _ hU
    have hf2:=hfp (by simp)
    rcases x2 with ⟨xc,xb,xm,xd⟩
    simp only at j9
    subst j9
    unfold OwnsC at j4
    obtain ⟨A2,d2,rfl,_⟩:=Sl.of_own j4
    have hnl2:=hU.len
    have hBr:=branches_any A2 2 d2 c1 [c2] (headKey [] [c1,c2]) j2 (Sl.of_own j4) rfl (FitC.of hf2) (by omega) (by omega) (by rw [List.length_append];omega)
    have g3:wr.cell? ⟨w.heap.size,0,none⟩=some (ptrV x.b):=p3.cell 0
    have c5:wr.cell? ⟨w.heap.size+2,0,none⟩=some (.slice A2 2 d2):=j5.cell 0
    have HBr:=Hdz hBr
    have HJ:=Hdz (Anz j2 (Anz j3 (Anz j7 (Anz j8 (Anz j10 (Anz jf (Anz p3 (Anz p6 (Anz p7 (Anz pd (Anz j5 (Anz hU hf2))))))))))))
    clear hBr j2 j3 j4 j5 j6 j7 j8 j10 jf p3 p6 p7 pd hU hf2 hfp hl2 hJ0
    go_wp2_with (fail)
    go_must (refine HBr.out.mono ?_)
    rintro e W6 ⟨kids3,M3,new3,x3,v3,rfl,hLd,ov3,ns3,hW6,hK6⟩
    obtain ⟨j2,j3,j7,j8,j10,jf,p3,p6,p7,pd,j5,hU,hf2⟩:=HJ.out
    obtain ⟨rid,rfl⟩:∃ rid,kids3=[⟨c1.key,rid⟩]:=by
     rcases hLd with ⟨i,_,_,_,_,e,_⟩ | ⟨z,ra,y,rb,i1,i2,hh,_⟩
     ·exact ⟨i,e⟩
     ·exfalso
      have h51:=layC_le51 (L:=headKey [] [c1,c2]) (λ z hz=>(Child.lay_fit (rightC_fit hf2.right z hz)).1)
      simp only [headKey_len,List.length_cons,List.length_nil] at h51
      omega
    unfold OwnsC at ov3
    obtain ⟨A3,d3,rfl,_⟩:=Sl.of_own ov3
    have u5:=j5.keeps hK6.keeps (j7 _ (by omega) (by omega))
    have c5d:W6.cell? ⟨w.heap.size+2,0,none⟩=some (.slice A2 2 d2):=u5.cell 0
    have f5d:=u5.frozen 0
    have hz6:=hK6.keeps.size
    have HE:Hid (UpGJ p x most M cnt made (dropped++G.map (·.1)) G (.slice B kids.length ck) kids D w 0 (W6.setCell ⟨w.heap.size+2,0,none⟩ (.slice A3 1 d3))):=by
     have K6:Keeps (λ j=>j=w.heap.size+2) W6 (W6.setCell ⟨w.heap.size+2,0,none⟩ (.slice A3 1 d3)):=(Keeps.refl (λ j=>j=w.heap.size+2) W6).setCell (p:=⟨w.heap.size+2,0,none⟩) (λ _=>rfl) _
     have hn3:∀ j,w.heap.size<=j->j<w.heap.size+6->¬ x3.S p j:=λ j h1 h2 e=>by
      rcases hK6.sub j e with e | e
      ·exact j7 j h1 h2 e
      ·omega
     have v3ge:∀ j,(Value.slice A3 1 d3).ownBlock=some j->wr.heap.size<=j:=λ j hj=>(ov3.lt j hj).1
     refine ⟨⟨M3,_,new2++new3,x3,.slice A3 1 d3,.inr (.inl ⟨rfl,⟨c1.key,rid⟩,rfl,hU.fin (Nat.le_refl _) (.inr (.inr ⟨c1,c2,rfl,hLd⟩)),?_⟩),?_,?_,?_,?_,ns3,hn3,?_,hK6.same,?_⟩,?_,?_,?_,?_,?_⟩
     ·have:new3.length<=2:=by
       rcases hLd with ⟨_,_,_,_,_,_,_,rfl⟩ | ⟨_,_,_,_,_,_,_,_,_,_,_,_,_,_,_,_,rfl⟩<;>simp
      rw [List.length_append]
      omega
     ·have h7:=hW6.keeps K6 (λ j hj e=>hn3 j (by omega) (by omega) hj)
      rw [<- List.append_assoc,List.length_append,<- Nat.add_assoc]
      exact h7
     ·exact ⟨Keeps.refl _ _,λ j e=>(hK6.sub j e).elim (λ e=>j8 j e) (λ e=>.inr (by omega)),hK6.same.trans j3.same,hK6.mb.trans j3.mb,hK6.db.trans j3.db,hK6.wb.trans j3.wb⟩
     ·unfold OwnsC
      exact own_base (own_keeps ov3 K6 (λ j hj e=>by have:=v3ge j hj;omega)) (Nat.zero_le _)
     ·exact u5.set 0 _
     ·exact λ j e=>(hK6.sub j e).elim (λ e=>j8 j e) (λ e=>.inr (by omega))
     ·obtain ⟨m1,m2,m3⟩:=j10
      exact ⟨by rw [hK6.mb];exact m1,by rw [hK6.db];exact m2,by rw [hK6.wb];exact m3⟩
     ·refine (jf.trans hK6.keeps λ i hi e=>?_).trans K6 λ i hi e=>by omega
      rcases j8 i e with e | e
      ·exact .inl e
      ·omega
     ·exact (p3.keeps hK6.keeps (j7 _ (by omega) (by omega))).keeps K6 (λ e=>by omega)
     ·exact (p6.keeps hK6.keeps (j7 _ (by omega) (by omega))).keeps K6 (λ e=>by omega)
     ·exact (p7.keeps hK6.keeps (j7 _ (by omega) (by omega))).keeps K6 (λ e=>by omega)
     ·refine (K6.block D (by omega) (by omega)).trans ((hK6.keeps.block D hdlt λ e=>?_).trans pd)
      rcases j2.cells D e with e | ⟨o',e1,e2⟩
      ·obtain ⟨m1,m2,m3⟩:=j10
       have m1':xc.mb<w.heap.size+6:=m1
       have m2':xc.db<w.heap.size+6:=m2
       have m3':xc.wb<w.heap.size+6:=m3
       have e':D=xc.mb\/D=xc.db\/D=xc.wb:=e
       omega
      ·rw [pd] at e1;cases e1;cases e2
    clear j2 j3 j7 j8 j10 jf p3 p6 p7 pd j5 hU hf2 hLd ov3 ns3 hW6 hK6 u5
    go_wp2_with (fail)
    go_roundg 0
    case measure=>omega
    case rel=>exact HE.out
   ·unfold OwnsC at j4
    rcases j4.2 with ⟨_,h0⟩ | ⟨g4,cap4,cur4,rfl,hgb,hheap,hnc,hcm,hcs,hcx⟩
    ·cases h0
    have hpage:wr.cell? ⟨g4,1,none⟩=some (.int .i64 c.page):=by
     obtain ⟨_,_,e1,_,_,hcl⟩:=Sl.of_own j4
     cases e1
     obtain ⟨b',o',e2,_,hcl2⟩:=hcl (by simp)
     cases e2
     exact hcl2 1 _ rfl
    have c5:wr.cell? ⟨w.heap.size+2,0,none⟩=some (.slice (some ⟨g4,0,none⟩) 1 cap4):=j5.cell 0
    have c6:wr.cell? ⟨w.heap.size+3,0,none⟩=some (.int .i64 0):=p6.cell 0
    have f6:=p6.frozen 0
    have c7:wr.cell? ⟨w.heap.size+4,0,none⟩=some (.int .i64 0):=p7.cell 0
    have f7:=p7.frozen 0
    obtain ⟨Wf,hWf⟩:∃ Wf,Wf=(wr.setCell ⟨w.heap.size+3,0,none⟩ (.int .i64 c.page)).setCell ⟨w.heap.size+4,0,none⟩ (.int .i64 0):=⟨_,rfl⟩
    have KF:Keeps (λ j=>j=w.heap.size+3\/j=w.heap.size+4) wr Wf:=by
     rw [hWf]
     exact ((Keeps.refl _ wr).setCell (p:=⟨w.heap.size+3,0,none⟩) (λ _=>.inl rfl) _).setCell (p:=⟨w.heap.size+4,0,none⟩) (λ _=>.inr rfl) _
    have hdF:Wf.heap[D]? = some (.deferred (some [])):=(KF.block D hdlt (by omega)).trans pd
    have r6:Blk Wf (w.heap.size+3) 3 #[.int .i64 c.page]:=by
     rw [hWf]
     exact (p6.set 0 _).keeps ((Keeps.refl (λ j=>j=w.heap.size+4) _).setCell (p:=⟨w.heap.size+4,0,none⟩) (λ _=>rfl) _) (λ e=>by omega)
    have r7:Blk Wf (w.heap.size+4) 28 #[.int .i64 0]:=by
     rw [hWf]
     exact (p7.keeps ((Keeps.refl (λ j=>j=w.heap.size+3) wr).setCell (p:=⟨w.heap.size+3,0,none⟩) (λ _=>rfl) _) (λ e=>by omega)).set 0 _
    have hgp:=grownBy_putObj' Wf D (.deferred none)
    have s6:Blk (Wf.putObj D (.deferred none)) (w.heap.size+3) 3 #[.int .i64 c.page]:=blk_turn (B:=w.heap.size+6) r6 hgp (λ r e=>by cases e;exact ⟨hDge,_,hdF,rfl⟩)
    have s7:Blk (Wf.putObj D (.deferred none)) (w.heap.size+4) 28 #[.int .i64 0]:=blk_turn (B:=w.heap.size+6) r7 hgp (λ r e=>by cases e;exact ⟨hDge,_,hdF,rfl⟩)
    have y6:(Wf.putObj D (.deferred none)).cell? ⟨w.heap.size+3,0,none⟩=some (.int .i64 c.page):=s6.cell 0
    have y7:(Wf.putObj D (.deferred none)).cell? ⟨w.heap.size+4,0,none⟩=some (.int .i64 0):=s7.cell 0
    have HE:Hid (UpGP p x most M cnt made dropped st (.slice B kids.length ck) kids w (.returned (.tuple #[.int .i64 c.page,.int .i64 0])) (Wf.putObj D (.deferred none))):=by
     have hWF:=j2.keeps KF (λ j hj e=>j7 j (by omega) (by omega) hj)
     have hWP:=hWF.turn j10 hgp (λ r e=>by cases e;exact ⟨hDge,_,hdF,rfl⟩)
     refine ⟨c.page,M2,new2,[],x2,rfl,?_,?_,j3,?_⟩
     ·rw [<- HG.out];exact hE
     ·rw [<- HG.out,List.append_nil];exact hWP
     ·exact (jf.trans KF (λ i hi e=>by omega)).grown hgp (λ r e hlt=>by cases e;omega)
    have HW:=Hdz hWf
    have HdF:=Hdz hdF
    clear j2 j3 j4 j5 j6 j7 j8 j9 j10 jf p3 p6 p7 pd KF hgp r6 r7 s6 s7 hheap hnc hcm hcs hcx hE hJ0 hWf hdF
    go_wp2_with (fail)
    rw [show (wr.setCell ⟨w.heap.size+1+1+1,0,none⟩ (.int .i64 c.page)).setCell ⟨w.heap.size+1+1+1+1,0,none⟩ (.int .i64 0)=Wf from HW.out.symm]
    have y6':(Wf.putObj D (.deferred none)).cell? ⟨w.heap.size+1+1+1,0,none⟩=some (.int .i64 c.page):=y6
    have y7':(Wf.putObj D (.deferred none)).cell? ⟨w.heap.size+1+1+1+1,0,none⟩=some (.int .i64 0):=y7
    refine ⟨by simp,.inl ⟨_,_,rfl,run_takeDeferred HdF.out,?_⟩⟩
    refine ⟨.tuple #[.int .i64 c.page,.int .i64 0],?_,HE.out⟩
    simp [results,Tryz.results149,go_sem,y6',y7']
   ·have hkv:∃ A2 c2,v2=.slice A2 0 c2:=by
     unfold OwnsC at j4
     obtain ⟨A2,c2,e,_⟩:=Sl.of_own j4
     exact ⟨A2,c2,e⟩
    obtain ⟨A2,c2,rfl⟩:=hkv
    have hnl2:=hU.len
    have g3:wr.cell? ⟨w.heap.size,0,none⟩=some (ptrV x.b):=p3.cell 0
    have g5:wr.cell? ⟨w.heap.size+2,0,none⟩=some (.slice A2 0 c2):=j5.cell 0
    have hPg:=page_any ⟨2,0,[]⟩ j2 (by simp [Pg.ok]) rfl (by omega) (by rw [List.length_append];omega)
    rw [j9] at hPg
    have HPg:=Hdz hPg
    have HN:=Hdz (Anz hU (Anz j2 (Anz j3 (Anz j7 (Anz j8 (Anz j10 (Anz jf (Anz p6 (Anz p7 pd)))))))))
    clear hPg j2 j3 j4 j5 j6 j7 j8 j9 j10 jf p3 p6 p7 pd hU hJ0
    go_wp2_with (fail)
    go_must (refine HPg.out.mono ?_)
    rintro e W6 ⟨root,x3,rfl,r1,r2,r3,hW6,hK6⟩
    obtain ⟨hU,j2,j3,j7,j8,j10,jf,p6,p7,pd⟩:=HN.out
    have hz6:=hK6.keeps.size
    have u6:=p6.keeps hK6.keeps (j7 _ (by omega) (by omega))
    have u7:=p7.keeps hK6.keeps (j7 _ (by omega) (by omega))
    have ud:W6.heap[D]? = some (.deferred (some [])):=(hK6.keeps.block D hdlt λ e=>by
     rcases j2.cells D e with e | ⟨o',e1,e2⟩
     ·obtain ⟨m1,m2,m3⟩:=j10
      omega
     ·rw [pd] at e1;cases e1;cases e2).trans pd
    have c6:W6.cell? ⟨w.heap.size+3,0,none⟩=some (.int .i64 0):=u6.cell 0
    have f6:=u6.frozen 0
    have c7:W6.cell? ⟨w.heap.size+4,0,none⟩=some (.int .i64 0):=u7.cell 0
    have f7:=u7.frozen 0
    have hn3:∀ j,w.heap.size<=j->j<w.heap.size+6->¬ x3.S p j:=λ j h1 h2 e=>by
     rcases hK6.sub j e with e | e
     ·exact j7 j h1 h2 e
     ·omega
    obtain ⟨Wf,hWf⟩:∃ Wf,Wf=(W6.setCell ⟨w.heap.size+3,0,none⟩ (.int .i64 root)).setCell ⟨w.heap.size+4,0,none⟩ (.int .i64 0):=⟨_,rfl⟩
    have KF:Keeps (λ j=>j=w.heap.size+3\/j=w.heap.size+4) W6 Wf:=by
     rw [hWf]
     exact ((Keeps.refl _ W6).setCell (p:=⟨w.heap.size+3,0,none⟩) (λ _=>.inl rfl) _).setCell (p:=⟨w.heap.size+4,0,none⟩) (λ _=>.inr rfl) _
    have hdF:Wf.heap[D]? = some (.deferred (some [])):=(KF.block D (by omega) (by omega)).trans ud
    have r6:Blk Wf (w.heap.size+3) 3 #[.int .i64 root]:=by
     rw [hWf]
     exact (u6.set 0 _).keeps ((Keeps.refl (λ j=>j=w.heap.size+4) _).setCell (p:=⟨w.heap.size+4,0,none⟩) (λ _=>rfl) _) (λ e=>by omega)
    have r7:Blk Wf (w.heap.size+4) 28 #[.int .i64 0]:=by
     rw [hWf]
     exact (u7.keeps ((Keeps.refl (λ j=>j=w.heap.size+3) W6).setCell (p:=⟨w.heap.size+3,0,none⟩) (λ _=>rfl) _) (λ e=>by omega)).set 0 _
    have hgp:=grownBy_putObj' Wf D (.deferred none)
    have s6:Blk (Wf.putObj D (.deferred none)) (w.heap.size+3) 3 #[.int .i64 root]:=blk_turn (B:=w.heap.size+6) r6 hgp (λ r e=>by cases e;exact ⟨hDge,_,hdF,rfl⟩)
    have s7:Blk (Wf.putObj D (.deferred none)) (w.heap.size+4) 28 #[.int .i64 0]:=blk_turn (B:=w.heap.size+6) r7 hgp (λ r e=>by cases e;exact ⟨hDge,_,hdF,rfl⟩)
    have y6:(Wf.putObj D (.deferred none)).cell? ⟨w.heap.size+3,0,none⟩=some (.int .i64 root):=s6.cell 0
    have y7:(Wf.putObj D (.deferred none)).cell? ⟨w.heap.size+4,0,none⟩=some (.int .i64 0):=s7.cell 0
    have HE:Hid (UpGP p x most M cnt made dropped st (.slice B kids.length ck) kids w (.returned (.tuple #[.int .i64 root,.int .i64 0])) (Wf.putObj D (.deferred none))):=by
     have hWF:=hW6.keeps KF (λ j hj e=>hn3 j (by omega) (by omega) hj)
     have hm3:x3.c.maps (w.heap.size+6):=by
      obtain ⟨m1,m2,m3⟩:=j10
      exact ⟨by rw [hK6.mb];exact m1,by rw [hK6.db];exact m2,by rw [hK6.wb];exact m3⟩
     have hWP:=hWF.turn hm3 hgp (λ r e=>by cases e;exact ⟨hDge,_,hdF,rfl⟩)
     refine ⟨root,_,new2++[root],[],x3,rfl,by rw [<- HG.out];exact hU.fin (Nat.le_refl _) (.inl ⟨rfl,r1,r2,r3,rfl,rfl⟩),by rw [<- HG.out,List.append_nil,<- List.append_assoc,List.length_append];exact hWP,⟨Keeps.refl _ _,λ j e=>(hK6.sub j e).elim (λ e=>j8 j e) (λ e=>.inr (by omega)),hK6.same.trans j3.same,hK6.mb.trans j3.mb,hK6.db.trans j3.db,hK6.wb.trans j3.wb⟩,?_⟩
     refine ((jf.trans hK6.keeps λ i hi e=>?_).trans KF (λ i hi e=>by omega)).grown hgp (λ r e hlt=>by cases e;omega)
     rcases j8 i e with e | e
     ·exact .inl e
     ·omega
    have HW:=Hdz hWf
    have HdF:=Hdz hdF
    clear hW6 hK6 j2 j3 j7 j8 j10 jf p6 p7 pd KF hgp r6 r7 s6 s7 hWf hdF u6 u7 ud hn3
    go_wp2_with (fail)
    rw [show (W6.setCell ⟨w.heap.size+1+1+1,0,none⟩ (.int .i64 root)).setCell ⟨w.heap.size+1+1+1+1,0,none⟩ (.int .i64 0)=Wf from HW.out.symm]
    have y6':(Wf.putObj D (.deferred none)).cell? ⟨w.heap.size+1+1+1,0,none⟩=some (.int .i64 root):=y6
    have y7':(Wf.putObj D (.deferred none)).cell? ⟨w.heap.size+1+1+1+1,0,none⟩=some (.int .i64 0):=y7
    refine ⟨by simp,.inl ⟨_,_,rfl,run_takeDeferred HdF.out,?_⟩⟩
    refine ⟨.tuple #[.int .i64 root,.int .i64 0],?_,HE.out⟩
    simp [results,Tryz.results149,go_sem,y6',y7']
 case stop =>
  intro D k W hD hk hX hWD
  obtain ⟨⟨root,M1,new,drp,x1,h1,h2,h3,h4,h5,h6⟩,hf⟩:=hX
  have hDge:w.heap.size+6<=D:=by omega
  have hgp:=grownBy_putObj' W D (.deferred none)
  have s6:=blk_turn (B:=w.heap.size+6) h5 hgp (λ r e=>by cases e;exact ⟨hDge,_,hWD,rfl⟩)
  have s7:=blk_turn (B:=w.heap.size+6) h6 hgp (λ r e=>by cases e;exact ⟨hDge,_,hWD,rfl⟩)
  have y6':(W.putObj D (.deferred none)).cell? ⟨w.heap.size+1+1+1,0,none⟩=some (.int .i64 root):=s6.cell 0
  have y7':(W.putObj D (.deferred none)).cell? ⟨w.heap.size+1+1+1+1,0,none⟩=some (.int .i64 0):=s7.cell 0
  have HE:Hid (UpGP p x most M cnt made dropped st (.slice B kids.length ck) kids w (.returned (.tuple #[.int .i64 root,.int .i64 0])) (W.putObj D (.deferred none))):=
   ⟨root,M1,new,drp,x1,rfl,h1,h2.turn h4 hgp (λ r e=>by cases e;exact ⟨hDge,_,hWD,rfl⟩),h3,hf.grown hgp (λ r e hlt=>by cases e;omega)⟩
  refine wpIn_ret ?_
  simp only [Exit.inBlock,Exit.then]
  refine ⟨by simp,.inl ⟨_,_,rfl,run_takeDeferred hWD,?_⟩⟩
  refine ⟨.tuple #[.int .i64 root,.int .i64 0],?_,HE.out⟩
  simp [results,Tryz.results149,go_sem,y6',y7']
end
end Go.Ev
