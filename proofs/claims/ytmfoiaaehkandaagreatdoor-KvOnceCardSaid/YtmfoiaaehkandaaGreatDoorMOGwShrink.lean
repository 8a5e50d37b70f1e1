/-
  Texts of this claim.
-/
import Derived.Test.YtmfoiaaehkandaaGreatDoorMOGvCurs
import Derived.Test.YtmfoiaaehkandaaGreatDoorMOGwUpL
set_option linter.unusedVariables false
set_option linter.unusedSimpArgs false
namespace Go.Ev
open Go.Proofs Go.RowKit
section
variable {p most cnt:Nat} {x:Wc} {M:Store} {made dropped:List Int}
def ShrinkP (p:Nat) (x:Wc) (most:Nat) (M:Store) (cnt:Nat) (made dropped:List Int) (root:Int) (drp:List Int) (w:World) (e:Ending) (w':World):Prop:=
 ∃ x',e=.returned (.tuple #[.int .i64 root,.int .i64 0])/\WkOk w' p x' most M cnt made (dropped++drp)/\WkK p x x' w w'
theorem Shrink.cases' {id root:Int} {drp:List Int} (h:Shrink M id root drp):(∃ items,M id=some ⟨2,0,layI items⟩/\riseI items=true/\(layI items).length<=240/\items≠[]/\root=id/\drp=[]) ∨
  (∃ L,M id=some ⟨3,0,layC L⟩/\rightC L=true/\(layC L).length<=240/\2<=L.length/\root=id/\drp=[]) ∨
  ∃ y d,M id=some ⟨3,0,layC [y]⟩/\rightC [y]=true/\(layC [y]).length<=240/\Shrink M y.page root d/\drp=id :: d:=by
 cases h with
 | leaf h1 h2 h3 h4=>exact .inl ⟨_,h1,h2,h3,h4,rfl,rfl⟩
 | wide h1 h2 h3 h4=>exact .inr (.inl ⟨_,h1,h2,h3,h4,rfl,rfl⟩)
 | one h1 h2 h3 h4=>exact .inr (.inr ⟨_,_,h1,h2,h3,h4,rfl⟩)
set_option maxHeartbeats 8000000 in
set_option maxRecDepth 100000 in
theorem shrink_ok (id root:Int) (drp:List Int) (w:World) (h:WkOk w p x most M cnt made dropped) (hs:Shrink M id root drp) (hd:drp.length<=28) (hdl:dropped.length<=50000) :
  Calls Tryz.prog 205 #[ptrV x.b,.int .i64 id] w (ShrinkP p x most M cnt made dropped root drp w):=by
 obtain ⟨i0,hi,hz0,hz1,hz2⟩:=info_parts infoInt
 go_enter Tryz.func205,Tryz.ntmps205
 go_wp2_with (fail)
 go_loopg [1,6] drp.length (λ gk s1 s6 wr=>∃ (cur:Int) (done rest:List Int) (x':Wc),s1=.int .i64 cur/\s6=.int .i64 ((done.length:Int)+1)/\rest.length<=gk/\Hid (done++rest=drp)/\Hid (Shrink M cur root rest)/\Hid (WkOk wr p x' most M cnt made (dropped++done))/\Hid (WkK p x x' w wr))
 case atStart=>exact ⟨id,[],drp,x,rfl,rfl,Nat.le_refl _,rfl,hs,(by show WkOk _ _ _ _ _ _ _ _;simpa using h),WkK.refl _ _ _⟩
 case round =>
  obtain ⟨cur,done,rest,x',rfl,rfl,hg,hdr,hsh,hwk,hkk⟩:=hrel
  have hb:x'.b=x.b:=hkk.out.same
  have g0:wr.cell? ⟨x.b,0,none⟩=some (ptrV p):=by rw [<- hb];exact hwk.out.blk.cell 0
  have hlen:done.length+rest.length<=28:=by have:=congrArg List.length hdr.out;rw [List.length_append] at this;omega
  have hdl1:(done.length:Int)+1=((done.length+1:Nat):Int):=by omega
  rcases hsh.out.cases' with ⟨items,h1,h2,h3,h4,h5,h6⟩ | ⟨L,h1,h2,h3,h4,h5,h6⟩ | ⟨y,d,h1,h2,h3,h4,h5⟩
  ·have hX:=load_leaf cur (done.length+1) items wr hwk.out.pg h1 h2 h3 (by omega) (.inl h4)
   rw [<- hdl1] at hX
   have HX:=Hdz hX
   have HR:=Hdz (Anz h5 h6)
   clear hX h1 h2 h3 h4 h5 h6 h hs hdl1
   go_wp2_with (fail)
   go_must (refine HX.out.mono ?_)
   rintro e w1 ⟨v,rfl,hIt,hb1⟩
   unfold OwnsI at hIt
   obtain ⟨B,dd,rfl,_⟩:=Sl.of_own hIt
   have HB:=Hdz hb1
   clear hIt hb1
   go_wp2_with (fail)
   refine bodyPost_ret (v:=.tuple #[.int .i64 cur,.int .i64 0]) (by simp [results,Tryz.results205,go_sem]) rfl ?_
   obtain ⟨rfl,h6⟩:=HR.out
   have hd2:=hdr.out
   rw [h6,List.append_nil] at hd2
   subst hd2
   have hbb:=(Below.refl _ w1).alloc (Nat.le_refl _) (.cells #[.bool true,.slice B items.length dd,.slice none 0 0] 285)
   exact ⟨x',rfl,(hwk.out.below HB.out).below hbb,(hkk.out.trans (WkK.of_below HB.out)).trans (WkK.of_below hbb)⟩
  ·have hX:=load_branch cur (done.length+1) L wr hwk.out.pg h1 h2 h3 (by omega) (.inl h4)
   rw [<- hdl1] at hX
   have HX:=Hdz hX
   have HR:=Hdz (Anz h5 h6)
   have hL1:(1:Int)<(L.length:Int):=by omega
   clear hX h1 h2 h3 h4 h5 h6 h hs hdl1
   go_wp2_with (fail)
   go_must (refine HX.out.mono ?_)
   rintro e w1 ⟨v,rfl,hIt,hb1⟩
   unfold OwnsC at hIt
   obtain ⟨B,dd,rfl,_⟩:=Sl.of_own hIt
   have HB:=Hdz hb1
   clear hIt hb1
   go_wp2_with (fail)
   refine bodyPost_ret (v:=.tuple #[.int .i64 cur,.int .i64 0]) (by simp [results,Tryz.results205,go_sem]) rfl ?_
   obtain ⟨rfl,h6⟩:=HR.out
   have hd2:=hdr.out
   rw [h6,List.append_nil] at hd2
   subst hd2
   have hbb:=(Below.refl _ w1).alloc (Nat.le_refl _) (.cells #[.bool false,.slice none 0 0,.slice B L.length dd] 285)
   exact ⟨x',rfl,(hwk.out.below HB.out).below hbb,(hkk.out.trans (WkK.of_below HB.out)).trans (WkK.of_below hbb)⟩
  ·have hX:=load_branch cur (done.length+1) [y] wr hwk.out.pg h1 h2 h3 (by omega) (.inr (by omega))
   rw [<- hdl1] at hX
   have HX:=Hdz hX
   have HR:=Hdz (Anz h4 h5)
   have hgk:d.length+1<=gk:=by rw [h5] at hg;simpa using hg
   clear hX h1 h2 h3 h4 h5 h hs hdl1 hg
   go_wp2_with (fail)
   go_must (refine HX.out.mono ?_)
   rintro e w1 ⟨v,rfl,hIt,hb1⟩
   unfold OwnsC at hIt
   obtain ⟨B,dd,rfl,-⟩:=Sl.of_own hIt
   obtain ⟨_,_,e0,_,_,hcl⟩:=Sl.of_own hIt
   cases e0
   obtain ⟨blk,off,rfl,hbl,hcell⟩:=hcl (by simp)
   have hbb:=(Below.refl _ w1).alloc (Nat.le_refl _) (.cells #[.bool false,.slice none 0 0,.slice (some ⟨blk,off,none⟩) 1 dd] 285)
   have bn:Blk (w1.alloc (.cells #[.bool false,.slice none 0 0,.slice (some ⟨blk,off,none⟩) 1 dd] 285)) w1.heap.size 285 #[.bool false,.slice none 0 0,.slice (some ⟨blk,off,none⟩) 1 dd]:=Blk.new _ _ _
   have n0:(w1.alloc (.cells #[.bool false,.slice none 0 0,.slice (some ⟨blk,off,none⟩) 1 dd] 285)).cell? ⟨w1.heap.size,0,none⟩=some (.bool false):=bn.cell 0
   have n2:(w1.alloc (.cells #[.bool false,.slice none 0 0,.slice (some ⟨blk,off,none⟩) 1 dd] 285)).cell? ⟨w1.heap.size,2,none⟩=some (.slice (some ⟨blk,off,none⟩) 1 dd):=bn.cell 2
   obtain ⟨D1,hD1⟩:=nmz (dropped++done)
   have hD1l:D1.length<=50100:=by rw [<- hD1,List.length_append];omega
   have hwk0:=hwk.out
   rw [hD1] at hwk0
   rcases x' with ⟨xc,xb,xm,xd⟩
   simp only at hb
   subst hb
   have hw1:=(hwk0.below hb1).below hbb
   have hdr':=hw1.dr
   simp only at hdr'
   obtain ⟨Ad,cd,rfl,-⟩:=Sl.of_own hdr'
   have hw2:=hw1.alloc (.cells #[.int .i64 cur] 3)
   have g2:(w1.alloc (.cells #[.bool false,.slice none 0 0,.slice (some ⟨blk,off,none⟩) 1 dd] 285)).cell? ⟨x.b,2,none⟩=some (.slice Ad D1.length cd):=hw1.blk.cell 2
   have hxb:x.b<w1.heap.size:=(hwk0.below hb1).blk.lt
   have HW2:=Hdz (Anz hw2 (Anz (bn.alloc (.cells #[.int .i64 cur] 3)) (Anz (own_below (own_below hIt hbb) ((Below.refl _ _).alloc (Nat.le_refl _) (.cells #[.int .i64 cur] 3))) hxb)))
   have HD1:=Hdz hD1
   have HKK:=Hdz ((hkk.out.trans (WkK.of_below hb1)).trans (WkK.of_below hbb))
   clear hw1 hw2 hdr' hwk0 hD1 hwk hkk hIt hcell hcl hb1 hbb bn
   go_wp2_with (at_builtin;go_must (refine wpList_append_at rfl _ _ 35 rfl 0 3 i0 _ 1 8 Tryz.underlying35 hi hz0 hz1 hz2 rfl (by decide) _ D1.length (intsV D1) rfl HW2.out.1.dr ⟨w1.heap.size+1,0,none⟩ 1 1 [.int .i64 cur] rfl rfl (row_new1 _ _ _ _ (by simp)) (by simp [Value.oneCell']) (by unfold maxLen;omega) (by omega) (Nat.zero_le _) ?_))
   intro v4 w4 own4 hg4 hw4
   obtain ⟨h3,kk3⟩:=HW2.out.1.grownD (l:=[cur]) hg4 own4 (λ k hk=>by have:=hw4 k hk;simpa using this)
   have b4:=HW2.out.1.blkD hg4
   have z1:w4.cell? ⟨x.b,2,none⟩=some (.slice Ad D1.length cd):=b4.cell 2
   have z2:w4.frozen? ⟨x.b,2,none⟩=false:=b4.frozen 2
   have K4:Keeps (λ k=>(Value.slice Ad D1.length cd).ownBlock=some k\/k=x.b) ((w1.alloc (.cells #[.bool false,.slice none 0 0,.slice (some ⟨blk,off,none⟩) 1 dd] 285)).alloc (.cells #[.int .i64 cur] 3)) (w4.setCell ⟨x.b,2,none⟩ v4):=
    ((Keeps.refl (λ k=>(Value.slice Ad D1.length cd).ownBlock=some k\/k=x.b) _).grown hg4 (λ k hk _=>.inl hk)).setCell (p:=⟨x.b,2,none⟩) (λ _=>.inr rfl) _
   have bn5:=HW2.out.2.1.keeps K4 (λ e=>by
    rcases e with e | e
    ·exact own_ne HW2.out.1.dr HW2.out.2.1 (by decide) _ e rfl
    ·have:=HW2.out.2.2.2;omega)
   have m2:(w4.setCell ⟨x.b,2,none⟩ v4).cell? ⟨w1.heap.size,2,none⟩=some (.slice (some ⟨blk,off,none⟩) 1 dd):=bn5.cell 2
   have hI5:=own_keeps HW2.out.2.2.1 K4 (λ k hk e=>by
    rcases e with e | e
    ·exact own_apart HW2.out.2.2.1 HW2.out.1.dr (by decide) k hk e
    ·exact own_ne HW2.out.2.2.1 HW2.out.1.blk (by decide) k hk e)
   obtain ⟨_,_,e5,_,_,hcl5⟩:=Sl.of_own hI5
   cases e5
   obtain ⟨_,_,e6,_,hcell5⟩:=hcl5 (by simp)
   cases e6
   have m1:(w4.setCell ⟨x.b,2,none⟩ v4).cell? ⟨blk,off+1,none⟩=some (.int .i64 y.page):=hcell5 1 _ rfl
   have HE:=Hdz (Anz h3 (HKK.out.trans ((WkK.of_below ((Below.refl _ _).alloc (Nat.le_refl _) _)).trans kk3)))
   have hwd:IntKind.i64.wrap ((done.length:Int)+1+1)=(done.length:Int)+1+1:=IntWalk.i64_in _ (by omega)
   obtain ⟨A4,c4,rfl,-⟩:=Sl.of_own own4
   clear own4 hg4 hw4 h3 kk3 b4 K4 bn5 hI5 hcl5 hcell5
   go_wp2_with (fail)
   go_roundg (gk-1)
   case measure=>omega
   case rel=>exact ⟨y.page,done++[cur],d,_,rfl,by simp,by omega,by
    show _=_
    rw [<- hdr.out,HR.out.2]
    simp,HR.out.1,by
    show WkOk _ _ _ _ _ _ _ _
    rw [<- List.append_assoc,HD1.out]
    exact HE.out.1,HE.out.2⟩
end
end Go.Ev
