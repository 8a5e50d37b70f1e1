/-
  Texts of this claim.
-/
import Derived.Test.YtmfoiaaehkandaaGreatDoorMOGwKops
import Derived.Test.YtmfoiaaehkandaaGreatDoorMOGwKv5
import Derived.Test.YtmfoiaaehkandaaGreatDoorMOGwOnceLaw
set_option linter.unusedVariables false
set_option linter.unusedSimpArgs false

namespace Go.Ev
open Go.Proofs Go.RowKit
theorem sizK_le:∀ (l:List KOp) (i:Nat),sizK (l.take i)<=sizK l
 | [],i=>by simp [sizK]
 | o :: l,0=>by simp [sizK]
 | o :: l,i+1=>by have:=sizK_le l i;simp only [List.take_succ_cons,sizK];omega
section
variable {D:DB} {F:Nat->Prop} {bb q n i B:Nat} {l:List (Nat × Ses)} {s:KSt} {W W' W2:World}
theorem Sn.gap (h:Sn D F bb q n l W) (hb:Below W.heap.size W W'):Sn D (λ k=>F k/\¬ (W.heap.size<=k/\k<W'.heap.size)) bb q n l W':=
 h.fence (G:=λ _=>False) (Keeps.of_below hb) (λ _ _ _ e=>e) (λ k hk e=>⟨e,λ hh=>by omega⟩) λ k hk=>⟨h.size k (Nat.le_trans hb.size hk),λ hh=>by omega⟩
end
def One (K:Nat->Prop) (B0 bb q i C:Nat) (s:KSt) (W:World):Prop:=∃ F,Sn s.1 F bb q s.2.1 s.2.2 W/\RunK s i C/\(∀ k,F k->B0<=k)/\∀ k,K k->k<W.heap.size/\¬ F k
section
variable {K K':Nat->Prop} {B0 bb q i C:Nat} {s:KSt} {W W':World}
theorem One.less (h:One K B0 bb q i C s W) (hK:∀ k,K' k->K k):One K' B0 bb q i C s W:=by
 obtain ⟨F,h1,h2,h3,h4⟩:=h
 exact ⟨F,h1,h2,h3,λ k hk=>h4 k (hK k hk)⟩
theorem One.to {i' C' q':Nat} (h:One K B0 bb q i C s W) (hq:q<=q') (hi:i<=i') (hC:C<=C'):One K B0 bb q' i' C' s W:=by
 obtain ⟨F,h1,h2,h3⟩:=h
 exact ⟨F,h1.upto hq,h2.more hi hC,h3⟩
theorem One.new (h:One K B0 bb q i C s W) (hb:Below W.heap.size W W'):One (λ k=>K k\/(W.heap.size<=k/\k<W'.heap.size)) B0 bb q i C s W':=by
 obtain ⟨F,h1,h2,h3,h4⟩:=h
 have hz:=hb.size
 refine ⟨_,h1.gap hb,h2,λ k e=>h3 k e.1,λ k hk=>?_⟩
 rcases hk with hk | hk
 ·obtain ⟨q1,q2⟩:=h4 k hk
  exact ⟨by omega,λ e=>q2 e.1⟩
 ·exact ⟨hk.2,λ e=>e.2 hk⟩
theorem One.turn (h:One K B0 bb q i C s W) (hk:Keeps K W W'):One (λ k=>K k\/(W.heap.size<=k/\k<W'.heap.size)) B0 bb q i C s W':=by
 obtain ⟨F,h1,h2,h3,h4⟩:=h
 have hz:=hk.size
 refine ⟨λ k=>F k/\¬ (W.heap.size<=k/\k<W'.heap.size)\/W'.heap.size<=k,h1.fence hk (λ k _ e e2=>(h4 k e2).2 e) (λ k hl e=>.inl ⟨e,λ hh=>by omega⟩) (λ k hl=>.inr hl),h2,λ k e=>?_,λ k hk=>?_⟩
 ·rcases e with e | e
  ·exact h3 k e.1
  ·exact h3 k (h1.size k (by omega))
 ·rcases hk with hk | hk
  ·obtain ⟨q1,q2⟩:=h4 k hk
   exact ⟨by omega,λ e=>e.elim (λ e=>q2 e.1) λ e=>by omega⟩
  ·exact ⟨hk.2,λ e=>e.elim (λ e=>e.2 hk) λ e=>by omega⟩
theorem One.do (h:One K B0 bb q i C s W) (o:KOp) (hg:GoodK o) (hi:i<=210) (hq:q<=15000) (hC:C+o.val.length<=61000) (hB0:B0<=W.heap.size) :
  Calls Tryz.prog 23 #[ptrV bb,.agg #[.int .i64 o.kind,.int .i64 o.ses,.int .i64 o.seq,strV o.key,strV o.val,strV o.old]] W λ r w'=>r=.returned (.tuple #[rp (doK s o).1.1 (doK s o).1.2.1 (doK s o).1.2.2,.int .i64 0])/\One K B0 bb (q+3) (i+1) (C+o.val.length) (doK s o).2 w'/\((doK s o).2=s->One K B0 bb (q+3) i C s w')/\Below B0 W w'/\Keeps (λ k=>¬ K k) W w':=by
 obtain ⟨F,h1,h2,h3,h4⟩:=h
 obtain ⟨D,n,l⟩:=s
 have hn:=h2.num
 simp only at hn h1
 refine (Sn.kvDo (o:=o) h1 (by omega) hg (by omega) h2.small (h2.room o hi hC)).mono ?_
 rintro e w' ⟨he,hS,hk⟩
 have hz:=hk.size
 refine ⟨he,⟨F,hS,h2.step o,h3,λ k hk=>⟨by have:=(h4 k hk).1;omega,(h4 k hk).2⟩⟩,λ hs=>⟨F,?_,h2,h3,λ k hk=>⟨by have:=(h4 k hk).1;omega,(h4 k hk).2⟩⟩,hk.base hB0 h3,hk.mono λ k _ e e2=>(h4 k e2).2 e⟩
 rw [hs] at hS
 exact hS
theorem One.rangeD (h:One K B0 bb q i C s W) (hi:i<=300) (hq:q<=15000) :
  Calls Tryz.prog 26 #[ptrV bb,strV dataK,strV [],strV [],.int .i64 0] W (RangePost W.heap.size s.1.2 W):=by
 obtain ⟨F,h1,h2,_⟩:=h
 have h3:=h1.rangeD (by omega) (by have:=h2.len;omega) [] [] 0
 rw [rangeP_all] at h3
 exact h3
end
def repCs (r:Rep):List Value:=[.int .i64 r.1,strV r.2.1,.int .i64 r.2.2]
theorem repCs_len (r:Rep):(repCs r).length=3:=rfl
structure OnceM (w:World) (g bb q i C:Nat) (X:Nat->Prop) (s:KSt) (m:List Pair) (first:List Rep) (a b:Int) (v8 v9:Value) (W:World):Prop where
 one:One (λ k=>v8.ownBlock=some k\/v9.ownBlock=some k\/k=g\/X k) w.heap.size bb q i C s W
 last:Blk W g 80 #[.int .i64 0,.int .i64 a,.int .i64 b]
 map:W.ownsRow w.heap.size 139 2 v8 m.length (pairsCs m)
 row:W.ownsRow w.heap.size 72 3 v9 first.length (first.flatMap repCs)
 apart:(∀ k,v8.ownBlock=some k->v9.ownBlock≠some k)/\v8.ownBlock≠some g/\v9.ownBlock≠some g
 bl:Below w.heap.size w W
section
variable {w:World} {g bb q i C:Nat} {X Y:Nat->Prop} {s:KSt} {m:List Pair} {first:List Rep} {a b:Int} {v8 v9:Value} {W W':World}
theorem OnceM.box (h:OnceM w g bb q i C X s m first a b v8 v9 W) (hb:Below W.heap.size W W'):OnceM w g bb q i C (λ k=>X k\/(W.heap.size<=k/\k<W'.heap.size)) s m first a b v8 v9 W':=
 ⟨(h.one.new hb).less λ _ hk=>by
  rcases hk with e | e | e | e | e
  ·exact .inl (.inl e)
  ·exact .inl (.inr (.inl e))
  ·exact .inl (.inr (.inr (.inl e)))
  ·exact .inl (.inr (.inr (.inr e)))
  ·exact .inr e,h.last.below' hb,own_below h.map hb,own_below h.row hb,h.apart,h.bl.trans (hb.mono h.bl.size)⟩
theorem OnceM.less (h:OnceM w g bb q i C X s m first a b v8 v9 W) (hX:∀ k,Y k->X k):OnceM w g bb q i C Y s m first a b v8 v9 W:=
 ⟨h.one.less λ k hk=>hk.imp id λ hk=>hk.imp id λ hk=>hk.imp id (hX k),h.last,h.map,h.row,h.apart,h.bl⟩
theorem OnceM.below (h:OnceM w g bb q i C X s m first a b v8 v9 W) (hb:Below W.heap.size W W'):OnceM w g bb q i C X s m first a b v8 v9 W':=(h.box hb).less λ _ e=>.inl e
theorem OnceM.to {q' i' C':Nat} (h:OnceM w g bb q i C X s m first a b v8 v9 W) (hq:q<=q') (hi:i<=i') (hC:C<=C'):OnceM w g bb q' i' C' X s m first a b v8 v9 W:=⟨h.one.to hq hi hC,h.last,h.map,h.row,h.apart,h.bl⟩
theorem OnceM.append (h:OnceM w g bb q i C X s m first a b v8 v9 W) {r:Rep} {v:Value} (ho:W'.ownsRow w.heap.size 72 3 v (first.length+1) (first.flatMap repCs++repCs r)) (hg:W.grownBy W' v9.ownBlock) (hat:∀ k,v.ownBlock=some k->v9.ownBlock=some k\/W.heap.size<=k) :
  OnceM w g bb q i C X s m (first++[r]) a b v8 v W'/\Keeps (λ k=>v9.ownBlock=some k) W W':=by
 have hk9:Keeps (λ k=>v9.ownBlock=some k) W W':=(Keeps.refl _ W).grown hg λ k e _=>e
 have hk:Keeps (λ k=>v8.ownBlock=some k\/v9.ownBlock=some k\/k=g\/X k) W W':=hk9.mono λ k _ e=>.inr (.inl e)
 have hz:=hk.size
 have hg2:=h.last.lt
 refine ⟨⟨(h.one.turn hk).less λ k e=>?_,h.last.keeps hk9 h.apart.2.2,own_keeps h.map hk9 λ k e e2=>h.apart.1 k e e2,by simpa using ho,⟨λ k e e2=>?_,h.apart.2.1,λ e=>?_⟩,h.bl.trans (hk9.below h.bl.size λ k hl e=>by have:=(h.row.lt k e).1;omega)⟩,hk9⟩
 ·rcases e with e | e | e
  ·exact .inl (.inl e)
  ·rcases hat k e with e2 | e2
   ·exact .inl (.inr (.inl e2))
   ·exact .inr ⟨e2,(ho.lt k e).2⟩
  ·exact .inl (.inr (.inr e))
 ·rcases hat k e2 with e3 | e3
  ·exact h.apart.1 k e e3
  ·have:=(h.map.lt k e).2;omega
 ·rcases hat g e with e3 | e3
  ·exact h.apart.2.2 e3
  ·omega
theorem OnceM.tree (h:OnceM w g bb q i C X s m first a b v8 v9 W) {m':List Pair} {v:Value} (hb:Below W.heap.size W W') (ho:W'.ownsRow w.heap.size 139 2 v m'.length (pairsCs m')) (hat:∀ k,v.ownBlock=some k->v8.ownBlock=some k\/W.heap.size<=k) :
  OnceM w g bb q i C X s m' first a b v v9 W':=by
 have hg2:=h.last.lt
 refine ⟨(h.one.new hb).less λ k e=>?_,h.last.below' hb,ho,own_below h.row hb,⟨λ k e e2=>?_,λ e=>?_,h.apart.2.2⟩,h.bl.trans (hb.mono h.bl.size)⟩
 ·rcases e with e | e
  ·rcases hat k e with e2 | e2
   ·exact .inl (.inl e2)
   ·exact .inr ⟨e2,(ho.lt k e).2⟩
  ·exact .inl (.inr e)
 ·rcases hat k e with e3 | e3
  ·exact h.apart.1 k e3 e2
  ·have:=(h.row.lt k e2).2;omega
 ·rcases hat g e with e3 | e3
  ·exact h.apart.2.1 e3
  ·omega
theorem OnceM.set (h:OnceM w g bb q i C X s m first a b v8 v9 W) {a' b':Int} {W':World} (hk:Keeps (λ k=>k=g) W W') (hl:Blk W' g 80 #[.int .i64 0,.int .i64 a',.int .i64 b']) (hB:w.heap.size<=g) :
  OnceM w g bb q i C X s m first a' b' v8 v9 W':=
 ⟨(h.one.turn (hk.mono λ k _ e=>.inr (.inr (.inl e)))).less λ _ e=>.inl e,hl,own_keeps h.map hk λ k e e2=>h.apart.2.1 (e2 ▸ e),own_keeps h.row hk λ k e e2=>h.apart.2.2 (e2 ▸ e),h.apart,h.bl.trans (hk.below h.bl.size λ k hl e=>by omega)⟩
theorem OnceM.do (h:OnceM w g bb q i C X s m first a b v8 v9 W) (o:KOp) (hg:GoodK o) (hi:i<=210) (hq:q<=15000) (hC:C+o.val.length<=61000) :
  Calls Tryz.prog 23 #[ptrV bb,.agg #[.int .i64 o.kind,.int .i64 o.ses,.int .i64 o.seq,strV o.key,strV o.val,strV o.old]] W λ r w'=>r=.returned (.tuple #[rp (doK s o).1.1 (doK s o).1.2.1 (doK s o).1.2.2,.int .i64 0])/\OnceM w g bb (q+3) (i+1) (C+o.val.length) X (doK s o).2 m first a b v8 v9 w'/\((doK s o).2=s->OnceM w g bb (q+3) i C X s m first a b v8 v9 w')/\Keeps (λ k=>¬ X k) W w':=by
 refine (h.one.do o hg hi hq hC h.bl.size).mono ?_
 rintro r w' ⟨hr,h1,h2,hb,hk⟩
 have hl:=h.last.keeps hk λ e=>e (.inr (.inr (.inl rfl)))
 have hm:=own_keeps h.map hk λ k e e2=>e2 (.inl e)
 have hw:=own_keeps h.row hk λ k e e2=>e2 (.inr (.inl e))
 exact ⟨hr,⟨h1,hl,hm,hw,h.apart,h.bl.trans hb⟩,λ e=>⟨h2 e,hl,hm,hw,h.apart,h.bl.trans hb⟩,hk.mono λ k _ e e2=>e (.inr (.inr (.inr e2)))⟩
end
theorem row_rep (w:World) (r:Rep) (T:TypeId) (B:Nat) (hB:B=w.heap.size):∀ j v,(repCs r)[j]? = some v->(w.alloc (.cells #[.int .i64 r.1,strV r.2.1,.int .i64 r.2.2] T)).cell? ((⟨B,0,none⟩:Addr).add j)=some v:=by
 intro j v h
 subst hB
 rw [addr_add]
 have hb:=Blk.new w T #[.int .i64 r.1,strV r.2.1,.int .i64 r.2.2]
 match j with
 | 0=>cases h;exact hb.cell 0
 | 1=>cases h;exact hb.cell 1
 | 2=>cases h;exact hb.cell 2
 | j+3=>simp [repCs] at h
theorem infoRep:(Tryz.prog.info? 72).map (λ i=>(i.zero,i.size,i.bytes))=some (some (.agg #[.int .i64 0,strV [],.int .i64 0]),3,32):=by kernel_rfl
def OnceAt (ops:List KOp) (w:World) (g bb q i:Nat) (s:KSt) (first:List Rep) (v8 v9:Value) (W:World):Prop:=
 ∃ x y,OnceK ops i s first x y/\OnceM w g bb q (i+2) (sizK (ops.take i)) (λ _=>False) s s.1.2 first x.seq y.seq v8 v9 W/\Rising s.1.2/\∀ q∈s.1.2,q.1.length<=100
theorem chg_rising {D:DB} {o:KOp} (h:Rising D.2/\∀ q∈D.2,q.1.length<=100) (hk:o.key.length<=100):Rising (chgK D o).2.2.2/\∀ q∈(chgK D o).2.2.2,q.1.length<=100:=by
 have hi:Rising (insP o.key o.val D.2)/\∀ q∈insP o.key o.val D.2,q.1.length<=100:=⟨insP_rising h.1,λ q hq=>by
  rcases insP_memR hq with rfl | hq
  ·exact hk
  ·exact h.2 q hq⟩
 unfold chgK
 split
 ·exact hi
 ·split
  ·exact h
  ·split
   ·exact ⟨delP_rising h.1,λ q hq=>h.2 q (delP_memR hq)⟩
   ·split
    ·exact h
    ·exact hi
end Go.Ev
