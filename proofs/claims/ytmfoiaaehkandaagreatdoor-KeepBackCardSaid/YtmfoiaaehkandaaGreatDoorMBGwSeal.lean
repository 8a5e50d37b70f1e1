/-
  Texts of this claim.
-/
import Derived.Test.YtmfoiaaehkandaaGreatDoorMBGvEach
import Derived.Test.YtmfoiaaehkandaaGreatDoorMBGwDevTo
import Derived.LoopIn
import Derived.LoopNIn
import Derived.OwnWalkIn
import Derived.Shelf.Abstract
import Derived.Shelf.RegionOpen
import Derived.TacticsInMore
set_option linter.unusedVariables false
set_option linter.unusedSimpArgs false
set_option maxHeartbeats 2000000
set_option maxRecDepth 100000
namespace Go.Ev
open Go.Proofs Go.RowKit
structure Pc where
 d:Nat
 f:Nat
 mb:Nat
 db:Nat
 wb:Nat
 sb:Nat
 sv:Value
 sy:Value
 nw:Value
def Pc.ids (p:Nat) (c:Pc):List Nat:=[p,c.d,c.f,c.sb,c.mb,c.db,c.wb]
def Pc.S (p:Nat) (c:Pc) (k:Nat):Prop:=k∈c.ids p\/c.sv.ownBlock=some k\/c.sy.ownBlock=some k\/c.nw.ownBlock=some k
abbrev ptrV (b:Nat):Value:=.pointer (some ⟨b,0,none⟩)
def pgCells (c:Pc) (n:Nat):Array Value:=#[ptrV c.d,ptrV c.f,.int .i64 2,.int .i64 n,.int .i64 1,.map (some c.mb),.map (some c.db),.map (some c.wb),ptrV c.sb]
structure PgAt (w:World) (p:Nat) (c:Pc) (most n L:Nat) (made was:List Ent) (mc wc dc:Nat) (spare:List Int):Prop where
 blk:Blk w p 212 (pgCells c n)
 fre:Blk w c.f 274 #[.slice none 0 0,.slice none 0 0,.map none]
 dev:DevAt w c.d most L c.sy c.nw
 mad:MapI w c.mb made mc
 dro:MapI w c.db [] dc
 wwas:MapI w c.wb was wc
 spr:Pl w c.sb c.sv spare
 nod:(c.ids p).Nodup
 rsv:∀ k,c.sv.ownBlock=some k->k ∉ c.ids p/\c.sy.ownBlock≠some k/\c.nw.ownBlock≠some k
 rsy:∀ k,c.sy.ownBlock=some k->k ∉ c.ids p
 rnw:∀ k,c.nw.ownBlock=some k->k ∉ c.ids p
 len:n<=L/\L<=most
 clk:Clk made mc
section
variable {w w':World} {p:Nat} {c:Pc} {most n L:Nat} {made was:List Ent} {mc wc dc:Nat} {spare:List Int}
theorem PgAt.lt (h:PgAt w p c most n L made was mc wc dc spare):∀ k,c.S p k->k<w.heap.size:=by
 rintro k (hk | hk | hk | hk)
 ·simp only [Pc.ids,List.mem_cons,List.not_mem_nil,or_false] at hk
  rcases hk with rfl | rfl | rfl | rfl | rfl | rfl | rfl
  ·exact h.blk.lt
  ·exact h.dev.blk.lt
  ·exact h.fre.lt
  ·exact h.spr.2.2.1
  ·exact h.mad.lt
  ·exact h.dro.lt
  ·exact h.wwas.lt
 ·exact (h.spr.2.2.2.1.lt k hk).2
 ·obtain ⟨cs,hr⟩:=h.dev.srow;exact (hr.lt k hk).2
 ·obtain ⟨cs,hr⟩:=h.dev.nrow;exact (hr.lt k hk).2
theorem Pl.keeps {S:Nat->Prop} {b:Nat} {v:Value} {xs:List Int} (h:Pl w b v xs) (hk:Keeps S w w') (hb:¬ S b) (hv:∀ k,v.ownBlock=some k->¬ S k):Pl w' b v xs:=by
 obtain ⟨h1,h2,h3,h4,h5⟩:=h
 exact ⟨(hk.cell (p:=⟨b,0,none⟩) h3 hb).trans h1,(hk.frozen (p:=⟨b,0,none⟩) h3 hb).trans h2,Nat.lt_of_lt_of_le h3 hk.size,own_keeps h4 hk hv,h5⟩
theorem PgAt.keeps {S:Nat->Prop} (h:PgAt w p c most n L made was mc wc dc spare) (hk:Keeps S w w') (hs:∀ k,c.S p k->¬ S k):PgAt w' p c most n L made was mc wc dc spare:=by
 have hi:∀ k,k∈c.ids p->¬ S k:=λ k hk=>hs k (.inl hk)
 have hm:∀ k,k∈[p,c.d,c.f,c.sb,c.mb,c.db,c.wb]->¬ S k:=hi
 refine ⟨h.blk.keeps hk (hm _ (by simp)),h.fre.keeps hk (hm _ (by simp)),h.dev.keeps hk ?_,h.mad.keeps hk (hm _ (by simp)),h.dro.keeps hk (hm _ (by simp)),h.wwas.keeps hk (hm _ (by simp)),h.spr.keeps hk (hm _ (by simp)) λ k e=>hs k (.inr (.inl e)),h.nod,h.rsv,h.rsy,h.rnw,h.len,h.clk⟩
 rintro k (rfl | e | e)
 ·exact hm _ (by simp)
 ·exact hs k (.inr (.inr (.inl e)))
 ·exact hs k (.inr (.inr (.inr e)))
theorem PgAt.below (h:PgAt w p c most n L made was mc wc dc spare) (hb:Below w.heap.size w w'):PgAt w' p c most n L made was mc wc dc spare:=h.keeps (S:=λ _=>False) (Keeps.of_below hb) λ _ _ h=>h
theorem PgAt.alloc (h:PgAt w p c most n L made was mc wc dc spare) (o:Obj):PgAt (w.alloc o) p c most n L made was mc wc dc spare:=h.below ((Below.refl _ _).alloc (Nat.le_refl _) o)
theorem PgAt.drew (h:PgAt w p c most n L made was mc wc dc spare):PgAt w.drew p c most n L made was mc wc dc spare:=h.below (Below.refl _ _).drew
theorem PgAt.ne (h:PgAt w p c most n L made was mc wc dc spare):p≠c.d/\p≠c.f/\p≠c.sb/\p≠c.mb/\p≠c.db/\p≠c.wb/\c.d≠c.f/\c.d≠c.sb/\c.d≠c.mb/\c.d≠c.db/\c.d≠c.wb/\c.f≠c.sb/\c.f≠c.mb/\c.f≠c.db/\c.f≠c.wb/\c.sb≠c.mb/\c.sb≠c.db/\c.sb≠c.wb/\c.mb≠c.db/\c.mb≠c.wb/\c.db≠c.wb:=by
 have:=h.nod
 simp only [Pc.ids,List.nodup_cons,List.mem_cons,List.not_mem_nil,or_false,not_or,List.nodup_nil,not_false_eq_true,and_true] at this
 obtain ⟨⟨a1,a2,a3,a4,a5,a6⟩,⟨b1,b2,b3,b4,b5⟩,⟨c1,c2,c3,c4⟩,⟨d1,d2,d3⟩,⟨e1,e2⟩,f1⟩:=this
 exact ⟨a1,a2,a3,a4,a5,a6,b1,b2,b3,b4,b5,c1,c2,c3,c4,d1,d2,d3,e1,e2,f1⟩
theorem PgAt.turnM (h:PgAt w p c most n L made was mc wc dc spare) (l':List Ent) (k':Nat) (hc:Clk l' k'):PgAt (turn w c.mb l' k') p c most n L l' was k' wc dc spare:=by
 have hk:=turn_keeps (S:=λ k=>k=c.mb) (Keeps.refl _ w) (λ _=>rfl) l' k'
 obtain ⟨a1,a2,a3,a4,a5,a6,b1,b2,b3,b4,b5,c1,c2,c3,c4,d1,d2,d3,e1,e2,f1⟩:=h.ne
 refine ⟨h.blk.keeps hk a4,h.fre.keeps hk c2,h.dev.keeps hk ?_,h.mad.turned l' k',h.dro.keeps hk (λ e=>e1 e.symm),h.wwas.keeps hk (λ e=>e2 e.symm),h.spr.keeps hk d1 λ k e he=>(h.rsv k e).1 (he ▸ by simp [Pc.ids]),h.nod,h.rsv,h.rsy,h.rnw,h.len,hc⟩
 rintro k (rfl | e | e)
 ·exact b3
 ·exact λ he=>h.rsy k e (he ▸ by simp [Pc.ids])
 ·exact λ he=>h.rnw k e (he ▸ by simp [Pc.ids])
theorem PgAt.turnW (h:PgAt w p c most n L made was mc wc dc spare) (l':List Ent) (k':Nat):PgAt (turn w c.wb l' k') p c most n L made l' mc k' dc spare:=by
 have hk:=turn_keeps (S:=λ k=>k=c.wb) (Keeps.refl _ w) (λ _=>rfl) l' k'
 obtain ⟨a1,a2,a3,a4,a5,a6,b1,b2,b3,b4,b5,c1,c2,c3,c4,d1,d2,d3,e1,e2,f1⟩:=h.ne
 refine ⟨h.blk.keeps hk a6,h.fre.keeps hk c4,h.dev.keeps hk ?_,h.mad.keeps hk e2,h.dro.keeps hk f1,h.wwas.turned l' k',h.spr.keeps hk d3 λ k e he=>(h.rsv k e).1 (he ▸ by simp [Pc.ids]),h.nod,h.rsv,h.rsy,h.rnw,h.len,h.clk⟩
 rintro k (rfl | e | e)
 ·exact b5
 ·exact λ he=>h.rsy k e (he ▸ by simp [Pc.ids])
 ·exact λ he=>h.rnw k e (he ▸ by simp [Pc.ids])
theorem PgAt.pile (h:PgAt w p c most n L made was mc wc dc spare) {v':Value} {ys:List Int} (hp:Pl w' c.sb v' ys) (hk:PlK c.sb c.sv v' w w'):PgAt w' p { c with sv:=v' } most n L made was mc wc dc ys:=by
 obtain ⟨a1,a2,a3,a4,a5,a6,b1,b2,b3,b4,b5,c1,c2,c3,c4,d1,d2,d3,e1,e2,f1⟩:=h.ne
 have hno:∀ k,k∈c.ids p->k≠c.sb->¬ PlS c.sb c.sv k:=by
  rintro k hm hn (e | e)
  ·exact hn e
  ·exact (h.rsv k e).1 hm
 have hm:∀ k,k∈[p,c.d,c.f,c.sb,c.mb,c.db,c.wb]->k≠c.sb->¬ PlS c.sb c.sv k:=hno
 have hlt:=h.lt
 refine ⟨h.blk.keeps hk.1 (hm _ (by simp) a3),h.fre.keeps hk.1 (hm _ (by simp) c1),h.dev.keeps hk.1 ?_,h.mad.keeps hk.1 (hm _ (by simp) (λ e=>d1 e.symm)),h.dro.keeps hk.1 (hm _ (by simp) (λ e=>d2 e.symm)),h.wwas.keeps hk.1 (hm _ (by simp) (λ e=>d3 e.symm)),hp,h.nod,?_,h.rsy,h.rnw,h.len,h.clk⟩
 ·rintro k (rfl | e | e)
  ·exact hm _ (by simp) b2
  ·rintro (e' | e')
   ·exact h.rsy k e (e' ▸ by simp [Pc.ids])
   ·exact (h.rsv k e').2.1 e
  ·rintro (e' | e')
   ·exact h.rnw k e (e' ▸ by simp [Pc.ids])
   ·exact (h.rsv k e').2.2 e
 ·intro k e
  rcases hk.2 k e with e' | e'
  ·exact h.rsv k e'
  ·refine ⟨λ hm=>?_,λ hm=>?_,λ hm=>?_⟩
   ·have:=hlt k (.inl hm);omega
   ·have:=hlt k (.inr (.inr (.inl hm)));omega
   ·have:=hlt k (.inr (.inr (.inr hm)));omega
theorem PgAt.grown (h:PgAt w p c most n L made was mc wc dc spare) {sy' nw':Value} {L':Nat} (hd:DevAt w' c.d most L' sy' nw') (hk:GrowK c.d c.sy c.nw sy' nw' w w') (hl:L<=L'/\L'<=most):PgAt w' p { c with sy:=sy',nw:=nw' } most n L' made was mc wc dc spare:=by
 obtain ⟨a1,a2,a3,a4,a5,a6,b1,b2,b3,b4,b5,c1,c2,c3,c4,d1,d2,d3,e1,e2,f1⟩:=h.ne
 have hm:∀ k,k∈[p,c.d,c.f,c.sb,c.mb,c.db,c.wb]->k≠c.d->¬ DevS c.d c.sy c.nw k:=by
  rintro k hm hn (e | e | e)
  ·exact hn e
  ·exact h.rsy k e hm
  ·exact h.rnw k e hm
 have hlt:=h.lt
 refine ⟨h.blk.keeps hk.keeps (hm _ (by simp) a1),h.fre.keeps hk.keeps (hm _ (by simp) (λ e=>b1 e.symm)),hd,h.mad.keeps hk.keeps (hm _ (by simp) (λ e=>b3 e.symm)),h.dro.keeps hk.keeps (hm _ (by simp) (λ e=>b4 e.symm)),h.wwas.keeps hk.keeps (hm _ (by simp) (λ e=>b5 e.symm)),h.spr.keeps hk.keeps (hm _ (by simp) (λ e=>b2 e.symm)) ?_,h.nod,?_,?_,?_,⟨Nat.le_trans h.len.1 hl.1,hl.2⟩,h.clk⟩
 ·rintro k e (e' | e' | e')
  ·exact (h.rsv k e).1 (e' ▸ by simp [Pc.ids])
  ·exact (h.rsv k e).2.1 e'
  ·exact (h.rsv k e).2.2 e'
 ·intro k e
  have hkl:=hlt k (.inr (.inl e))
  refine ⟨(h.rsv k e).1,λ e'=>?_,λ e'=>?_⟩
  ·rcases hk.sy k e' with h1 | h1
   ·exact (h.rsv k e).2.1 h1
   ·omega
  ·rcases hk.nw k e' with h1 | h1
   ·exact (h.rsv k e).2.2 h1
   ·omega
 ·intro k e hm'
  rcases hk.sy k e with h1 | h1
  ·exact h.rsy k h1 hm'
  ·have:=hlt k (.inl hm');omega
 ·intro k e hm'
  rcases hk.nw k e with h1 | h1
  ·exact h.rnw k h1 hm'
  ·have:=hlt k (.inl hm');omega
theorem PgAt.more (h:PgAt w p c most n L made was mc wc dc spare) (hl:n+1<=L):PgAt (w.setCell ⟨p,3,none⟩ (.int .i64 ((n+1:Nat):Int))) p c most (n+1) L made was mc wc dc spare:=by
 have hk:=(Keeps.refl (λ k=>k=p) w).setCell (p:=⟨p,3,none⟩) (λ _=>rfl) (.int .i64 ((n+1:Nat):Int))
 obtain ⟨a1,a2,a3,a4,a5,a6,b1,b2,b3,b4,b5,c1,c2,c3,c4,d1,d2,d3,e1,e2,f1⟩:=h.ne
 refine ⟨h.blk.set 3 _,h.fre.keeps hk (λ e=>a2 e.symm),h.dev.keeps hk ?_,h.mad.keeps hk (λ e=>a4 e.symm),h.dro.keeps hk (λ e=>a5 e.symm),h.wwas.keeps hk (λ e=>a6 e.symm),h.spr.keeps hk (λ e=>a3 e.symm) λ k e he=>(h.rsv k e).1 (he ▸ by simp [Pc.ids]),h.nod,h.rsv,h.rsy,h.rnw,⟨hl,h.len.2⟩,h.clk⟩
 rintro k (rfl | e | e)
 ·exact λ e=>a1 e.symm
 ·exact λ he=>h.rsy k e (he ▸ by simp [Pc.ids])
 ·exact λ he=>h.rnw k e (he ▸ by simp [Pc.ids])
end
def pgZ:Value:=.agg #[.int .i64 0,.int .i64 0,.string ⟨#[]⟩]
theorem zero_pg (W:World):(zeroValue 215).run Tryz.prog W=.ok pgZ W:=by kernel_rfl
theorem pgNone_any (p d:Nat) (w:World) (h:w.cell? ⟨p,0,none⟩=some (ptrV d)) :
  Calls Tryz.prog 178 #[ptrV p] w λ e w'=>e=.returned (.bool false)/\w=w':=by
 go_enter Tryz.func178,Tryz.ntmps178
 go_wp2
 go_ret
 exact ⟨rfl,rfl⟩
section
variable {p:Nat} {c:Pc} {most n L:Nat} {made was:List Ent} {mc wc dc:Nat} {spare:List Int} {M:Store}
theorem look_made {w:World} (h:MapI w c.mb made mc) (hM:Pages made M) (id:Int) :
  (Instr.lookup 208 (.map (some c.mb)) (.int .i64 id) true).run Tryz.prog w=.ok (.tuple #[((M id).map pgV).getD pgZ,.bool (M id).isSome]) w:=by
 rw [run_lookup_I h Tryz.underlying208 Tryz.underlying3 zero_pg id,hM id]
 simp
theorem own_any (id:Int) (w:World) (h:PgAt w p c most n L made was mc wc dc spare) (hM:Pages made M) :
  Calls Tryz.prog 189 #[ptrV p,.int .i64 id] w λ e w'=>e=.returned (.bool (M id).isSome)/\Below w.heap.size w w':=by
 have g0:w.cell? ⟨p,0,none⟩=some (ptrV c.d):=h.blk.cell 0
 have g5:w.cell? ⟨p,5,none⟩=some (.map (some c.mb)):=h.blk.cell 5
 have hl:=look_made h.mad hM id
 cases hq:M id with
 | none =>
  rw [hq] at hl
  simp only [Option.map_none,Option.getD_none,Option.isSome_none,pgZ] at hl
  clear h hM hq
  go_enter Tryz.func189,Tryz.ntmps189
  go_wp2_with (fail)
  go_must (refine (pgNone_any _ _ _ g0).mono ?_)
  rintro e w1 ⟨rfl,rfl⟩
  go_wp2_with (fail)
  go_ret
  exact ⟨rfl,(Below.refl _ _).alloc (Nat.le_refl _) _⟩
 | some x =>
  rw [hq] at hl
  simp only [Option.map_some,Option.getD_some,Option.isSome_some,pgV,strB] at hl
  clear h hM hq
  go_enter Tryz.func189,Tryz.ntmps189
  go_wp2_with (fail)
  go_must (refine (pgNone_any _ _ _ g0).mono ?_)
  rintro e w1 ⟨rfl,rfl⟩
  go_wp2_with (fail)
  go_ret
  exact ⟨rfl,(Below.refl _ _).alloc (Nat.le_refl _) _⟩
end
open Go.Shelf
attribute [local go_sem] Oper.semAt_some
theorem insSort_nil (w:World):Calls Tryz.prog 247 #[.slice none 0 0,.int .i64 0,.int .i64 0] w λ e w'=>e=.returned (.tuple #[])/\w=w':=by
 go_enter Tryz.func247,Tryz.ntmps247
 go_wp2_with (fail)
 go_loopg [6] 0 (λ gk s6 wr=>s6=.int .i64 1/\wr=w)
 case atStart=>exact ⟨rfl,rfl⟩
 case round =>
  obtain ⟨rfl,rfl⟩:=hrel
  go_wp2_with (fail)
  refine bodyPost_end (results_none rfl _ _ _) rfl ?_
  exact ⟨rfl,rfl⟩
theorem bitsLen_zero (w:World):Calls Tryz.prog 214 #[.int .u64 0] w λ e w'=>(∃ r,e=.returned (.int .i64 r))/\w=w':=by
 have hL:Calls Tryz.prog 257 #[.int .u64 0] w λ e w'=>(∃ r,e=.returned (.int .i64 r))/\w=w':=by
  go_enter Tryz.func257,Tryz.ntmps257
  go_wp2
  go_ret
  exact ⟨⟨_,rfl⟩,rfl⟩
 go_enter Tryz.func214,Tryz.ntmps214
 go_wp2_with (fail)
 go_must (refine hL.mono ?_)
 rintro e w1 ⟨⟨r,rfl⟩,rfl⟩
 go_wp2
 go_ret
 exact ⟨⟨_,rfl⟩,rfl⟩
theorem pdq_nil (r:Int) (w:World):Calls Tryz.prog 213 #[.slice none 0 0,.int .i64 0,.int .i64 0,.int .i64 r] w λ e w'=>e=.returned (.tuple #[])/\w=w':=by
 go_enter Tryz.func213,Tryz.ntmps213
 go_wp2_with (fail)
 go_loopg [1,2] 0 (λ gk s1 s2 wr=>s1=.int .i64 0/\s2=.int .i64 0/\wr=w)
 case atStart=>exact ⟨rfl,rfl,rfl⟩
 case round =>
  obtain ⟨rfl,rfl,rfl⟩:=hrel
  go_wp2_with (fail)
  go_must (refine (insSort_nil _).mono ?_)
  rintro e w1 ⟨rfl,rfl⟩
  go_wp2_with (fail)
  refine bodyPost_ret (results_none rfl _ _ _) rfl ?_
  exact ⟨rfl,rfl⟩
theorem sort_nil (w:World):Calls Tryz.prog 176 #[.slice none 0 0] w λ e w'=>e=.returned (.tuple #[])/\Below w.heap.size w w':=by
 go_enter Tryz.func176,Tryz.ntmps176
 go_wp2_with (fail)
 go_must (refine (bitsLen_zero _).mono ?_)
 rintro e w1 ⟨⟨r,rfl⟩,rfl⟩
 go_wp2_with (fail)
 go_must (refine (pdq_nil r _).mono ?_)
 rintro e w1 ⟨rfl,rfl⟩
 go_wp2_with (fail)
 refine bodyPost_end (results_none rfl _ _ _) rfl ?_
 exact ⟨rfl,Below.refl _ _⟩
theorem refSorted_nil (w:World):Calls Tryz.prog 125 #[.slice none 0 0] w λ e w'=>e=.returned (.slice none 0 0)/\Below w.heap.size w w':=by
 go_enter Tryz.func125,Tryz.ntmps125
 go_wp2_with (fail)
 go_loopg [3,4] 0 (λ gk s3 s4 wr=>s3=.slice none 0 0/\s4=.int .i64 0/\wr=w)
 case atStart=>exact ⟨rfl,rfl,rfl⟩
 case round =>
  obtain ⟨rfl,rfl,rfl⟩:=hrel
  go_wp2_with (fail)
  go_ret
  exact ⟨rfl,Below.refl _ _⟩
theorem valuesNil_each (F:Fence) (n:Nat) (hf:F.fn 246) (hro:F.round=none) (g:Nat) (w:World) (hg:w.cell? ⟨g,0,none⟩=some (.slice none 0 0)) (hgl:g<w.heap.size) :
  Each F n Tryz.prog 246 #[.pointer (some ⟨g,0,none⟩)] (λ x:Fin 0=>#[.int .i64 (x.1:Int)]) (λ _ _=>True) [] w:=λ l J W hW hY h0=>by
 have hB:W.cell? ⟨g,0,none⟩=some (.slice none 0 0):=(hW.cell (p:=⟨g,0,none⟩) hgl).trans hg
 refine callsIn_of_wp Tryz.func246 rfl hf ?_ hro
 simp only [Tryz.ntmps246,List.size_toArray,List.length_cons,List.length_nil,Nat.reduceAdd,Nat.reduceSub,Array.replicate_succ,Array.replicate_zero,List.push_toArray,List.append_toArray,List.nil_append,List.cons_append]
 clear hY
 gi_wp2
 gi_loopw [7] (λ i wr=>i=.int .i64 0/\J 0 wr) (λ _ _=>0)
 case atStart=>exact ⟨rfl,h0⟩
 case round =>
  obtain ⟨rfl,hJs⟩:=hrel
  gi_wp2
  go_end0
  exact ⟨⟨_,rfl⟩,hJs⟩
theorem appendSeq_nil {w:World} {g:Nat} (h:w.cell? ⟨g,0,none⟩=some (.slice none 0 0)) (hgl:g<w.heap.size) :
  Calls Tryz.prog 274 #[.slice none 0 0,.func (.func 246) #[] #[.pointer (some ⟨g,0,none⟩)]] w λ e w'=>e=.returned (.slice none 0 0)/\Below w.heap.size w w':=by
 refine (callsIn_wide (n:=9)).1 (callsIn_of_wp_marks Tryz.func274 rfl trivial (wpIn_wide.2 ?_) rfl)
 simp only [Tryz.ntmps274,List.size_toArray,List.length_cons,List.length_nil,Nat.reduceAdd,Nat.reduceSub,Array.replicate_succ,Array.replicate_zero,List.push_toArray,List.append_toArray,List.nil_append,List.cons_append]
 go_wp2_with (fail)
 obtain ⟨W0,hW0⟩:=nmz (w.alloc (.cells #[.slice none 0 0] 35))
 have hB0:Below w.heap.size w W0:=by rw [<- hW0];exact (Below.refl _ _).alloc (Nat.le_refl _) _
 have hsz:W0.heap.size=w.heap.size+1:=by rw [<- hW0];simp
 have hbs:Blk W0 w.heap.size 35 #[.slice none 0 0]:=by rw [<- hW0];exact Blk.new _ _ _
 rw [hW0]
 clear hW0
 refine (wpIn_wide (n:=9)).1 ?_
 refine rangeFunc_each rfl (by decide) rfl trivial (enters_of Tryz.func246 (by kernel_rfl) rfl)
  (valuesNil_each Fence.wide 8 trivial rfl g W0 ((hB0.cell (p:=⟨g,0,none⟩) hgl).trans h) (by omega)) (λ _ _=>trivial) (λ _ _ _ _ _ _ _ _=>trivial) (λ _=>rfl) (λ _ W=>Blk W w.heap.size 35 #[.slice none 0 0]/\Below w.heap.size w W) ?hI ⟨hbs,hB0⟩ (λ _ _ _=>True) ?hAx ?assign ?body ?done
 case hI =>
  rintro k W W' row ⟨h1,h2⟩ hg' hr
  refine ⟨h1.keeps (S:=λ k=>row=some k) ((Keeps.refl (λ k=>row=some k) W).grown hg' (λ _ e _=>e)) (λ e=>?_),(Keeps.of_below (S:=λ k=>row=some k) h2 |>.grown hg' (λ _ e _=>e)).below (Nat.le_refl _) λ i hi e=>by have:=(hr i e).1;omega⟩
  have:=(hr _ e).1
  omega
 case hAx =>
  rintro x a' _ W W' row h1 hg' hr
  trivial
 case assign =>
  rintro l k x
  exact absurd x.2 (Nat.not_lt_zero _)
 case body =>
  rintro l k x
  exact absurd x.2 (Nat.not_lt_zero _)
 case done =>
  rintro D W hD ⟨hb,hbw⟩ hWD
  have c0:W.cell? ⟨w.heap.size,0,none⟩=some (.slice none 0 0):=hb.cell 0
  have HBW:=Hdz hbw
  have HD:=Hdz hD
  clear hb hbw
  go_wp2_with (fail)
  refine ⟨by simp,.inl ⟨_,_,rfl,run_takeDeferred hWD,?_⟩⟩
  refine ⟨.slice none 0 0,?_,rfl,?_⟩
  ·simp [results,Tryz.results274,go_sem]
  ·exact (Keeps.of_below (S:=λ k=>k=D) HBW.out |>.grown (grownBy_putObj' W D (.deferred none)) (λ r e _=>by cases e;rfl)).below (Nat.le_refl _) λ i hi e=>by have:=HD.out;omega
theorem sorted_nil {w:World} {g:Nat} (h:Blk w g 268 #[.slice none 0 0]) :
  Calls Tryz.prog 211 #[.func (.func 246) #[] #[.pointer (some ⟨g,0,none⟩)]] w λ e w'=>e=.returned (.slice none 0 0)/\Keeps (λ k=>k=g) w w':=by
 have hC:Calls Tryz.prog 245 #[.func (.func 246) #[] #[.pointer (some ⟨g,0,none⟩)]] w λ e w'=>e=.returned (.slice none 0 0)/\Below w.heap.size w w':=by
  have hA:=Hdz (appendSeq_nil (h.cell 0) h.lt)
  clear h
  go_enter Tryz.func245,Tryz.ntmps245
  go_wp2_with (fail)
  go_must (refine hA.out.mono ?_)
  rintro e w1 ⟨rfl,hb1⟩
  go_wp2_with (fail)
  go_ret
  exact ⟨rfl,hb1⟩
 have HC:=Hdz hC
 clear h hC
 go_enter Tryz.func211,Tryz.ntmps211
 go_wp2_with (fail)
 go_must (refine HC.out.mono ?_)
 rintro e w1 ⟨rfl,hb1⟩
 go_wp2_with (fail)
 go_must (refine (sort_nil _).mono ?_)
 rintro e w2 ⟨rfl,hb2⟩
 go_wp2_with (fail)
 go_ret
 exact ⟨rfl,Keeps.of_below (hb1.trans (hb2.mono hb1.size))⟩
def refDev (most:Nat):Array Value:=#[.int .i64 most,.bool true,.slice none 0 0,.slice none 0 0,.int .i64 (-1)]
theorem refOp_any {m:Nat} (g:Nat) (w:World) (h:Blk w g 265 (refDev m)):Calls Tryz.prog 171 #[.pointer (some ⟨g,0,none⟩)] w λ e w'=>e=.returned (.tuple #[.bool true,.bool true])/\w=w':=by
 have c1:w.cell? ⟨g,1,none⟩=some (.bool true):=h.cell 1
 have c4:w.cell? ⟨g,4,none⟩=some (.int .i64 (-1)):=h.cell 4
 clear h
 go_enter Tryz.func171,Tryz.ntmps171
 go_wp2
 go_ret2
 exact ⟨rfl,rfl⟩
theorem refGrow_any {m:Nat} (hm:4<=m/\m<=3000) {w:World} {g:Nat} (h:Blk w g 265 (refDev m)) :
  Calls Tryz.prog 123 #[.pointer (some ⟨g,0,none⟩),.int .i64 2] w λ e w'=>e=.returned (.int .i64 0)/\Keeps (λ k=>k=g) w w':=by
 obtain ⟨i0,hi,hz0,hz1,hz2⟩:=info_parts infoStr
 have hMk:∀ W:World,(Instr.makeSlice 159 (.int .i64 256) (.int .i64 256)).run Tryz.prog W=.ok (.slice (some ⟨W.heap.size,0,none⟩) 256 256) (W.alloc (.cells (fixArr 0 256 0) 5)):=by
  intro W
  obtain ⟨j0,hj,y0,y1,y2⟩:=info_parts (show (Tryz.prog.info? 5).map (λ i=>(i.zero,i.size,i.bytes))=some (some (.int .u8 0),1,1) by kernel_rfl)
  obtain ⟨n,hn⟩:∃ n:Nat,n=256:=⟨_,rfl⟩
  have hmk:=run_makeSlice (P:=Tryz.prog) W 159 5 j0 (.int .u8 0) Tryz.underlying159 hj y0 .i64 .i64 (n:Int) n (by omega) (by omega) (by rw [y1];omega) (by rw [y2];omega) (by omega)
  rw [y1] at hmk
  simp only [Int.toNat_natCast] at hmk
  rw [show Value.cells (.int .u8 0)=#[.int .u8 0] from rfl,made_fix 0 n] at hmk
  subst hn
  exact hmk
 have hCv:∀ W:World,∃ t:ByteArray,t.size=256/\(convert 159 9 (.slice (some ⟨W.heap.size,0,none⟩) 256 256)).run Tryz.prog (W.alloc (.cells (fixArr 0 256 0) 5))=.ok (.string t) (W.alloc (.cells (fixArr 0 256 0) 5)):=λ W =>
  bytes_fix (W.alloc (.cells (fixArr 0 256 0) 5)) W.heap.size 0 256 256 (λ k hk=>by
   rw [World.cell?_alloc_at _ _ W.heap.size _ rfl,Nat.zero_add]
   exact ⟨_,fix_cell 0 256 0 k hk⟩)
 have c0:w.cell? ⟨g,0,none⟩=some (.int .i64 (m:Int)):=h.cell 0
 have hm2:¬ (m:Int)<2:=by omega
 have c2:w.cell? ⟨g,2,none⟩=some (.slice none 0 0):=h.cell 2
 have HOp:=Hdz (refOp_any g w h)
 have HB:=Hdz h
 have hgl:=h.lt
 have HCv:=Hdz hCv
 clear h hCv
 go_enter Tryz.func123,Tryz.ntmps123
 go_wp2_with (fail)
 go_must (refine HOp.out.mono ?_)
 rintro e w1 ⟨rfl,rfl⟩
 go_wp2_with (fail)
 go_loopg [7] 2 (λ gk s7 wr=>∃ (k:Nat) (cs:List Value),k+gk=2/\wr.ownsRow w.heap.size 9 1 s7 k cs/\Below w.heap.size w wr)
 case atStart=>exact ⟨0,[],rfl,World.ownsRow_nil _ _ _ _,Below.refl _ _⟩
 case round =>
  obtain ⟨k,cs,hk,hown,hbw⟩:=hrel
  obtain ⟨A,c,rfl,_⟩:=Sl.of_own hown
  have hzz:=hbw.size
  by_cases h2:k<2
  ·have h2':(k:Int)<2:=by omega
   obtain ⟨t,ht,htc⟩:=HCv.out wr
   have ht1:Value.oneCell' (.string t)=true:=rfl
   go_wp2_with (at_builtin;go_must (refine wpList_append_at rfl _ _ 40 rfl w.heap.size 9 i0 _ 1 16 Tryz.underlying40 hi hz0 hz1 hz2 rfl (by decide) _ k cs rfl ((hown.alloc _).alloc _) ⟨wr.heap.size+1,0,none⟩ 1 1 [.string t] rfl rfl (row_newS _ _ _ _ (by simp)) (by simp [Value.oneCell']) (by unfold maxLen;omega) (by omega) (by simp;omega) ?_))
   intro v' w3 own3 hg3 _
   have hb3:Below w.heap.size w w3:=((hbw.alloc hzz _).alloc (by simp;omega) _).grown hg3 (by simp;omega) (λ k hk=>(hown.lt k hk).1)
   go_wp2_with (fail)
   go_roundg (gk-1)
   case measure=>omega
   case rel=>exact ⟨k+1,_,by omega,own3,hb3⟩
  ·have h2':¬ (k:Int)<2:=by omega
   have b1:=HB.out.below' hbw
   have d2:wr.cell? ⟨g,2,none⟩=some (.slice none 0 0):=b1.cell 2
   have f2:=b1.frozen 2
   have HBW:=Hdz hbw
   clear b1 hbw hown
   go_wp2_with (fail)
   go_ret
   exact ⟨rfl,(Keeps.of_below (S:=λ k=>k=g) HBW.out).setCell (p:=⟨g,2,none⟩) (λ _=>rfl) _⟩
end Go.Ev
namespace Go.Ev
open Go.Proofs Go.RowKit
theorem freeList_any (f:Nat) (w:World) (h:Blk w f 274 #[.slice none 0 0,.slice none 0 0,.map none]) :
  Calls Tryz.prog 222 #[ptrV f] w λ e w'=>e=.returned (.slice none 0 0)/\Below w.heap.size w w':=by
 have g0:w.cell? ⟨f,0,none⟩=some (.slice none 0 0):=h.cell 0
 have hP:Calls Tryz.prog 175 #[ptrV f] w λ e w'=>e=.returned (.slice none 0 0)/\Below w.heap.size w w':=by
  clear h
  go_enter Tryz.func175,Tryz.ntmps175
  have hV:Calls Tryz.prog 212 #[.slice none 0 0] w λ e w'=>e=.returned (.func (.func 246) #[] #[.pointer (some ⟨w.heap.size,0,none⟩)])/\w.alloc (.cells #[.slice none 0 0] 268)=w':=by
   go_enter Tryz.func212,Tryz.ntmps212
   go_wp2
   go_ret
   exact ⟨rfl,rfl⟩
  go_wp2_with (fail)
  go_must (refine hV.mono ?_)
  rintro e w1 ⟨rfl,rfl⟩
  go_wp2_with (fail)
  go_must (refine (sorted_nil (Blk.new _ _ _)).mono ?_)
  rintro e w2 ⟨rfl,hk⟩
  go_wp2_with (fail)
  go_ret
  refine ⟨rfl,((Below.refl _ w).alloc (Nat.le_refl _) _).trans (hk.below (by simp) λ i hi e=>by omega)⟩
 clear g0
 go_enter Tryz.func222,Tryz.ntmps222
 go_wp2_with (fail)
 go_must (refine hP.mono ?_)
 rintro e w1 ⟨rfl,hb⟩
 go_wp2_with (fail)
 go_ret
 exact ⟨rfl,hb⟩
theorem pileTake_nil (b:Nat) (v:Value) (w:World) (h:Pl w b v []) :
  Calls Tryz.prog 223 #[.pointer (some ⟨b,0,none⟩)] w λ e w'=>e=.returned (.tuple #[.int .i64 0,.bool false])/\w=w':=by
 have hL:=Hdz (pileLen_any b _ [] w h (by simp))
 go_enter Tryz.func223,Tryz.ntmps223
 go_wp2_with (fail)
 go_must (refine hL.out.mono ?_)
 rintro e w1 ⟨rfl,rfl⟩
 go_wp2_with (fail)
 go_ret2
 exact ⟨rfl,rfl⟩
theorem freeTake_any (f:Nat) (w:World) (h:Blk w f 274 #[.slice none 0 0,.slice none 0 0,.map none]) :
  Calls Tryz.prog 224 #[ptrV f] w λ e w'=>e=.returned (.tuple #[.int .i64 0,.bool false])/\w=w':=by
 have hp:Pl w f (.slice none 0 0) []:=⟨h.cell 0,h.frozen 0,h.lt,World.ownsRow_nil _ _ _ _,by simp [Value.ownBlock]⟩
 go_enter Tryz.func224,Tryz.ntmps224
 go_wp2_with (go_at_call 223;go_must (refine (pileTake_nil _ _ _ hp).mono ?_);rintro e w1 ⟨rfl,rfl⟩)
 go_ret2
 exact ⟨rfl,rfl⟩
theorem DevAt.drew {w:World} {d most L:Nat} {sy nw:Value} (h:DevAt w d most L sy nw):DevAt w.drew d most L sy nw:=h.keeps (S:=λ _=>False) (Keeps.refl _ w).drew λ _ _ h=>h
section
variable {p:Nat} {c:Pc} {most n L:Nat} {made was:List Ent} {mc wc dc:Nat} {spare:List Int} {M:Store}
def nextI (n:Nat):List Int->Int
 | []=>n
 | x :: _=>x
theorem next_any (w:World) (h:PgAt w p c most n L made was mc wc dc spare) (hs:spare.length<=800000) :
  Calls Tryz.prog 180 #[ptrV p] w λ e w'=>e=.returned (.int .i64 (nextI n spare))/\Below w.heap.size w w':=by
 have g1:w.cell? ⟨p,1,none⟩=some (ptrV c.f):=h.blk.cell 1
 have g3:w.cell? ⟨p,3,none⟩=some (.int .i64 n):=h.blk.cell 3
 have g8:w.cell? ⟨p,8,none⟩=some (ptrV c.sb):=h.blk.cell 8
 have hbl:=h.blk.lt
 have hF:=Hdz (pileFirst_any c.sb c.sv spare w h.spr hs)
 have hFr:=Hdz (freeList_any c.f w h.fre)
 clear h
 cases spare with
 | nil =>
  go_enter Tryz.func180,Tryz.ntmps180
  go_wp2_with (fail)
  go_must (refine hF.out.mono ?_)
  rintro e w1 ⟨rfl,rfl⟩
  unfold firstV
  go_wp2_with (fail)
  go_must (refine hFr.out.mono ?_)
  rintro e w2 ⟨rfl,hb2⟩
  have g3':w2.cell? ⟨p,3,none⟩=some (.int .i64 n):=(hb2.cell (p:=⟨p,3,none⟩) hbl).trans g3
  go_wp2_with (fail)
  go_ret
  exact ⟨rfl,hb2⟩
 | cons x r =>
  go_enter Tryz.func180,Tryz.ntmps180
  go_wp2_with (fail)
  go_must (refine hF.out.mono ?_)
  rintro e w1 ⟨rfl,rfl⟩
  unfold firstV
  go_wp2_with (fail)
  go_ret
  exact ⟨rfl,Below.refl _ _⟩
structure PgK (p:Nat) (c c':Pc) (w w':World):Prop where
 keeps:Keeps (c.S p) w w'
 sub:∀ k,c'.S p k->c.S p k\/w.heap.size<=k
 mb:c'.mb=c.mb
 db:c'.db=c.db
 wb:c'.wb=c.wb
theorem PgK.refl (p:Nat) (c:Pc) (w:World):PgK p c c w w:=⟨Keeps.refl _ _,λ _ h=>.inl h,rfl,rfl,rfl⟩
theorem PgK.trans {c c1 c2:Pc} {w w1 w2:World} (h:PgK p c c1 w w1) (k:PgK p c1 c2 w1 w2):PgK p c c2 w w2:=by
 have hz:=h.keeps.size
 refine ⟨h.keeps.trans k.keeps λ i hi hs=>?_,λ i hs=>?_,k.mb.trans h.mb,k.db.trans h.db,k.wb.trans h.wb⟩
 ·rcases h.sub i hs with h1 | h1
  ·exact h1
  ·omega
 ·rcases k.sub i hs with h1 | h1
  ·exact h.sub i h1
  ·exact .inr (by omega)
theorem PgK.of_below {c:Pc} {w w':World} (h:Below w.heap.size w w'):PgK p c c w w':=⟨Keeps.of_below h,λ _ h=>.inl h,rfl,rfl,rfl⟩
theorem PgK.pile {c:Pc} {v':Value} {w w':World} (h:PlK c.sb c.sv v' w w'):PgK p c { c with sv:=v' } w w':=by
 refine ⟨h.1.mono λ i _ hi=>?_,λ k hk=>?_,rfl,rfl,rfl⟩
 ·rcases hi with rfl | hi
  ·exact .inl (by simp [Pc.ids])
  ·exact .inr (.inl hi)
 ·rcases hk with hk | hk | hk | hk
  ·exact .inl (.inl hk)
  ·exact (h.2 k hk).imp (λ e=>.inr (.inl e)) id
  ·exact .inl (.inr (.inr (.inl hk)))
  ·exact .inl (.inr (.inr (.inr hk)))
theorem PgK.grown {c:Pc} {sy' nw':Value} {w w':World} (h:GrowK c.d c.sy c.nw sy' nw' w w'):PgK p c { c with sy:=sy',nw:=nw' } w w':=by
 refine ⟨h.keeps.mono λ i _ hi=>?_,λ k hk=>?_,rfl,rfl,rfl⟩
 ·rcases hi with rfl | hi | hi
  ·exact .inl (by simp [Pc.ids])
  ·exact .inr (.inr (.inl hi))
  ·exact .inr (.inr (.inr hi))
 ·rcases hk with hk | hk | hk | hk
  ·exact .inl (.inl hk)
  ·exact .inl (.inr (.inl hk))
  ·exact (h.sy k hk).imp (λ e=>.inr (.inr (.inl e))) id
  ·exact (h.nw k hk).imp (λ e=>.inr (.inr (.inr e))) id
theorem PgK.cell {c:Pc} {w:World} (i:Nat) (u:Value):PgK p c c w (w.setCell ⟨p,i,none⟩ u):=⟨(Keeps.refl _ w).setCell (p:=⟨p,i,none⟩) (λ _=>.inl (by simp [Pc.ids])) u,λ _ h=>.inl h,rfl,rfl,rfl⟩
theorem PgK.turn {c:Pc} {w:World} {b:Nat} (hb:b=c.mb\/b=c.wb) (l:List Ent) (k:Nat):PgK p c c w (turn w b l k):=⟨turn_keeps (Keeps.refl _ w) (λ _=>.inl (by rcases hb with rfl | rfl<;>simp [Pc.ids])) l k,λ _ h=>.inl h,rfl,rfl,rfl⟩
def TakeP (p:Nat) (c:Pc) (most n:Nat) (made was:List Ent) (mc wc dc:Nat) (spare:List Int) (w:World) (e:Ending) (w':World):Prop:=
 ∃ c' spare',e=.returned (.tuple #[.int .i64 (nextI n spare),.int .i64 0])/\PgAt w' p c' most (if spare=[] then n+1 else n) (if spare=[] then n+1 else n) made was mc wc dc spare'/\spare'.Perm spare.tail/\PgK p c c' w w'/\c'.mb=c.mb/\c'.wb=c.wb
theorem take_any (w:World) (h:PgAt w p c most n n made was mc wc dc spare) (hs:spare.length<=800000) (hm:spare=[]->n+1<=most) :
  Calls Tryz.prog 181 #[ptrV p] w (TakeP p c most n made was mc wc dc spare w):=by
 have g0:w.cell? ⟨p,0,none⟩=some (ptrV c.d):=h.blk.cell 0
 have g1:w.cell? ⟨p,1,none⟩=some (ptrV c.f):=h.blk.cell 1
 have g3:w.cell? ⟨p,3,none⟩=some (.int .i64 n):=h.blk.cell 3
 have g8:w.cell? ⟨p,8,none⟩=some (ptrV c.sb):=h.blk.cell 8
 cases spare with
 | cons x r =>
  have hT:=Hdz (pileTake_any c.sb c.sv (x :: r) w h.spr hs)
  have HH:=Hdz h
  clear h
  go_enter Tryz.func181,Tryz.ntmps181
  go_wp2_with (fail)
  go_must (refine hT.out.mono ?_)
  rintro e w1 ⟨rfl,v',ys,h1,h2,h3⟩
  unfold firstV
  go_wp2_with (fail)
  go_ret2
  exact ⟨_,ys,rfl,by simpa using HH.out.pile h1 h3,h2,PgK.pile h3,rfl,rfl⟩
 | nil =>
  have hm:=hm rfl
  have hT:=Hdz (pileTake_nil c.sb c.sv w h.spr)
  have hF:=Hdz (freeTake_any c.f w h.fre)
  have hL:=Hdz (devLen_any c.d most n c.sy c.nw w.drew h.dev.drew)
  have hG:=Hdz (devGrow_any c.d most n c.sy c.nw w.drew.drew h.dev.drew.drew hm)
  have hz:=h.dev.small
  obtain ⟨hz1,hz2⟩:=hz
  have hw:IntKind.i64.wrap ((n:Int)+1)=(n:Int)+1:=IntWalk.i64_in _ (by omega)
  have hlt:(n:Int)<(n:Int)+1:=by omega
  have hEnd:Hid (∀ w1,GrowPost c.d most n c.sy c.nw w.drew.drew (.returned (.int .i64 0)) w1->w1.cell? ⟨p,3,none⟩=some (.int .i64 n)/\w1.frozen? ⟨p,3,none⟩=false/\TakeP p c most n made was mc wc dc [] w (.returned (.tuple #[.int .i64 n,.int .i64 0])) (w1.setCell ⟨p,3,none⟩ (.int .i64 ((n:Int)+1)))):=by
   rintro w1 ⟨_,sy',nw',hd,hk,hs1,hs2⟩
   have hgk:GrowK c.d c.sy c.nw sy' nw' w w1:=⟨⟨hk.os,hk.tape,hk.output,hk.size,hk.block⟩,hs1,hs2⟩
   have h1:=h.grown hd hgk ⟨by omega,hm⟩
   have h2:=h1.more (Nat.le_refl _)
   refine ⟨h1.blk.cell 3,h1.blk.frozen 3,{ c with sy:=sy',nw:=nw' },[],rfl,?_,List.Perm.refl _,(PgK.grown hgk).trans (PgK.cell 3 _),rfl,rfl⟩
   exact h2
  clear h hs
  go_enter Tryz.func181,Tryz.ntmps181
  go_wp2_with (fail)
  go_must (refine hT.out.mono ?_)
  rintro e w1 ⟨rfl,rfl⟩
  go_wp2_with (fail)
  go_must (refine hF.out.mono ?_)
  rintro e w1 ⟨rfl,rfl⟩
  go_wp2_with (fail)
  refine wRz ?_
  try simp only [lAz]
  refine tA 0 ?_;try simp only [lAz]
  refine tA 1 ?_;try simp only [lAz]
  refine tA 2 ?_;try simp only [lAz]
  refine tA 5 ?_;try simp only [lAz]
  refine tA 6 ?_;try simp only [lAz]
  refine tA 7 ?_;try simp only [lAz]
  refine wpAny_ready (rs:=[3,8]) (by kernel_rfl) (by simp) (aCz (λ K hK=>?_) (aCz (λ K hK=>?_) AllReady.nil))
  all_goals go_simp
  all_goals (apply hK;clear hK K)
  ·skip
   refine wpAny_ready (rs:=[4,8]) (by kernel_rfl) (by simp) (aCz (λ K hK=>?_) (aCz (λ K hK=>?_) AllReady.nil))
   ·go_simp
    (go_must (refine hL.out.mono ?_);rintro e w1 ⟨rfl,rfl⟩)
    go_simp
    apply hK
    clear hK K
    refine rZz 8 λ K hK=>?_;go_simp;apply hK;clear hK K
    refine rZz 9 λ K hK=>?_;go_simp;apply hK;clear hK K
    refine rZz 10 λ K hK=>?_;go_simp;apply hK;clear hK K
    refine wDz ?_
    go_wp2_with (fail)
    refine wRz ?_
    try simp only [lAz]
    refine tA 0 ?_;try simp only [lAz]
    refine tA 1 ?_;try simp only [lAz]
    refine tA 2 ?_;try simp only [lAz]
    refine tA 4 ?_;try simp only [lAz]
    refine tA 5 ?_;try simp only [lAz]
    refine tA 6 ?_;try simp only [lAz]
    refine wpAny_ready (rs:=[3,7]) (by kernel_rfl) (by simp) (aCz (λ K hK=>?_) (aCz (λ K hK=>?_) AllReady.nil))
    ·go_simp
     apply hK
     clear hK K
     refine rZz 7 λ K hK=>?_;go_simp;apply hK;clear hK K
     refine rZz 8 λ K hK=>?_;go_simp;apply hK;clear hK K
     refine rZz 9 λ K hK=>?_;go_simp
     (go_must (refine hG.out.mono ?_);rintro e w1 ⟨rfl,hg⟩)
     obtain ⟨k3,f3,hE⟩:=hEnd.out w1 ⟨rfl,hg⟩
     go_simp
     apply hK
     clear hK K
     refine rZz 10 λ K hK=>?_;go_simp;apply hK;clear hK K
     refine wDz ?_
     go_wp2
     go_ret2
     exact hE
    ·go_simp
     apply hK
     clear hK K
     try simp only [lAz]
     refine tA 8 ?_;try simp only [lAz]
     refine rZz 3 λ K hK=>?_;go_simp;apply hK;clear hK K
     refine rZz 9 λ K hK=>?_;go_simp
     (go_must (refine hG.out.mono ?_);rintro e w1 ⟨rfl,hg⟩)
     obtain ⟨k3,f3,hE⟩:=hEnd.out w1 ⟨rfl,hg⟩
     go_simp
     apply hK
     clear hK K
     refine rZz 10 λ K hK=>?_;go_simp;apply hK;clear hK K
     refine wDz ?_
     go_wp2
     go_ret2
     exact hE
   ·go_simp
    apply hK
    clear hK K
    try simp only [lAz]
    refine tA 9 ?_;try simp only [lAz]
    refine rZz 4 λ K hK=>?_;go_simp
    (go_must (refine hL.out.mono ?_);rintro e w1 ⟨rfl,rfl⟩)
    go_simp
    apply hK
    clear hK K
    refine rZz 10 λ K hK=>?_;go_simp;apply hK;clear hK K
    refine wDz ?_
    go_wp2_with (fail)
    refine wRz ?_
    try simp only [lAz]
    refine tA 0 ?_;try simp only [lAz]
    refine tA 1 ?_;try simp only [lAz]
    refine tA 2 ?_;try simp only [lAz]
    refine tA 4 ?_;try simp only [lAz]
    refine tA 5 ?_;try simp only [lAz]
    refine tA 6 ?_;try simp only [lAz]
    refine wpAny_ready (rs:=[3,7]) (by kernel_rfl) (by simp) (aCz (λ K hK=>?_) (aCz (λ K hK=>?_) AllReady.nil))
    ·go_simp
     apply hK
     clear hK K
     refine rZz 7 λ K hK=>?_;go_simp;apply hK;clear hK K
     refine rZz 8 λ K hK=>?_;go_simp;apply hK;clear hK K
     refine rZz 9 λ K hK=>?_;go_simp
     (go_must (refine hG.out.mono ?_);rintro e w1 ⟨rfl,hg⟩)
     obtain ⟨k3,f3,hE⟩:=hEnd.out w1 ⟨rfl,hg⟩
     go_simp
     apply hK
     clear hK K
     refine rZz 10 λ K hK=>?_;go_simp;apply hK;clear hK K
     refine wDz ?_
     go_wp2
     go_ret2
     exact hE
    ·go_simp
     apply hK
     clear hK K
     try simp only [lAz]
     refine tA 8 ?_;try simp only [lAz]
     refine rZz 3 λ K hK=>?_;go_simp;apply hK;clear hK K
     refine rZz 9 λ K hK=>?_;go_simp
     (go_must (refine hG.out.mono ?_);rintro e w1 ⟨rfl,hg⟩)
     obtain ⟨k3,f3,hE⟩:=hEnd.out w1 ⟨rfl,hg⟩
     go_simp
     apply hK
     clear hK K
     refine rZz 10 λ K hK=>?_;go_simp;apply hK;clear hK K
     refine wDz ?_
     go_wp2
     go_ret2
     exact hE
  ·skip
   try simp only [lAz]
   refine tA 9 ?_;try simp only [lAz]
   refine rZz 3 λ K hK=>?_;go_simp;apply hK;clear hK K
   refine rZz 4 λ K hK=>?_;go_simp
   (go_must (refine hL.out.mono ?_);rintro e w1 ⟨rfl,rfl⟩)
   go_simp
   apply hK
   clear hK K
   refine rZz 10 λ K hK=>?_;go_simp;apply hK;clear hK K
   refine wDz ?_
   go_wp2_with (fail)
   refine wRz ?_
   try simp only [lAz]
   refine tA 0 ?_;try simp only [lAz]
   refine tA 1 ?_;try simp only [lAz]
   refine tA 2 ?_;try simp only [lAz]
   refine tA 4 ?_;try simp only [lAz]
   refine tA 5 ?_;try simp only [lAz]
   refine tA 6 ?_;try simp only [lAz]
   refine wpAny_ready (rs:=[3,7]) (by kernel_rfl) (by simp) (aCz (λ K hK=>?_) (aCz (λ K hK=>?_) AllReady.nil))
   ·go_simp
    apply hK
    clear hK K
    refine rZz 7 λ K hK=>?_;go_simp;apply hK;clear hK K
    refine rZz 8 λ K hK=>?_;go_simp;apply hK;clear hK K
    refine rZz 9 λ K hK=>?_;go_simp
    (go_must (refine hG.out.mono ?_);rintro e w1 ⟨rfl,hg⟩)
    obtain ⟨k3,f3,hE⟩:=hEnd.out w1 ⟨rfl,hg⟩
    go_simp
    apply hK
    clear hK K
    refine rZz 10 λ K hK=>?_;go_simp;apply hK;clear hK K
    refine wDz ?_
    go_wp2
    go_ret2
    exact hE
   ·go_simp
    apply hK
    clear hK K
    try simp only [lAz]
    refine tA 8 ?_;try simp only [lAz]
    refine rZz 3 λ K hK=>?_;go_simp;apply hK;clear hK K
    refine rZz 9 λ K hK=>?_;go_simp
    (go_must (refine hG.out.mono ?_);rintro e w1 ⟨rfl,hg⟩)
    obtain ⟨k3,f3,hE⟩:=hEnd.out w1 ⟨rfl,hg⟩
    go_simp
    apply hK
    clear hK K
    refine rZz 10 λ K hK=>?_;go_simp;apply hK;clear hK K
    refine wDz ?_
    go_wp2
    go_ret2
    exact hE
end
theorem seal_ok (id kind next:Int) (body:ByteArray) (w:World) (hi0:0<=id) (hi1:id<=4294967295) (hn0:0<=next) (hn1:next<=4294967295) (hk0:1<=kind) (hk1:kind<=255) (hb0:(body.size:Int)<=240) :
  Calls Tryz.prog 179 #[.int .i64 id,.agg #[.int .i64 kind,.int .i64 next,.string body]] w λ e w'=>(∃ (t:ByteArray),e=.returned (.tuple #[.string t,.int .i64 0]))/\Below w.heap.size w w':=by
 have hc:∀ {W W':World} (k:Nat) (v:Value),Below (w.heap.size+1) W W'->W.cell? ⟨w.heap.size,k,none⟩=some v->W'.cell? ⟨w.heap.size,k,none⟩=some v:=λ k v hb h=>(hb.cell (p:=⟨w.heap.size,k,none⟩) (Nat.lt_succ_self _)).trans h
 have hA:Below w.heap.size w ((w.alloc (.cells #[.int .i64 kind,.int .i64 next,.string body] 215)).alloc (.cells #[.pointer none,.slice none 0 0] 161)):=((Below.refl _ _).alloc (Nat.le_refl _) _).alloc (by simp) _
 have hN:((w.alloc (.cells #[.int .i64 kind,.int .i64 next,.string body] 215)).alloc (.cells #[.pointer none,.slice none 0 0] 161)).cell? ⟨w.heap.size,1,none⟩=some (.int .i64 next):=(World.cell?_alloc_past _ _ _ (by simp)).trans (World.cell?_alloc_at _ _ _ 1 rfl)
 have hT:((w.alloc (.cells #[.int .i64 kind,.int .i64 next,.string body] 215)).alloc (.cells #[.pointer none,.slice none 0 0] 161)).cell? ⟨w.heap.size,2,none⟩=some (.string body):=(World.cell?_alloc_past _ _ _ (by simp)).trans (World.cell?_alloc_at _ _ _ 2 rfl)
 go_enter Tryz.func179,Tryz.ntmps179
 go_wp2_with (first
  | (go_at_call 217;refine (in_any _ _ _ _).mono ?_;rintro e w1 ⟨rfl,rfl⟩)
  | (go_at_call 218;refine (write_first (fresh_at w _) _ (by omega) (by omega) (by simp<;>omega)).mono ?_;rintro e w1 ⟨rfl,g1,hb1⟩;have z1:=hb1.size;(try simp at z1);replace hN:=hc 1 _ hb1 hN;replace hT:=hc 2 _ hb1 hT)
  | (go_at_call 94;refine (build_text g8 (by omega)).mono ?_;rintro e w9 ⟨⟨t9,rfl,h9⟩,g9,hb9⟩)
  | (go_at_call 219;refine (put_any (g7.alloc _) _ 4 4 rfl (by decide) (by decide) (Int.natCast_nonneg _) (crc_lt _) (by omega) (by simp<;>omega)).mono ?_;rintro e w8 ⟨rfl,g8,hb8⟩;have z8:=hb8.size;(try simp at z8))
  | (go_at_call 220;refine (crc_one _ t7 _ (by omega) (World.cell?_alloc_at _ _ _ 0 rfl)).mono ?_;rintro e wc ⟨rfl,rfl⟩)
  | (go_at_call 94;refine (build_text g6 (by omega)).mono ?_;rintro e w7 ⟨⟨t7,rfl,h7⟩,g7,hb7⟩;have z7:=hb7.size)
  | (go_at_call 92;refine (write_string (g5.below hbr) tr (by omega) (by omega)).mono ?_;rintro e w6 ⟨rfl,g6,hb6⟩;have z6:=hb6.size)
  | (go_at_call 88;refine (repeat_zero _ _ (by omega) (by omega)).mono ?_;rintro e wr ⟨⟨tr,rfl,hr⟩,hbr⟩;have zr:=hbr.size)
  | (go_at_call 143;refine (build_len g5).mono ?_;rintro e wl ⟨rfl,rfl⟩)
  | (go_at_call 92;refine (write_string g4 body (by omega) (by omega)).mono ?_;rintro e w5 ⟨rfl,g5,hb5⟩;have z5:=hb5.size)
  | (go_at_call 219;refine (put_any g3 _ 2 2 rfl (by decide) (by decide) (by omega) (by omega) (by omega) (by omega)).mono ?_;rintro e w4 ⟨rfl,g4,hb4⟩;have z4:=hb4.size;replace hN:=hc 1 _ hb4 hN;replace hT:=hc 2 _ hb4 hT)
  | (go_at_call 219;refine (put_any g2 _ 4 4 rfl (by decide) (by decide) (by omega) (by omega) (by omega) (by omega)).mono ?_;rintro e w3 ⟨rfl,g3,hb3⟩;have z3:=hb3.size;replace hN:=hc 1 _ hb3 hN;replace hT:=hc 2 _ hb3 hT)
  | (go_at_call 219;refine (put_any g1 _ 4 4 rfl (by decide) (by decide) (by omega) (by omega) (by omega) (by omega)).mono ?_;rintro e w2 ⟨rfl,g2,hb2⟩;have z2:=hb2.size;replace hN:=hc 1 _ hb2 hN;replace hT:=hc 2 _ hb2 hT))
 go_ret2
 refine ⟨⟨_,rfl⟩,hA.trans ?_⟩
 exact ((((((((((hb1.trans hb2).trans hb3).trans hb4).trans hb5).trans (hbr.mono (by omega))).trans hb6).trans hb7).alloc (by omega) _).trans hb8).trans hb9).mono (by omega)
end Go.Ev
