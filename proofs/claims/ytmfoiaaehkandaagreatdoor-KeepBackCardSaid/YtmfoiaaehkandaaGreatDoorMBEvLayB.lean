/-
  Texts of this claim.
-/
import Derived.Test.YtmfoiaaehkandaaGreatDoorMBGvMin
import Derived.Deep.Draws
import Derived.Laws.OwnMore
import Derived.Shelf.Lays
import Derived.Shelf.Strings.BuilderF
import Derived.Test.YtmfoiaaehkandaaGreatDoorProg
set_option linter.unusedVariables false
set_option linter.unusedSimpArgs false
namespace Go.Ev
open Go.RowKit
structure Keeps (S:Nat->Prop) (w w':World):Prop where
 os:w'.os=w.os
 tape:w'.tape=w.tape
 output:w'.output=w.output
 size:w.heap.size<=w'.heap.size
 block:∀ k,k<w.heap.size->¬ S k->w'.heap[k]? = w.heap[k]?
section
variable {S S':Nat->Prop} {w a c w':World}
theorem Keeps.refl (S:Nat->Prop) (w:World):Keeps S w w:=⟨rfl,rfl,rfl,Nat.le_refl _,λ _ _ _=>rfl⟩
theorem Keeps.trans (h:Keeps S w a) (k:Keeps S' a c) (hs:∀ i,i<w.heap.size->S' i->S i):Keeps S w c:=
 ⟨k.os.trans h.os,k.tape.trans h.tape,k.output.trans h.output,Nat.le_trans h.size k.size,λ i hi hn=>(k.block i (Nat.lt_of_lt_of_le hi h.size) λ hh=>hn (hs i hi hh)).trans (h.block i hi hn)⟩
theorem Keeps.mono (h:Keeps S w a) (hs:∀ i,i<w.heap.size->S i->S' i):Keeps S' w a:=⟨h.os,h.tape,h.output,h.size,λ i hi hn=>h.block i hi λ hh=>hn (hs i hi hh)⟩
theorem Keeps.of_below (h:Below w.heap.size w a):Keeps S w a:=⟨h.os,h.tape,h.output,h.size,λ i hi _=>h.block i hi⟩
theorem Keeps.below {B:Nat} (h:Keeps S w a) (hB:B<=w.heap.size) (hs:∀ i,i<B->¬ S i):Below B w a:=⟨h.os,h.tape,h.output,h.size,λ i hi=>h.block i (Nat.lt_of_lt_of_le hi hB) (hs i hi)⟩
theorem Keeps.drew (h:Keeps S w a):Keeps S w a.drew:=⟨h.os,h.tape,h.output,h.size,h.block⟩
theorem Keeps.drewN (h:Keeps S w a) (n:Nat):Keeps S w (a.drewN n):=⟨h.os,h.tape,h.output,h.size,h.block⟩
theorem Keeps.alloc (h:Keeps S w a) (o:Obj):Keeps S w (a.alloc o):=
 ⟨h.os,h.tape,h.output,Nat.le_trans h.size (by simp),λ i hi hn=>(Below.heap_alloc a o i (Nat.lt_of_lt_of_le hi h.size)).trans (h.block i hi hn)⟩
theorem Keeps.setCell (h:Keeps S w a) {p:Addr} (hp:p.block<w.heap.size->S p.block) (u:Value):Keeps S w (a.setCell p u):=
 ⟨h.os,h.tape,h.output,by simpa [World.setCell] using h.size,λ i hi hn=>(Below.heap_setCell a p u i (by rintro rfl;exact hn (hp hi))).trans (h.block i hi hn)⟩
theorem Keeps.grown (h:Keeps S w a) {row:Option Nat} (hg:a.grownBy c row) (hr:∀ k,row=some k->k<w.heap.size->S k):Keeps S w c:=
 h.trans (S':=λ k=>row=some k) ⟨hg.os,hg.tape,hg.output,hg.size,λ k hk hn=>hg.block k hk λ e=>hn e.symm⟩ λ i hi e=>hr i e hi
theorem Keeps.cell (h:Keeps S w a) {p:Addr} (hp:p.block<w.heap.size) (hn:¬ S p.block):a.cell? p=w.cell? p:=World.cell?_of_block (h.block p.block hp hn)
theorem Keeps.frozen (h:Keeps S w a) {p:Addr} (hp:p.block<w.heap.size) (hn:¬ S p.block):a.frozen? p=w.frozen? p:=World.frozen?_of_block (h.block p.block hp hn)
def Blk (w:World) (g:Nat) (t:TypeId) (cs:Array Value):Prop:=w.heap[g]? = some (.cells cs t (0,0))
variable {g:Nat} {t:TypeId} {cs:Array Value}
theorem Blk.lt (h:Blk w g t cs):g<w.heap.size:=(Array.getElem?_eq_some_iff.1 h).1
theorem Blk.cell (h:Blk w g t cs) (i:Nat):w.cell? ⟨g,i,none⟩=cs[i]?:=cell_of_row w g i cs t (0,0) h
theorem Blk.frozen (h:Blk w g t cs) (i:Nat):w.frozen? ⟨g,i,none⟩=false:=by
 unfold Blk at h
 simp [World.frozen?,h]
theorem Blk.new (w:World) (t:TypeId) (cs:Array Value):Blk (w.alloc (.cells cs t)) w.heap.size t cs:=heap_alloc_new w _
theorem Blk.drew (h:Blk w g t cs):Blk w.drew g t cs:=h
theorem Blk.alloc (h:Blk w g t cs) (o:Obj):Blk (w.alloc o) g t cs:=(Below.heap_alloc w o g h.lt).trans h
theorem Blk.set (h:Blk w g t cs) (i:Nat) (u:Value):Blk (w.setCell ⟨g,i,none⟩ u) g t (cs.setIfInBounds i u):=by
 unfold Blk at h ⊢
 simp [World.setCell,Array.getElem?_modify,h]
theorem Blk.far (h:Blk w g t cs) {p:Addr} (hp:g≠p.block) (u:Value):Blk (w.setCell p u) g t cs:=(Below.heap_setCell w p u g hp).trans h
theorem Blk.keeps (h:Blk w g t cs) (hk:Keeps S w a) (hg:¬ S g):Blk a g t cs:=(hk.block g h.lt hg).trans h
theorem Blk.below {B:Nat} (h:Blk w g t cs) (hb:Below B w a) (hg:g<B):Blk a g t cs:=(hb.block g hg).trans h
theorem Blk.below' (h:Blk w g t cs) (hb:Below w.heap.size w a):Blk a g t cs:=h.below hb h.lt
theorem Blk.eq {t':TypeId} {cs':Array Value} (h:Blk w g t cs) (h':Blk w g t' cs'):t=t'/\cs=cs':=by
 unfold Blk at h h'
 rw [h] at h'
 simpa [and_comm] using h'
def Sl (w:World) (z:Nat) (v:Value) (n:Nat) (cs:List Value):Prop:=
 ∃ A c,v=.slice A n c/\n<=c/\cs.length=n*z/\(0<n->∃ b o,A=some ⟨b,o,none⟩/\b<w.heap.size/\∀ j u,cs[j]? = some u->w.cell? ⟨b,o+j,none⟩=some u)
variable {z n:Nat} {v:Value} {xs:List Value}
theorem Sl.nil (w:World) (z c:Nat) (A:Option Addr):Sl w z (.slice A 0 c) 0 []:=⟨A,c,rfl,Nat.zero_le _,by simp,λ h=>absurd h (by omega)⟩
theorem Sl.keeps (h:Sl w z v n xs) (hk:Keeps S w a) (hs:∀ A m c b o,v=.slice A m c->A=some ⟨b,o,none⟩->¬ S b):Sl a z v n xs:=by
 obtain ⟨A,c,rfl,h0,h1,h2⟩:=h
 refine ⟨A,c,rfl,h0,h1,λ hn=>?_⟩
 obtain ⟨b,o,rfl,h4,h5⟩:=h2 hn
 exact ⟨b,o,rfl,Nat.lt_of_lt_of_le h4 hk.size,λ j u hu=>(hk.cell (p:=⟨b,o+j,none⟩) h4 (hs _ _ _ b o rfl rfl)).trans (h5 j u hu)⟩
theorem Sl.below (h:Sl w z v n xs) (hb:Below w.heap.size w a):Sl a z v n xs:=h.keeps (S:=λ _=>False) (Keeps.of_below hb) λ _ _ _ _ _ _ _ h=>h
theorem Sl.alloc (h:Sl w z v n xs) (o:Obj):Sl (w.alloc o) z v n xs:=h.below ((Below.refl _ _).alloc (Nat.le_refl _) o)
theorem Sl.drew (h:Sl w z v n xs):Sl w.drew z v n xs:=h
theorem own_keeps {base:Nat} {e:TypeId} (h:w.ownsRow base e z v n xs) (hk:Keeps S w a) (hS:∀ k,v.ownBlock=some k->¬ S k):a.ownsRow base e z v n xs:=by
 refine ⟨h.1,?_⟩
 rcases h.2 with hn | ⟨g,cap,cur,rfl,hb,hg,rest⟩
 ·exact .inl hn
 ·exact .inr ⟨g,cap,cur,rfl,hb,(hk.block g (Array.getElem?_eq_some_iff.1 hg).1 (hS g rfl)).trans hg,rest⟩
theorem own_ne {base:Nat} {e:TypeId} (h:w.ownsRow base e z v n xs) (hb:Blk w g t cs) (ht:t≠e):∀ k,v.ownBlock=some k->k≠g:=by
 rintro k hk rfl
 rcases h.2 with ⟨rfl,_⟩ | ⟨g',cap,cur,rfl,_,hg,_⟩
 ·cases hk
 ·simp only [Value.ownBlock,Option.some.injEq] at hk
  subst hk
  unfold Blk at hb
  rw [hb] at hg
  simp only [Option.some.injEq,Obj.cells.injEq] at hg
  exact ht hg.2.1
theorem Sl.of_own {base:Nat} {e:TypeId} (h:w.ownsRow base e z v n xs):Sl w z v n xs:=by
 obtain ⟨h1,⟨rfl,rfl⟩ | ⟨g,cap,cur,rfl,hb,hh,hn,hm,hs,hx⟩⟩:=h
 ·have:xs=[]:=List.eq_nil_of_length_eq_zero (by simpa using h1)
  subst this
  exact Sl.nil ..
 ·refine ⟨_,_,rfl,hn,h1,λ _=>⟨g,0,rfl,(Array.getElem?_eq_some_iff.1 hh).1,λ j u hu=>?_⟩⟩
  rw [Nat.zero_add,cell_of_row w g j cur e (0,0) hh,<- hx] at *
  rw [List.getElem?_take] at hu
  split at hu
  ·simpa using hu
  ·cases hu
end
end Go.Ev
namespace Go.Proofs
open Go.Shelf
def Tryz.bRen:Go.Shelf.Ren:=⟨fun | 166=>92 | 167=>218 | 169=>94 | 170=>143 | 240=>150 | 276=>207 | n=>n,fun | 0=>0 | 3=>3 | 4=>4 | 5=>5 | 9=>9 | 20=>20 | 37=>159 | 70=>158 | 72=>161 | 75=>163 | 80=>167 | 127=>245 | 164=>319 | n=>n,fun | n=>n⟩
theorem Tryz.bString:Go.Proofs.Lays.n166 Tryz.prog Tryz.bRen:={
 mixed:=by kernel_rfl
 f166:=Tryz.func92.trans (congrArg some (by kernel_rfl))
 f240:=Tryz.func150.trans (congrArg some (by kernel_rfl))
 f276:=Tryz.func207.trans (congrArg some (by kernel_rfl))
 t0:=Tryz.underlying0
 a0:=Tryz.isAgg0
 z0:=Tryz.sizeOf0
 v0:=Tryz.zeroValue0
 t3:=Tryz.underlying3
 a3:=Tryz.isAgg3
 z3:=Tryz.sizeOf3
 v3:=Tryz.zeroValue3
 t4:=Tryz.underlying4
 a4:=Tryz.isAgg4
 z4:=Tryz.sizeOf4
 v4:=Tryz.zeroValue4
 t9:=Tryz.underlying9
 a9:=Tryz.isAgg9
 z9:=Tryz.sizeOf9
 v9:=Tryz.zeroValue9
 t20:=Tryz.underlying20
 a20:=Tryz.isAgg20
 z20:=Tryz.sizeOf20
 v20:=Tryz.zeroValue20
 t37:=Tryz.underlying159
 a37:=Tryz.isAgg159
 z37:=Tryz.sizeOf159
 v37:=Tryz.zeroValue159
 t70:=Tryz.underlying158
 a70:=Tryz.isAgg158
 z70:=Tryz.sizeOf158
 v70:=Tryz.zeroValue158
 t72:=Tryz.underlying161
 a72:=Tryz.isAgg161
 z72:=Tryz.sizeOf161
 v72:=Tryz.zeroValue161
 t75:=Tryz.underlying163
 a75:=Tryz.isAgg163
 z75:=Tryz.sizeOf163
 v75:=Tryz.zeroValue163
 t164:=Tryz.underlying319
 a164:=Tryz.isAgg319
 z164:=Tryz.sizeOf319
 v164:=Tryz.zeroValue319
}
theorem Tryz.bByte:Go.Proofs.Lays.n167 Tryz.prog Tryz.bRen:={
 mixed:=by kernel_rfl
 f167:=Tryz.func218.trans (congrArg some (by kernel_rfl))
 f240:=Tryz.func150.trans (congrArg some (by kernel_rfl))
 f276:=Tryz.func207.trans (congrArg some (by kernel_rfl))
 t0:=Tryz.underlying0
 a0:=Tryz.isAgg0
 z0:=Tryz.sizeOf0
 v0:=Tryz.zeroValue0
 t4:=Tryz.underlying4
 a4:=Tryz.isAgg4
 z4:=Tryz.sizeOf4
 v4:=Tryz.zeroValue4
 t5:=Tryz.underlying5
 a5:=Tryz.isAgg5
 z5:=Tryz.sizeOf5
 v5:=Tryz.zeroValue5
 t9:=Tryz.underlying9
 a9:=Tryz.isAgg9
 z9:=Tryz.sizeOf9
 v9:=Tryz.zeroValue9
 t20:=Tryz.underlying20
 a20:=Tryz.isAgg20
 z20:=Tryz.sizeOf20
 v20:=Tryz.zeroValue20
 t37:=Tryz.underlying159
 a37:=Tryz.isAgg159
 z37:=Tryz.sizeOf159
 v37:=Tryz.zeroValue159
 t70:=Tryz.underlying158
 a70:=Tryz.isAgg158
 z70:=Tryz.sizeOf158
 v70:=Tryz.zeroValue158
 t72:=Tryz.underlying161
 a72:=Tryz.isAgg161
 z72:=Tryz.sizeOf161
 v72:=Tryz.zeroValue161
 t75:=Tryz.underlying163
 a75:=Tryz.isAgg163
 z75:=Tryz.sizeOf163
 v75:=Tryz.zeroValue163
 t164:=Tryz.underlying319
 a164:=Tryz.isAgg319
 z164:=Tryz.sizeOf319
 v164:=Tryz.zeroValue319
}
theorem Tryz.bText:Go.Proofs.Lays.n169 Tryz.prog Tryz.bRen:={
 mixed:=by kernel_rfl
 f169:=Tryz.func94.trans (congrArg some (by kernel_rfl))
 t0:=Tryz.underlying0
 a0:=Tryz.isAgg0
 z0:=Tryz.sizeOf0
 v0:=Tryz.zeroValue0
 t3:=Tryz.underlying3
 a3:=Tryz.isAgg3
 z3:=Tryz.sizeOf3
 v3:=Tryz.zeroValue3
 t9:=Tryz.underlying9
 a9:=Tryz.isAgg9
 z9:=Tryz.sizeOf9
 v9:=Tryz.zeroValue9
 t37:=Tryz.underlying159
 a37:=Tryz.isAgg159
 z37:=Tryz.sizeOf159
 v37:=Tryz.zeroValue159
 t70:=Tryz.underlying158
 a70:=Tryz.isAgg158
 z70:=Tryz.sizeOf158
 v70:=Tryz.zeroValue158
 t72:=Tryz.underlying161
 a72:=Tryz.isAgg161
 z72:=Tryz.sizeOf161
 v72:=Tryz.zeroValue161
 t127:=Tryz.underlying245
 a127:=Tryz.isAgg245
 z127:=Tryz.sizeOf245
 v127:=Tryz.zeroValue245
}
theorem Tryz.bLen:Go.Proofs.Lays.n170 Tryz.prog Tryz.bRen:={
 mixed:=by kernel_rfl
 f170:=Tryz.func143.trans (congrArg some (by kernel_rfl))
 t0:=Tryz.underlying0
 a0:=Tryz.isAgg0
 z0:=Tryz.sizeOf0
 v0:=Tryz.zeroValue0
 t3:=Tryz.underlying3
 a3:=Tryz.isAgg3
 z3:=Tryz.sizeOf3
 v3:=Tryz.zeroValue3
 t37:=Tryz.underlying159
 a37:=Tryz.isAgg159
 z37:=Tryz.sizeOf159
 v37:=Tryz.zeroValue159
 t70:=Tryz.underlying158
 a70:=Tryz.isAgg158
 z70:=Tryz.sizeOf158
 v70:=Tryz.zeroValue158
 t72:=Tryz.underlying161
 a72:=Tryz.isAgg161
 z72:=Tryz.sizeOf161
 v72:=Tryz.zeroValue161
}
theorem Tryz.bCheck:Go.Proofs.Lays.n240 Tryz.prog Tryz.bRen:={
 mixed:=by kernel_rfl
 f240:=Tryz.func150.trans (congrArg some (by kernel_rfl))
 f276:=Tryz.func207.trans (congrArg some (by kernel_rfl))
 t0:=Tryz.underlying0
 a0:=Tryz.isAgg0
 z0:=Tryz.sizeOf0
 v0:=Tryz.zeroValue0
 t4:=Tryz.underlying4
 a4:=Tryz.isAgg4
 z4:=Tryz.sizeOf4
 v4:=Tryz.zeroValue4
 t9:=Tryz.underlying9
 a9:=Tryz.isAgg9
 z9:=Tryz.sizeOf9
 v9:=Tryz.zeroValue9
 t20:=Tryz.underlying20
 a20:=Tryz.isAgg20
 z20:=Tryz.sizeOf20
 v20:=Tryz.zeroValue20
 t70:=Tryz.underlying158
 a70:=Tryz.isAgg158
 z70:=Tryz.sizeOf158
 v70:=Tryz.zeroValue158
 t72:=Tryz.underlying161
 a72:=Tryz.isAgg161
 z72:=Tryz.sizeOf161
 v72:=Tryz.zeroValue161
 t164:=Tryz.underlying319
 a164:=Tryz.isAgg319
 z164:=Tryz.sizeOf319
 v164:=Tryz.zeroValue319
}
theorem Tryz.bX:Builder.Extra Tryz.prog Tryz.bRen:={
 sizeBuilder:=by kernel_rfl
 liesBuilder:=by kernel_rfl
 t5:=Tryz.underlying5
 a5:=Tryz.isAgg5
 z5:=Tryz.sizeOf5
 v5:=Tryz.zeroValue5
 infoByte:=by kernel_rfl
 cellsByte:=by kernel_rfl
 sizeByte:=by kernel_rfl
 neB5:=by decide
}
end Go.Proofs
