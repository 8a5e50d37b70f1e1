/-
  Texts of this claim.
-/
import Derived.Test.YtmfoiaaehkandaaGreatDoorMBGwReplace
import Derived.Test.YtmfoiaaehkandaaGreatDoorMBGwSeal
import Derived.Laws.ResultCell
set_option linter.unusedVariables false
set_option linter.unusedSimpArgs false
set_option maxHeartbeats 2000000
set_option maxRecDepth 100000
namespace Go.Ev
open Go.Proofs Go.RowKit
def PgOk (w:World) (p:Nat) (c:Pc) (most:Nat) (M:Store) (cnt:Nat):Prop:=∃ n made was mc wc dc spare,PgAt w p c most n n made was mc wc dc spare/\PgInv n made was spare/\Pages made M/\cnt=made.length
def Pg.ok (x:Pg):Prop:=1<=x.kind/\x.kind<=255/\0<=x.next/\x.next<=4294967295/\x.body.length<=240
def MakeP (p:Nat) (c:Pc) (most:Nat) (M:Store) (cnt:Nat) (x:Pg) (w:World) (e:Ending) (w':World):Prop:=
 ∃ id c',e=.returned (.tuple #[.int .i64 id,.int .i64 0])/\M id=none/\2<=id/\id<=100000/\PgOk w' p c' most (updS M id (some x)) (cnt+1)/\PgK p c c' w w'
section
variable {p:Nat} {c:Pc} {most cnt:Nat} {M:Store}
theorem PgOk.below {w w':World} (h:PgOk w p c most M cnt) (hb:Below w.heap.size w w'):PgOk w' p c most M cnt:=by
 obtain ⟨n,made,was,mc,wc,dc,spare,h1,h2,h3,h4⟩:=h
 exact ⟨n,made,was,mc,wc,dc,spare,h1.below hb,h2,h3,h4⟩
theorem PgOk.keeps {S:Nat->Prop} {w w':World} (h:PgOk w p c most M cnt) (hk:Keeps S w w') (hs:∀ k,c.S p k->¬ S k):PgOk w' p c most M cnt:=by
 obtain ⟨n,made,was,mc,wc,dc,spare,h1,h2,h3,h4⟩:=h
 exact ⟨n,made,was,mc,wc,dc,spare,h1.keeps hk hs,h2,h3,h4⟩
theorem PgOk.lt {w:World} (h:PgOk w p c most M cnt):∀ k,c.S p k->k<w.heap.size:=by
 obtain ⟨n,made,was,mc,wc,dc,spare,h1,h2,h3,h4⟩:=h
 exact h1.lt
theorem PgOk.alloc {w:World} (h:PgOk w p c most M cnt) (o:Obj):PgOk (w.alloc o) p c most M cnt:=h.below ((Below.refl _ _).alloc (Nat.le_refl _) o)
theorem make_end {n:Nat} {made was:List Ent} {mc wc dc:Nat} {spare spare':List Int} {w:World} {c':Pc} {x:Pg} (hI:PgInv n made was spare) (hP:Pages made M)
  (h:PgAt w p c' most (if spare=[] then n+1 else n) (if spare=[] then n+1 else n) made was mc wc dc spare') (hp:spare'.Perm spare.tail) :
  getE made (nextI n spare)=none/\2<=nextI n spare/\nextI n spare<=n/\M (nextI n spare)=none ∧
  PgOk (turn (turn w c'.wb (delE was (nextI n spare)) wc) c'.mb (putE made (nextI n spare) (pgV x) mc) (clockE made (nextI n spare) mc)) p c' most (updS M (nextI n spare) (some x)) (made.length+1):=by
 have hkey:PgInv (if spare=[] then n+1 else n) (putE made (nextI n spare) (pgV x) mc) (delE was (nextI n spare)) spare'/\getE made (nextI n spare)=none/\2<=nextI n spare/\nextI n spare<=n:=by
  cases spare with
  | nil =>
   have:spare'=[]:=List.Perm.eq_nil hp
   subst this
   have:=hI.make_new x mc
   exact ⟨this.1,this.2,by have:=hI.two;show 2<=(n:Int);omega,Int.le_refl _⟩
  | cons y r =>
   have:=hI.make_spare hp x mc
   have hc:=(hI.cover y).2 (.inr (List.mem_cons_self ..))
   exact ⟨by rw [if_neg (by simp)];exact this.1,this.2,hc.1,by have:=hc.2;show y<=n;omega⟩
 obtain ⟨k1,k2,k3,k4⟩:=hkey
 refine ⟨k2,k3,k4,?_,_,_,_,_,_,_,_,(h.turnW _ _).turnM _ _ (h.clk.put _ _),k1,hP.put _ _ _,by rw [len_put k2]⟩
 have:=hP (nextI n spare)
 rw [k2] at this
 cases hq:M (nextI n spare) with
 | none=>rfl
 | some y=>rw [hq] at this;cases this
theorem make_any (x:Pg) (w:World) (h:PgOk w p c most M cnt) (hx:x.ok) (hroom:cnt+3<=most) :
  Calls Tryz.prog 131 #[ptrV p,.agg #[.int .i64 x.kind,.int .i64 x.next,strV x.body]] w (MakeP p c most M cnt x w):=by
 obtain ⟨n,made,was,mc,wc,dc,spare,hA,hI,hP,rfl⟩:=h
 obtain ⟨hx1,hx2,hx3,hx4,hx5⟩:=hx
 have hcount:=hI.count
 have hsm:=hA.dev.small
 obtain ⟨hsm1,hsm2⟩:=hsm
 have hnm:spare=[]->n+1<=most:=λ e=>by subst e;simp at hcount;omega
 have hsl:spare.length<=800000:=by omega
 have hA1:=hA.alloc (.cells #[.int .i64 x.kind,.int .i64 x.next,strV x.body] 215)
 have hnx:2<=nextI n spare/\nextI n spare<=n:=by
  cases spare with
  | nil=>exact ⟨by have:=hI.two;show 2<=(n:Int);omega,Int.le_refl _⟩
  | cons y r=>have:=(hI.cover y).2 (.inr (List.mem_cons_self ..));exact ⟨this.1,by show y<=n;omega⟩
 have hN:=Hdz (next_any _ hA1.drew hsl)
 have hS:=Hdz (λ W=>seal_ok (nextI n spare) x.kind x.next ⟨x.body.toArray⟩ W (by omega) (by omega) hx3 hx4 hx1 hx2 (by simp only [ByteArray.size,List.size_toArray];omega))
 have hT:=Hdz (λ W (hb:Below (w.alloc (.cells #[.int .i64 x.kind,.int .i64 x.next,strV x.body] 215)).heap.size (w.alloc (.cells #[.int .i64 x.kind,.int .i64 x.next,strV x.body] 215)) W) hm=>take_any W (hA1.below hb) hsl hm)
 have hE:=Hdz (λ (w':World) (c':Pc) (spare':List Int)=>make_end (p:=p) (most:=most) (M:=M) (mc:=mc) (wc:=wc) (dc:=dc) (w:=w') (c':=c') (spare':=spare') (x:=x) hI hP)
 have bx:Blk (w.alloc (.cells #[.int .i64 x.kind,.int .i64 x.next,strV x.body] 215)) w.heap.size 215 #[.int .i64 x.kind,.int .i64 x.next,strV x.body]:=Blk.new _ _ _
 have g0:(w.alloc (.cells #[.int .i64 x.kind,.int .i64 x.next,strV x.body] 215)).cell? ⟨p,0,none⟩=some (ptrV c.d):=hA1.blk.cell 0
 have HI:=Hdz hI
 have HP:=Hdz hP
 have HA:=Hdz hA
 have HA1:=Hdz hA1
 clear hI hP hA hA1 hcount
 go_enter Tryz.func131,Tryz.ntmps131
 go_wp2_with (fail)
 go_must (refine (pgNone_any _ _ _ g0).mono ?_)
 rintro e w1 ⟨rfl,rfl⟩
 go_wp2_with (fail)
 have x0:(w.alloc (.cells #[.int .i64 x.kind,.int .i64 x.next,strV x.body] 215)).cell? ⟨w.heap.size,0,none⟩=some (.int .i64 x.kind):=bx.cell 0
 have x1:(w.alloc (.cells #[.int .i64 x.kind,.int .i64 x.next,strV x.body] 215)).cell? ⟨w.heap.size,1,none⟩=some (.int .i64 x.next):=bx.cell 1
 have x2:(w.alloc (.cells #[.int .i64 x.kind,.int .i64 x.next,strV x.body] 215)).cell? ⟨w.heap.size,2,none⟩=some (strV x.body):=bx.cell 2
 have hzW:w.heap.size+1=(w.alloc (.cells #[.int .i64 x.kind,.int .i64 x.next,strV x.body] 215)).heap.size:=by simp
 refine wRz ?_
 try simp only [lAz]
 refine tA 0 ?_;try simp only [lAz]
 refine wpAny_ready (rs:=[1,2]) (by kernel_rfl) (by simp) (aCz (λ K hK=>?_) (aCz (λ K hK=>?_) AllReady.nil))
 ·go_simp
  (go_must (refine hN.out.mono ?_);rintro e w2 ⟨rfl,hb2⟩)
  have y0:w2.cell? ⟨w.heap.size,0,none⟩=some (.int .i64 x.kind):=(hb2.cell (p:=⟨w.heap.size,0,none⟩) (by simp)).trans x0
  have y1:w2.cell? ⟨w.heap.size,1,none⟩=some (.int .i64 x.next):=(hb2.cell (p:=⟨w.heap.size,1,none⟩) (by simp)).trans x1
  have y2:w2.cell? ⟨w.heap.size,2,none⟩=some (strV x.body):=(hb2.cell (p:=⟨w.heap.size,2,none⟩) (by simp)).trans x2
  go_simp
  apply hK
  clear hK K
  refine rZz 2 λ K hK=>?_;go_simp;apply hK;clear hK K
  refine rZz 3 λ K hK=>?_;go_simp
  (go_must (refine (hS.out w2).mono ?_);rintro e w3 ⟨⟨t,rfl⟩,hb3⟩)
  go_simp
  apply hK
  clear hK K
  refine rZz 4 λ K hK=>?_;go_simp;apply hK;clear hK K
  try simp only [lAz]
  refine tA 5 ?_;try simp only [lAz]
  refine tA 6 ?_;try simp only [lAz]
  refine rZz 7 λ K hK=>?_;go_simp;apply hK;clear hK K
  refine rZz 8 λ K hK=>?_;go_simp;apply hK;clear hK K
  refine wDz ?_
  have hbT:=(hb2.trans (hb3.mono hb2.size))
  go_wp2_with (fail)
  have hbT':Below (w.alloc (.cells #[.int .i64 x.kind,.int .i64 x.next,strV x.body] 215)).heap.size (w.alloc (.cells #[.int .i64 x.kind,.int .i64 x.next,strV x.body] 215)) w3:=⟨hbT.os,hbT.tape,hbT.output,hbT.size,hbT.block⟩
  have bx3:=bx.below' hbT'
  have hlt3:=hbT'.size
  have hAt3:=HA1.out.below hbT'
  have hroom3:spare=[]->n+1<=most:=hnm
  go_must (refine (hT.out w3 hbT' hnm).mono ?_)
  rintro e w4 ⟨c',spare',rfl,hA4,hperm,hK4,hmb,hwb⟩
  have hEE:=hE.out w4 c' spare' hA4 hperm
  obtain ⟨q1,q2,q3,q4,q5⟩:=hEE
  have hlt4:=hK4.keeps.size
  have hbig:w.heap.size<w3.heap.size:=by simp at hlt3;omega
  have hnS:¬ c.S p w.heap.size:=λ hh=>by have:=HA.out.lt _ hh;omega
  have bx4:=bx3.keeps hK4.keeps hnS
  have gw7:w4.cell? ⟨p,7,none⟩=some (.map (some c'.wb)):=hA4.blk.cell 7
  have hdl:=λ ty=>run_delete_I hA4.wwas (P:=Tryz.prog) Tryz.underlying209 Tryz.underlying3 ty (nextI n spare)
  have hA5:=hA4.turnW (delE was (nextI n spare)) wc
  have gw5:(turn w4 c'.wb (delE was (nextI n spare)) wc).cell? ⟨p,5,none⟩=some (.map (some c'.mb)):=hA5.blk.cell 5
  have y0:(turn w4 c'.wb (delE was (nextI n spare)) wc).cell? ⟨w.heap.size,0,none⟩=some (.int .i64 x.kind):=(hA4.wwas.cell_turn _ _ _).trans (bx4.cell 0)
  have y1:(turn w4 c'.wb (delE was (nextI n spare)) wc).cell? ⟨w.heap.size,1,none⟩=some (.int .i64 x.next):=(hA4.wwas.cell_turn _ _ _).trans (bx4.cell 1)
  have y2:(turn w4 c'.wb (delE was (nextI n spare)) wc).cell? ⟨w.heap.size,2,none⟩=some (strV x.body):=(hA4.wwas.cell_turn _ _ _).trans (bx4.cell 2)
  have hup:=run_update_I hA5.drew.mad (P:=Tryz.prog) Tryz.underlying208 Tryz.underlying3 (nextI n spare) (pgV x)
  unfold pgV strB at hup
  have HEnd:Hid (MakeP p c most M made.length x w (.returned (.tuple #[.int .i64 (nextI n spare),.int .i64 0])) (turn (turn w4 c'.wb (delE was (nextI n spare)) wc).drew c'.mb (putE made (nextI n spare) (pgV x) mc) (clockE made (nextI n spare) mc))):=by
   have hk0:PgK p c c w w3:=⟨Keeps.of_below ((Below.refl _ w).alloc (Nat.le_refl _) _ |>.trans (hbT'.mono (by simp))),λ _ h=>.inl h,rfl,rfl,rfl⟩
   have hk5:PgK p c' c' w4 (turn w4 c'.wb (delE was (nextI n spare)) wc):=PgK.turn (.inr rfl) _ _
   have hk6:PgK p c' c' (turn w4 c'.wb (delE was (nextI n spare)) wc) (turn w4 c'.wb (delE was (nextI n spare)) wc).drew:=⟨(Keeps.refl _ _).drew,λ _ h=>.inl h,rfl,rfl,rfl⟩
   have hk7:PgK p c' c' (turn w4 c'.wb (delE was (nextI n spare)) wc).drew (turn (turn w4 c'.wb (delE was (nextI n spare)) wc).drew c'.mb (putE made (nextI n spare) (pgV x) mc) (clockE made (nextI n spare) mc)):=PgK.turn (.inl rfl) _ _
   exact ⟨nextI n spare,c',rfl,q4,q2,by omega,q5.below (Below.refl _ _).drew,(((hk0.trans hK4).trans hk5).trans hk6).trans hk7⟩
  unfold pgV strB at HEnd
  clear hmb hwb hA4 hA5 hK4 q1 q4 q5 hT hE hS hN hAt3 hbT hbT' hroom3 HA1 HA HI HP
  go_wp2_with (fail)
  refine wRz ?_
  try simp only [lAz]
  refine tA 0 ?_;try simp only [lAz]
  refine tA 1 ?_;try simp only [lAz]
  refine tA 2 ?_;try simp only [lAz]
  refine tA 4 ?_;try simp only [lAz]
  refine wpAny_ready (rs:=[3,5]) (by kernel_rfl) (by simp) (aCz (λ K hK=>?_) (aCz (λ K hK=>?_) AllReady.nil))
  ·go_simp
   apply hK
   clear hK K
   refine rZz 5 λ K hK=>?_;go_simp;apply hK;clear hK K
   refine rZz 6 λ K hK=>?_;go_simp;apply hK;clear hK K
   refine wDz ?_
   go_wp2
   go_ret2
   exact HEnd.out
  ·go_simp
   apply hK
   clear hK K
   refine rZz 3 λ K hK=>?_;go_simp;apply hK;clear hK K
   refine rZz 6 λ K hK=>?_;go_simp;apply hK;clear hK K
   refine wDz ?_
   go_wp2
   go_ret2
   exact HEnd.out
 ·go_simp
  apply hK
  clear hK K
  refine rZz 1 λ K hK=>?_;go_simp
  (go_must (refine hN.out.mono ?_);rintro e w2 ⟨rfl,hb2⟩)
  go_simp
  apply hK
  clear hK K
  refine rZz 3 λ K hK=>?_;go_simp
  (go_must (refine (hS.out w2).mono ?_);rintro e w3 ⟨⟨t,rfl⟩,hb3⟩)
  go_simp
  apply hK
  clear hK K
  refine rZz 4 λ K hK=>?_;go_simp;apply hK;clear hK K
  try simp only [lAz]
  refine tA 5 ?_;try simp only [lAz]
  refine tA 6 ?_;try simp only [lAz]
  refine rZz 7 λ K hK=>?_;go_simp;apply hK;clear hK K
  refine rZz 8 λ K hK=>?_;go_simp;apply hK;clear hK K
  refine wDz ?_
  have hbT:=(hb2.trans (hb3.mono hb2.size))
  go_wp2_with (fail)
  have hbT':Below (w.alloc (.cells #[.int .i64 x.kind,.int .i64 x.next,strV x.body] 215)).heap.size (w.alloc (.cells #[.int .i64 x.kind,.int .i64 x.next,strV x.body] 215)) w3:=⟨hbT.os,hbT.tape,hbT.output,hbT.size,hbT.block⟩
  have bx3:=bx.below' hbT'
  have hlt3:=hbT'.size
  have hAt3:=HA1.out.below hbT'
  have hroom3:spare=[]->n+1<=most:=hnm
  go_must (refine (hT.out w3 hbT' hnm).mono ?_)
  rintro e w4 ⟨c',spare',rfl,hA4,hperm,hK4,hmb,hwb⟩
  have hEE:=hE.out w4 c' spare' hA4 hperm
  obtain ⟨q1,q2,q3,q4,q5⟩:=hEE
  have hlt4:=hK4.keeps.size
  have hbig:w.heap.size<w3.heap.size:=by simp at hlt3;omega
  have hnS:¬ c.S p w.heap.size:=λ hh=>by have:=HA.out.lt _ hh;omega
  have bx4:=bx3.keeps hK4.keeps hnS
  have gw7:w4.cell? ⟨p,7,none⟩=some (.map (some c'.wb)):=hA4.blk.cell 7
  have hdl:=λ ty=>run_delete_I hA4.wwas (P:=Tryz.prog) Tryz.underlying209 Tryz.underlying3 ty (nextI n spare)
  have hA5:=hA4.turnW (delE was (nextI n spare)) wc
  have gw5:(turn w4 c'.wb (delE was (nextI n spare)) wc).cell? ⟨p,5,none⟩=some (.map (some c'.mb)):=hA5.blk.cell 5
  have y0:(turn w4 c'.wb (delE was (nextI n spare)) wc).cell? ⟨w.heap.size,0,none⟩=some (.int .i64 x.kind):=(hA4.wwas.cell_turn _ _ _).trans (bx4.cell 0)
  have y1:(turn w4 c'.wb (delE was (nextI n spare)) wc).cell? ⟨w.heap.size,1,none⟩=some (.int .i64 x.next):=(hA4.wwas.cell_turn _ _ _).trans (bx4.cell 1)
  have y2:(turn w4 c'.wb (delE was (nextI n spare)) wc).cell? ⟨w.heap.size,2,none⟩=some (strV x.body):=(hA4.wwas.cell_turn _ _ _).trans (bx4.cell 2)
  have hup:=run_update_I hA5.drew.mad (P:=Tryz.prog) Tryz.underlying208 Tryz.underlying3 (nextI n spare) (pgV x)
  unfold pgV strB at hup
  have HEnd:Hid (MakeP p c most M made.length x w (.returned (.tuple #[.int .i64 (nextI n spare),.int .i64 0])) (turn (turn w4 c'.wb (delE was (nextI n spare)) wc).drew c'.mb (putE made (nextI n spare) (pgV x) mc) (clockE made (nextI n spare) mc))):=by
   have hk0:PgK p c c w w3:=⟨Keeps.of_below ((Below.refl _ w).alloc (Nat.le_refl _) _ |>.trans (hbT'.mono (by simp))),λ _ h=>.inl h,rfl,rfl,rfl⟩
   have hk5:PgK p c' c' w4 (turn w4 c'.wb (delE was (nextI n spare)) wc):=PgK.turn (.inr rfl) _ _
   have hk6:PgK p c' c' (turn w4 c'.wb (delE was (nextI n spare)) wc) (turn w4 c'.wb (delE was (nextI n spare)) wc).drew:=⟨(Keeps.refl _ _).drew,λ _ h=>.inl h,rfl,rfl,rfl⟩
   have hk7:PgK p c' c' (turn w4 c'.wb (delE was (nextI n spare)) wc).drew (turn (turn w4 c'.wb (delE was (nextI n spare)) wc).drew c'.mb (putE made (nextI n spare) (pgV x) mc) (clockE made (nextI n spare) mc)):=PgK.turn (.inl rfl) _ _
   exact ⟨nextI n spare,c',rfl,q4,q2,by omega,q5.below (Below.refl _ _).drew,(((hk0.trans hK4).trans hk5).trans hk6).trans hk7⟩
  unfold pgV strB at HEnd
  clear hmb hwb hA4 hA5 hK4 q1 q4 q5 hT hE hS hN hAt3 hbT hbT' hroom3 HA1 HA HI HP
  go_wp2_with (fail)
  refine wRz ?_
  try simp only [lAz]
  refine tA 0 ?_;try simp only [lAz]
  refine tA 1 ?_;try simp only [lAz]
  refine tA 2 ?_;try simp only [lAz]
  refine tA 4 ?_;try simp only [lAz]
  refine wpAny_ready (rs:=[3,5]) (by kernel_rfl) (by simp) (aCz (λ K hK=>?_) (aCz (λ K hK=>?_) AllReady.nil))
  ·go_simp
   apply hK
   clear hK K
   refine rZz 5 λ K hK=>?_;go_simp;apply hK;clear hK K
   refine rZz 6 λ K hK=>?_;go_simp;apply hK;clear hK K
   refine wDz ?_
   go_wp2
   go_ret2
   exact HEnd.out
  ·go_simp
   apply hK
   clear hK K
   refine rZz 3 λ K hK=>?_;go_simp;apply hK;clear hK K
   refine rZz 6 λ K hK=>?_;go_simp;apply hK;clear hK K
   refine wDz ?_
   go_wp2
   go_ret2
   exact HEnd.out
end
theorem load_var {w:World} {t:TypeId} {b:Nat} (vs:List Value) (hB:rowB0 Tryz.prog t vs.length=true) (h:∀ j u,vs[j]? = some u->w.cell? ⟨b,j,none⟩=some u):(loadVar t ⟨b,0,none⟩).run Tryz.prog w=.ok (.agg vs.toArray) w:=by
 have:=load_cells (w:=w) (t:=t) (b:=b) (o:=0) vs hB (λ j u hu=>by rw [Nat.zero_add];exact h j u hu)
 simpa only [Instr.loadAt,Instr.sureAddr,Sem.run_bind,Sem.run_pure,Result.andThen_ok] using this
theorem res_row {fn:Func} {p u:Tmp} {t:TypeId} {b:Nat} {tmps:Array Value} {w:World} {x:Value} (vs:List Value) (h:fn.results=#[.cell p t,.tmp u]) (hp:tmps.getD p undef=ptrV b) (hu:tmps.getD u undef=x) (hB:rowB0 Tryz.prog t vs.length=true) (hb:Blk w b t vs.toArray) :
  (results fn tmps).run Tryz.prog w=.ok (.tuple #[.agg vs.toArray,x]) w:=by
 rw [results_cell_tmp h,hp]
 have:=load_var (w:=w) (t:=t) (b:=b) vs hB (λ j v hj=>by rw [hb.cell j];simpa using hj)
 simp only [asAddr,Sem.run_pure,Result.andThen_ok,this,hu]
section
variable {p:Nat} {c:Pc} {most cnt:Nat} {M:Store}
theorem read_some (id:Int) (x:Pg) (w:World) (h:PgOk w p c most M cnt) (hx:M id=some x) :
  Calls Tryz.prog 188 #[ptrV p,.int .i64 id] w λ e w'=>e=.returned (.tuple #[.agg #[.int .i64 x.kind,.int .i64 x.next,strV x.body],.int .i64 0])/\Below w.heap.size w w':=by
 obtain ⟨n,made,was,mc,wc,dc,spare,hA,hI,hP,rfl⟩:=h
 have hk:id∈keysE made:=(hP.key id).2 (by rw [hx];rfl)
 have hr:=(hI.cover id).2 (.inl hk)
 obtain ⟨hr1,hr2⟩:=hr
 have hA1:=hA.alloc (.cells #[.int .i64 0,.int .i64 0,.string ⟨#[]⟩] 215)
 have g0:(w.alloc (.cells #[.int .i64 0,.int .i64 0,.string ⟨#[]⟩] 215)).cell? ⟨p,0,none⟩=some (ptrV c.d):=hA1.blk.cell 0
 have g3:(w.alloc (.cells #[.int .i64 0,.int .i64 0,.string ⟨#[]⟩] 215)).cell? ⟨p,3,none⟩=some (.int .i64 n):=hA1.blk.cell 3
 have g5:(w.alloc (.cells #[.int .i64 0,.int .i64 0,.string ⟨#[]⟩] 215)).cell? ⟨p,5,none⟩=some (.map (some c.mb)):=hA1.blk.cell 5
 have hl:=look_made hA1.mad hP id
 rw [hx] at hl
 simp only [Option.map_some,Option.getD_some,Option.isSome_some,pgV,strB] at hl
 clear hA hA1 hI hP hx hk
 go_enter Tryz.func188,Tryz.ntmps188
 go_wp2_with (fail)
 go_must (refine (pgNone_any _ _ _ g0).mono ?_)
 rintro e w1 ⟨rfl,rfl⟩
 go_wp2_with (fail)
 refine bodyPost_ret (res_row [.int .i64 x.kind,.int .i64 x.next,strV x.body] rfl rfl rfl (by kernel_rfl) (Blk.alloc (Blk.new _ _ _) _)) rfl ?_
 exact ⟨rfl,((Below.refl _ _).alloc (Nat.le_refl _) _).alloc (by simp) _⟩
end
section
variable {p:Nat} {c:Pc} {most cnt:Nat} {M:Store}
theorem back_any {n:Nat} {made was:List Ent} {mc wc dc:Nat} {spare:List Int} (id:Int) (w:World) (h:PgAt w p c most n n made was mc wc dc spare) (h2:2<=id) (hs:spare.length<=700000) :
  Calls Tryz.prog 190 #[ptrV p,.int .i64 id] w λ e w'=>e=.returned (.tuple #[])/\∃ v' ys,Pl w' c.sb v' ys/\ys.Perm (id :: spare)/\PlK c.sb c.sv v' w w':=by
 have g2:w.cell? ⟨p,2,none⟩=some (.int .i64 2):=h.blk.cell 2
 have g8:w.cell? ⟨p,8,none⟩=some (ptrV c.sb):=h.blk.cell 8
 have h2':¬ id<2:=by omega
 have bn:Blk (w.alloc (.cells #[.int .i64 id] 3)) w.heap.size 3 #[.int .i64 id]:=Blk.new _ _ _
 have hsl:Sl (w.alloc (.cells #[.int .i64 id] 3)) 1 (.slice (some ⟨w.heap.size,0,none⟩) 1 1) 1 (intsV [id]):=by
  refine ⟨_,_,rfl,Nat.le_refl _,rfl,λ _=>⟨w.heap.size,0,rfl,by simp,λ j u hu=>?_⟩⟩
  rw [Nat.zero_add,bn.cell j]
  cases j with
  | zero=>cases hu;rfl
  | succ j=>simp [intsV] at hu
 have hlt:=h.lt
 have hP:=Hdz (pilePut_any c.sb c.sv spare [id] (some ⟨w.heap.size,0,none⟩) 1 1 _ (h.alloc (.cells #[.int .i64 id] 3)).spr hsl (by
  intro a ha
  cases ha
  rintro (e | e)
  ·have:=hlt c.sb (.inl (by simp [Pc.ids]));have e':w.heap.size=c.sb:=e;omega
  ·have:=hlt w.heap.size (.inr (.inl e));omega) (by omega))
 have HB:Hid (∀ (v':Value) (w':World),PlK c.sb c.sv v' (w.alloc (.cells #[.int .i64 id] 3)) w'->PlK c.sb c.sv v' w w'):=(λ v' w' hk=>by
  refine ⟨((Keeps.refl _ w).alloc _).trans hk.1 (λ _ _ h=>h),λ k hk'=>?_⟩
  rcases hk.2 k hk' with h1 | h1
  ·exact .inl h1
  ·rw [alloc_size1] at h1;exact .inr (by omega))
 clear h hsl bn
 go_enter Tryz.func190,Tryz.ntmps190
 go_wp2_with (fail)
 go_must (refine hP.out.mono ?_)
 rintro e w1 ⟨rfl,v',ys,h3,h4,h5⟩
 go_wp2_with (fail)
 refine bodyPost_end (results_none rfl _ _ _) rfl ?_
 exact ⟨rfl,v',ys,h3,h4,HB.out _ _ h5⟩
def DropP (p:Nat) (c:Pc) (most:Nat) (M:Store) (cnt:Nat) (id:Int) (w:World) (e:Ending) (w':World):Prop:=
 e=.returned (.int .i64 0)/\∃ c',PgOk w' p c' most (updS M id none) (cnt-1)/\PgK p c c' w w'
theorem drop_any (id:Int) (x:Pg) (w:World) (h:PgOk w p c most M cnt) (hx:M id=some x) :
  Calls Tryz.prog 137 #[ptrV p,.int .i64 id] w (DropP p c most M cnt id w):=by
 have hRd:=Hdz (read_some id x w h hx)
 obtain ⟨n,made,was,mc,wc,dc,spare,hA,hI,hP,rfl⟩:=h
 have hcount:=hI.count
 obtain ⟨hsm1,hsm2⟩:=hA.dev.small
 have hsl:spare.length<=700000:=by omega
 have hk:id∈keysE made:=(hP.key id).2 (by rw [hx];rfl)
 have h2:=((hI.cover id).2 (.inl hk)).1
 have hgm:getE made id=some (pgV x):=by rw [hP id,hx];rfl
 have HA:=Hdz hA
 have HI:=Hdz hI
 have HP:=Hdz hP
 have hOwn:=Hdz (λ W (hW:PgAt W p c most n n made was mc wc dc spare)=>own_any id W hW hP)
 have HX:=Hdz hx
 have HG:=Hdz hgm
 clear hA hI hP hx hk hcount hgm
 go_enter Tryz.func137,Tryz.ntmps137
 go_wp2_with (fail)
 go_must (refine hRd.out.mono ?_)
 rintro e w1 ⟨rfl,hb1⟩
 go_wp2_with (fail)
 have hA1:=(HA.out.below hb1).alloc (.cells #[.int .i64 x.kind,.int .i64 x.next,strV x.body] 215)
 have hO:=hOwn.out _ hA1
 rw [HX.out] at hO
 simp only [Option.isSome_some] at hO
 go_must (refine hO.mono ?_)
 rintro e w2 ⟨rfl,hb2⟩
 have hA2:=hA1.below hb2
 have g5:w2.cell? ⟨p,5,none⟩=some (.map (some c.mb)):=hA2.blk.cell 5
 have hdl:=λ ty=>run_delete_I hA2.mad (P:=Tryz.prog) Tryz.underlying208 Tryz.underlying3 ty id
 have hA3:=hA2.turnM (delE made id) mc (hA2.clk.del _)
 have g7:(turn w2 c.mb (delE made id) mc).cell? ⟨p,7,none⟩=some (.map (some c.wb)):=hA3.blk.cell 7
 have hup:=run_update_I hA3.wwas (P:=Tryz.prog) Tryz.underlying209 Tryz.underlying3 id (.agg #[])
 have hA4:=hA3.turnW (putE was id (.agg #[]) wc) (clockE was id wc)
 have hB:=Hdz (back_any id _ hA4 h2 hsl)
 have hbb:Below w.heap.size w w2:=(hb1.alloc hb1.size _).trans (hb2.mono (by have:=hb1.size;simp;omega))
 have HEnd:Hid (∀ w5 v' ys,Pl w5 c.sb v' ys->ys.Perm (id :: spare)->PlK c.sb c.sv v' (turn (turn w2 c.mb (delE made id) mc) c.wb (putE was id (.agg #[]) wc) (clockE was id wc)) w5->DropP p c most M made.length id w (.returned (.int .i64 0)) w5):=by
  intro w5 v' ys q1 q2 q3
  refine ⟨rfl,{ c with sv:=v' },⟨n,_,_,_,_,_,ys,hA4.pile q1 q3,HI.out.drop HG.out q2 wc,HP.out.del HI.out.nodM id,?_⟩,?_⟩
  ·have:=len_del HG.out;omega
  ·exact (((PgK.of_below hbb).trans (PgK.turn (.inl rfl) _ _)).trans (PgK.turn (.inr rfl) _ _)).trans (PgK.pile q3)
 clear hA1 hA2 hA3 hA4 HA HI HP hOwn HX HG hRd
 go_wp2_with (fail)
 go_must (refine hB.out.mono ?_)
 rintro e w5 ⟨rfl,v',ys,q1,q2,q3⟩
 go_wp2_with (fail)
 go_ret
 exact HEnd.out _ _ _ q1 q2 q3
end
theorem ChainAt.pos {M:Store} {id:Int} {v:Bytes} {ids:List Int} (h:ChainAt M id v ids):1<=v.length:=by
 cases h with
 | last _ h1 _=>exact h1
 | more _ h1 _ _=>rw [List.length_append];omega
theorem ChainAt.head {M:Store} {id:Int} {v:Bytes} {ids:List Int} (h:ChainAt M id v ids) :
  (M id=some ⟨4,0,v⟩/\v.length<=240/\ids=[id])\/∃ next b rest r,M id=some ⟨4,next,b⟩/\b.length=240/\next≠0/\v=b++rest/\ids=id :: r/\ChainAt M next rest r:=by
 cases h with
 | last h1 h2 h3=>exact .inl ⟨h1,h3,rfl⟩
 | more h1 h2 h3 h4=>exact .inr ⟨_,_,_,_,h1,h2,h3,rfl,rfl,h4⟩
theorem bd_len {w:World} {B b:Nat} {F:Option Nat} {l:Bytes} (h:Bd w B b F l) :
  Calls Tryz.prog 143 #[.pointer (some ⟨b,0,none⟩)] w λ e w'=>e=.returned (.int .i64 l.length)/\w=w':=by
 obtain ⟨hB,p,v,hp,hbk,hown,hF,hne⟩:=h
 obtain ⟨A,n,c,rfl⟩:∃ A n c,v=.slice A n c:=by
  rcases hown.2 with ⟨rfl,_⟩ | ⟨g,cap,cur,fz,rfl,_⟩
  ·exact ⟨_,_,_,rfl⟩
  ·exact ⟨_,_,_,rfl⟩
 have hn:n=l.length:=by
  rcases hown.2 with ⟨h1,h2⟩ | ⟨g,cap,cur,fz,h1,_⟩
  ·simp only [Value.slice.injEq] at h1;omega
  ·simp only [Value.slice.injEq] at h1;exact h1.2.1
 have c1:w.cell? ⟨b,1,none⟩=some (.slice A n c):=by rw [cell_of_row w b 1 _ _ (0,0) hbk];rfl
 go_enter Tryz.func143,Tryz.ntmps143
 go_wp2
 go_ret
 exact ⟨rfl,rfl⟩
theorem own_not_bd {w:World} {B b base n:Nat} {F:Option Nat} {l:Bytes} {v:Value} {xs:List Value} (h:Bd w B b F l) (ho:w.ownsRow base 3 1 v n xs):∀ k,v.ownBlock=some k->¬ BdS b F k:=by
 intro k hk
 rcases ho.2 with ⟨rfl,_⟩ | ⟨g,cap,cur,rfl,_,hg,_⟩
 ·cases hk
 ·simp only [Value.ownBlock,Option.some.injEq] at hk
  subst hk
  rintro (e | e)
  ·obtain ⟨_,p,v,_,hbk,_⟩:=h
   rw [e,hbk] at hg
   simp at hg
  ·obtain ⟨_,p,v,_,hbk,hown,hF,_⟩:=h
   rw [<- hF] at e
   rcases hown.2 with ⟨rfl,_⟩ | ⟨g',cap',cur',fz,rfl,_,hg',_⟩
   ·cases e
   ·simp only [Value.ownBlock,Option.some.injEq] at e
    rw [e,hg'] at hg
    simp at hg
section
variable {p:Nat} {c:Pc} {most cnt:Nat} {M:Store}
def WalkP (v:Bytes) (ids:List Int) (w:World) (e:Ending) (w':World):Prop:=∃ r,e=.returned (.tuple #[r,strV v,.int .i64 0])/\w'.ownsRow w.heap.size 3 1 r ids.length (intsV ids)/\Below w.heap.size w w'
theorem walk_ok (id:Int) (v:Bytes) (ids:List Int) (w:World) (h:PgOk w p c most M cnt) (hc:ChainAt M id v ids) (hv:v.length<=2000) (hidsl:ids.length<=2000) :
  Calls Tryz.prog 227 #[ptrV p,.int .i64 id,.int .i64 v.length] w (WalkP v ids w):=by
 obtain ⟨i0,hi,hz0,hz1,hz2⟩:=info_parts infoInt
 have hpos:=hc.pos
 have hnl:¬ ((v.length:Int)<1):=by omega
 have hnm:¬ (2000<(v.length:Int)):=by omega
 go_enter Tryz.func227,Tryz.ntmps227
 go_wp2
 go_loopg [9,11] ids.length (λ gk s9 s11 wr=>∃ (done rest:Bytes) (d1 r1:List Int) (cur:Int) (F:Option Nat),s11=.int .i64 cur/\r1.length<=gk/\Hid (v=done++rest)/\Hid (ids=d1++r1)/\Hid (ChainAt M cur rest r1)/\Bd wr w.heap.size w.heap.size F done/\wr.ownsRow w.heap.size 3 1 s9 d1.length (intsV d1)/\Below w.heap.size w wr)
 case atStart=>exact ⟨[],v,[],ids,id,none,rfl,Nat.le_refl _,rfl,rfl,hc,Bd.new w,World.ownsRow_nil _ _ _ _,(Below.refl _ _).alloc (Nat.le_refl _) _⟩
 case round =>
  obtain ⟨done,rest,d1,r1,cur,F,rfl,hg,hv1,hi1,hc1,hB,hown,hb⟩:=hrel
  have hpg:=h.below hb
  have hBlt:=hB.lt
  rcases hc1.out.head with ⟨hm,hle0,hids⟩ | ⟨next,bs,rest',r,hm,hbl,hn0,hrest,hids,hc2⟩
  ·clear hc1
   have hne:done++rest≠[]:=by intro e;have:=congrArg List.length e;rw [<- hv1.out,List.length_nil] at this;omega
   have HIds:Hid (ids=d1++[cur]):=by show _=_;rw [hi1.out,hids]
   have HX:=Hdz (read_some cur ⟨4,0,rest⟩ wr hpg hm)
   have hz:=hb.size
   have hvl:v.length=done.length+rest.length:=by rw [hv1.out,List.length_append]
   have hil:ids.length=d1.length+r1.length:=by rw [hi1.out,List.length_append]
   have hr1p:1<=r1.length:=by rw [hids];simp
   have hidl:ids.length<=2000:=hidsl
   have e1:(v.length:Int)-(done.length:Int)=(rest.length:Int):=by omega
   have hBl:done.length<=2000:=by omega
   have hd1:d1.length<=2000:=by omega
   have hdr:done.length+rest.length<=2000:=by omega
   have e2:min (rest.length:Int) 240=(rest.length:Int):=by omega
   have hle:(rest.length:Int)<=240:=by omega
   have HV:=Hdz hv1
   have hvlB:=Hdz hvl
   have hilB:=Hdz hil
   clear hm hvl hil hids
   go_wp2_with (fail)
   go_must (refine HX.out.mono ?_)
   rintro e w1 ⟨rfl,hb1⟩
   have hs1:=hb1.size
   have hsw1:w.heap.size<=w1.heap.size:=by omega
   have hB1:=(hB.below hb1).alloc (.cells #[.int .i64 4,.int .i64 0,strV rest] 215)
   have own1:=(own_below hown hb1).alloc (.cells #[.int .i64 4,.int .i64 0,strV rest] 215)
   have bx1:Blk (w1.alloc (.cells #[.int .i64 4,.int .i64 0,strV rest] 215)) w1.heap.size 215 #[.int .i64 4,.int .i64 0,strV rest]:=Blk.new _ _ _
   have x0:(w1.alloc (.cells #[.int .i64 4,.int .i64 0,strV rest] 215)).cell? ⟨w1.heap.size,0,none⟩=some (.int .i64 4):=bx1.cell 0
   have x1:(w1.alloc (.cells #[.int .i64 4,.int .i64 0,strV rest] 215)).cell? ⟨w1.heap.size,1,none⟩=some (.int .i64 0):=bx1.cell 1
   have x2:(w1.alloc (.cells #[.int .i64 4,.int .i64 0,strV rest] 215)).cell? ⟨w1.heap.size,2,none⟩=some (strV rest):=bx1.cell 2
   have hbW:Below w.heap.size w (w1.alloc (.cells #[.int .i64 4,.int .i64 0,strV rest] 215)):=(hb.trans (hb1.mono hz)).alloc (by omega) _
   go_wp2_with (fail)
   go_must (refine (bd_len hB1).mono ?_)
   rintro e w2 ⟨rfl,rfl⟩
   go_wp2_with (fail)
   go_must (refine (bw_string hB1 rest (by omega) (by simp;omega)).mono ?_)
   rintro e w3 ⟨rfl,⟨F3,hB3⟩,K3⟩
   have own3:=own_keeps own1 K3 (own_not_bd hB1 own1)
   have hbb3:w1.heap.size≠w.heap.size:=by omega
   have bx3:=bx1.keeps K3 (hB1.not bx1 (by decide) hbb3)
   have x31:w3.cell? ⟨w1.heap.size,1,none⟩=some (.int .i64 0):=bx3.cell 1
   have hbW3:Below w.heap.size w w3:=hbW.trans (hB1.below_of K3 (by simp;omega))
   have hs3:=hbW3.size
   have hbx:=bx3.lt
   go_wp2_with (at_builtin;go_must (refine wpList_append_own _ rfl _ _ 35 rfl w.heap.size 3 i0 _ 1 8 Tryz.underlying35 hi hz0 hz1 hz2 rfl (by decide) _ d1.length (intsV d1) rfl (own3.alloc _) ⟨w3.heap.size,0,none⟩ 1 1 [.int .i64 cur] rfl rfl (row_newS _ _ _ _ rfl) (by simp [Value.oneCell']) (by unfold maxLen;omega) (by omega) (by simp;omega) ?_))
   intro v4 w4 own4 hg4 _
   have K4:Keeps (λ k=>_=some k) w3 w4:=((Keeps.refl (λ k=>_=some k) _).alloc _).grown hg4 (λ k hk _=>hk)
   have hB4:=hB3.keeps K4 (λ e=>own_not_bd hB3 own3 _ e (.inl rfl)) (λ k hk e=>own_not_bd hB3 own3 _ e (.inr hk.symm))
   have bx4:=bx3.keeps K4 (λ e=>own_ne own3 bx3 (by decide) _ e rfl)
   have x41:w4.cell? ⟨w1.heap.size,1,none⟩=some (.int .i64 0):=bx4.cell 1
   have hbW4:Below w.heap.size w w4:=hbW3.trans (K4.below hs3 (λ i hi hk=>by have:=(own3.lt i hk).1;omega))
   have own4':w4.ownsRow w.heap.size 3 1 v4 (d1++[cur]).length (intsV (d1++[cur])):=by rw [intsV_snoc,List.length_append];exact own4
   have HO4:=Hdz own4'
   clear own4 own4'
   go_wp2_with (fail)
   go_must (refine (bw_text_ne hB4 hne).mono ?_)
   rintro e w5 ⟨rfl,_,K5⟩
   go_wp2_with (fail)
   refine bodyPost_ret (v:=.tuple #[v4,strV (done++rest),.int .i64 0]) (by simp [results,Tryz.results227,go_sem]) rfl ?_
   have own5:=own_keeps HO4.out K5 (own_not_bd hB4 HO4.out)
   refine ⟨v4,by rw [HV.out],?_,hbW4.trans (hB4.below_of K5 hbW4.size)⟩
   rw [HIds.out]
   exact own5
  ·have hrp:=hc2.pos
   have HC2:=Hdz hc2
   have hrl:rest.length=bs.length+rest'.length:=by rw [hrest,List.length_append]
   have HI2:Hid (ids=(d1++[cur])++r):=by show _=_;rw [hi1.out,hids];simp
   have hv1:Hid (v=done++(bs++rest')):=by show _=_;rw [hv1.out,hrest]
   have hrr:r.length<gk:=by rw [hids] at hg;simp at hg;omega
   have hrl2:rest.length=240+rest'.length:=by omega
   subst hrest
   obtain ⟨rl,hrl3,hrl4⟩:∃ rl,rl<=(bs++rest').length/\(bs++rest').length<=rl:=⟨_,Nat.le_refl _,Nat.le_refl _⟩
   clear hc1 hc2 hrl
   have HX:=Hdz (read_some cur ⟨4,next,bs⟩ wr hpg hm)
   have hz:=hb.size
   have hvl:v.length=done.length+(bs++rest').length:=by rw [hv1.out,List.length_append]
   have hil:ids.length=d1.length+r1.length:=by rw [hi1.out,List.length_append]
   have hr1p:1<=r1.length:=by rw [hids];simp
   have hidl:ids.length<=2000:=hidsl
   have e1:(v.length:Int)-(done.length:Int)=(rl:Int):=by omega
   have hBl:done.length<=2000:=by omega
   have hd1:d1.length<=2000:=by omega
   have hdr:done.length+bs.length<=2000:=by omega
   have e2:min (rl:Int) 240=240:=by omega
   have e3:(bs.length:Int)=240:=by omega
   have hle:¬ (rl:Int)<=240:=by omega
   have hnx:(next==0)=false:=by simpa using hn0
   have HV:=Hdz hv1
   have hvlB:=Hdz hvl
   have hrlB:=Hdz hrl2
   clear hrl2 hrl3 hrl4
   have hilB:=Hdz hil
   clear hm hvl hil hids
   go_wp2_with (fail)
   go_must (refine HX.out.mono ?_)
   rintro e w1 ⟨rfl,hb1⟩
   have hs1:=hb1.size
   have hsw1:w.heap.size<=w1.heap.size:=by omega
   have hB1:=(hB.below hb1).alloc (.cells #[.int .i64 4,.int .i64 next,strV bs] 215)
   have own1:=(own_below hown hb1).alloc (.cells #[.int .i64 4,.int .i64 next,strV bs] 215)
   have bx1:Blk (w1.alloc (.cells #[.int .i64 4,.int .i64 next,strV bs] 215)) w1.heap.size 215 #[.int .i64 4,.int .i64 next,strV bs]:=Blk.new _ _ _
   have x0:(w1.alloc (.cells #[.int .i64 4,.int .i64 next,strV bs] 215)).cell? ⟨w1.heap.size,0,none⟩=some (.int .i64 4):=bx1.cell 0
   have x1:(w1.alloc (.cells #[.int .i64 4,.int .i64 next,strV bs] 215)).cell? ⟨w1.heap.size,1,none⟩=some (.int .i64 next):=bx1.cell 1
   have x2:(w1.alloc (.cells #[.int .i64 4,.int .i64 next,strV bs] 215)).cell? ⟨w1.heap.size,2,none⟩=some (strV bs):=bx1.cell 2
   have hbW:Below w.heap.size w (w1.alloc (.cells #[.int .i64 4,.int .i64 next,strV bs] 215)):=(hb.trans (hb1.mono hz)).alloc (by omega) _
   go_wp2_with (fail)
   go_must (refine (bd_len hB1).mono ?_)
   rintro e w2 ⟨rfl,rfl⟩
   go_wp2_with (fail)
   go_must (refine (bw_string hB1 bs (by omega) (by simp;omega)).mono ?_)
   rintro e w3 ⟨rfl,⟨F3,hB3⟩,K3⟩
   have own3:=own_keeps own1 K3 (own_not_bd hB1 own1)
   have hbb3:w1.heap.size≠w.heap.size:=by omega
   have bx3:=bx1.keeps K3 (hB1.not bx1 (by decide) hbb3)
   have x31:w3.cell? ⟨w1.heap.size,1,none⟩=some (.int .i64 next):=bx3.cell 1
   have hbW3:Below w.heap.size w w3:=hbW.trans (hB1.below_of K3 (by simp;omega))
   have hs3:=hbW3.size
   have hbx:=bx3.lt
   go_wp2_with (at_builtin;go_must (refine wpList_append_own _ rfl _ _ 35 rfl w.heap.size 3 i0 _ 1 8 Tryz.underlying35 hi hz0 hz1 hz2 rfl (by decide) _ d1.length (intsV d1) rfl (own3.alloc _) ⟨w3.heap.size,0,none⟩ 1 1 [.int .i64 cur] rfl rfl (row_newS _ _ _ _ rfl) (by simp [Value.oneCell']) (by unfold maxLen;omega) (by omega) (by simp;omega) ?_))
   intro v4 w4 own4 hg4 _
   have K4:Keeps (λ k=>_=some k) w3 w4:=((Keeps.refl (λ k=>_=some k) _).alloc _).grown hg4 (λ k hk _=>hk)
   have hB4:=hB3.keeps K4 (λ e=>own_not_bd hB3 own3 _ e (.inl rfl)) (λ k hk e=>own_not_bd hB3 own3 _ e (.inr hk.symm))
   have bx4:=bx3.keeps K4 (λ e=>own_ne own3 bx3 (by decide) _ e rfl)
   have x41:w4.cell? ⟨w1.heap.size,1,none⟩=some (.int .i64 next):=bx4.cell 1
   have hbW4:Below w.heap.size w w4:=hbW3.trans (K4.below hs3 (λ i hi hk=>by have:=(own3.lt i hk).1;omega))
   have own4':w4.ownsRow w.heap.size 3 1 v4 (d1++[cur]).length (intsV (d1++[cur])):=by rw [intsV_snoc,List.length_append];exact own4
   have HO4:=Hdz own4'
   clear own4 own4'
   go_wp2_with (fail)
   go_roundg r.length
   case measure=>omega
   case rel=>exact ⟨done++bs,rest',d1++[cur],r,next,F3,rfl,Nat.le_refl _,by show _=_;rw [HV.out];simp,HI2,HC2,hB4,HO4.out,hbW4⟩
end
section
variable {p:Nat} {c:Pc} {most cnt:Nat} {M:Store}
theorem overPages_ok (id:Int) (v:Bytes) (ids:List Int) (w:World) (h:PgOk w p c most M cnt) (hc:ChainAt M id v ids) (hv:v.length<=2000) (hidsl:ids.length<=2000) :
  Calls Tryz.prog 196 #[ptrV p,.int .i64 id,.int .i64 v.length] w λ e w'=>∃ r,e=.returned (.tuple #[r,.int .i64 0])/\w'.ownsRow w.heap.size 3 1 r ids.length (intsV ids)/\Below w.heap.size w w':=by
 have hW:=Hdz (walk_ok id v ids w h hc hv hidsl)
 clear h hc
 go_enter Tryz.func196,Tryz.ntmps196
 go_wp2_with (fail)
 go_must (refine hW.out.mono ?_)
 rintro e w1 ⟨r,rfl,hown,hb⟩
 go_wp2_with (fail)
 go_ret2
 exact ⟨r,rfl,hown,hb⟩
theorem overGet_ok (id:Int) (v:Bytes) (ids:List Int) (w:World) (h:PgOk w p c most M cnt) (hc:ChainAt M id v ids) (hv:v.length<=2000) (hidsl:ids.length<=2000) :
  Calls Tryz.prog 186 #[ptrV p,.int .i64 id,.int .i64 v.length] w λ e w'=>e=.returned (.tuple #[strV v,.int .i64 0])/\Below w.heap.size w w':=by
 have hW:=Hdz (walk_ok id v ids w h hc hv hidsl)
 clear h hc
 go_enter Tryz.func186,Tryz.ntmps186
 go_wp2_with (fail)
 go_must (refine hW.out.mono ?_)
 rintro e w1 ⟨r,rfl,hown,hb⟩
 go_wp2_with (fail)
 go_ret2
 exact ⟨rfl,hb⟩
end
theorem extract_take (b:Bytes) (k:Nat):(ByteArray.mk b.toArray).extract 0 k=⟨(b.take k).toArray⟩:=by
 rw [ByteArray.extract_mk,List.drop_zero,Nat.sub_zero]
def cutB (v:Bytes):List Bytes:=if h:240<v.length then v.take 240 :: cutB (v.drop 240) else if v=[] then [] else [v]
termination_by v.length
decreasing_by rw [List.length_drop];omega
def strsV (l:List Bytes):List Value:=l.map strV
theorem strsV_snoc (l:List Bytes) (x:Bytes):strsV (l++[x])=strsV l++[strV x]:=by simp [strsV]
def CutP (v:Bytes) (w:World) (e:Ending) (w':World):Prop:=∃ r,e=.returned r/\w'.ownsRow w.heap.size 9 1 r (cutB v).length (strsV (cutB v))/\Below w.heap.size w w'
theorem cut_any (v:Bytes) (w:World) (hv:v.length<=100000) :
  Calls Tryz.prog 233 #[strV v] w (CutP v w):=by
 obtain ⟨i0,hi,hz0,hz1,hz2⟩:=info_parts infoStr
 go_enter Tryz.func233,Tryz.ntmps233
 go_wp2
 go_loopg [0,3] v.length (λ gk s0 s3 wr=>∃ (done:List Bytes) (rest:Bytes),s0=strV rest/\rest.length<=gk/\rest.length+done.length<=v.length/\Hid (cutB v=done++cutB rest)/\wr.ownsRow w.heap.size 9 1 s3 done.length (strsV done)/\Below w.heap.size w wr)
 case atStart=>exact ⟨[],v,rfl,Nat.le_refl _,by simp,rfl,World.ownsRow_nil _ _ _ _,Below.refl _ _⟩
 case round =>
  obtain ⟨done,rest,rfl,hg,hsum,hcut,hown,hb⟩:=hrel
  have hz:=hb.size
  by_cases hlt:240<rest.length
  ·have hlt':(240:Int)<(rest.length:Int):=by omega
   have hle:(240:Int)<=(rest.length:Int):=by omega
   have hc2:Hid (cutB v=(done++[rest.take 240])++cutB (rest.drop 240)):=by
    show _=_
    rw [hcut.out,cutB,dif_pos hlt]
    simp
   have hx1:=extract_take rest 240
   have hx2:=extract_drop rest 240
   have hm1:done.length+1<=maxLen:=by unfold maxLen;omega
   go_wp2_with (at_builtin;go_must (refine wpList_append_own _ rfl _ _ 40 rfl w.heap.size 9 i0 _ 1 16 Tryz.underlying40 hi hz0 hz1 hz2 rfl (by decide) _ done.length (strsV done) rfl (hown.alloc _) ⟨wr.heap.size,0,none⟩ 1 1 [strV (rest.take 240)] rfl rfl (row_newS _ _ _ _ rfl) (by simp [Value.oneCell',strV]) hm1 (by omega) (by simp;omega) ?_))
   intro v4 w4 own4 hg4 _
   have hbW:Below w.heap.size w w4:=(hb.alloc hz _).grown hg4 (by simp;omega) (λ k hk=>(hown.lt k hk).1)
   have HO:Hid (w4.ownsRow w.heap.size 9 1 v4 (done++[rest.take 240]).length (strsV (done++[rest.take 240]))):=by
    show World.ownsRow _ _ _ _ _ _ _
    rw [strsV_snoc,List.length_append]
    exact own4
   clear own4 hg4
   go_wp2_with (fail)
   go_roundg (rest.length-240)
   case measure=>omega
   case rel=>exact ⟨done++[rest.take 240],rest.drop 240,rfl,by rw [List.length_drop];omega,by rw [List.length_drop,List.length_append,List.length_singleton];omega,hc2,HO.out,hbW⟩
  ·have hlt':¬ (240:Int)<(rest.length:Int):=by omega
   by_cases he:rest=[]
   ·subst he
    have hc2:Hid (cutB v=done):=by show _=_;rw [hcut.out,cutB];simp
    clear hcut
    go_wp2
    go_ret
    exact ⟨_,rfl,by rw [hc2.out];exact hown,hb⟩
   ·have hc2:Hid (cutB v=done++[rest]):=by show _=_;rw [hcut.out,cutB,dif_neg hlt,if_neg he]
    have he1:(!rest.isEmpty)=true:=by simp [he]
    have he2:rest.isEmpty=false:=by simp [he]
    have hpl:1<=rest.length:=by
     cases rest with
     | nil=>exact absurd rfl he
     | cons _ _=>simp
    have hm1:done.length+1<=maxLen:=by unfold maxLen;omega
    clear hcut he
    go_wp2_with (at_builtin;go_must (refine wpList_append_own _ rfl _ _ 40 rfl w.heap.size 9 i0 _ 1 16 Tryz.underlying40 hi hz0 hz1 hz2 rfl (by decide) _ done.length (strsV done) rfl (hown.alloc _) ⟨wr.heap.size,0,none⟩ 1 1 [strV rest] rfl rfl (row_newS _ _ _ _ rfl) (by simp [Value.oneCell',strV]) hm1 (by omega) (by simp;omega) ?_))
    intro v4 w4 own4 hg4 _
    have hbW:Below w.heap.size w w4:=(hb.alloc hz _).grown hg4 (by simp;omega) (λ k hk=>(hown.lt k hk).1)
    have HO:Hid (w4.ownsRow w.heap.size 9 1 v4 (done++[rest]).length (strsV (done++[rest]))):=by
     show World.ownsRow _ _ _ _ _ _ _
     rw [strsV_snoc,List.length_append]
     exact own4
    clear own4 hg4
    go_wp2_with (fail)
    go_ret
    exact ⟨_,rfl,by rw [hc2.out];exact HO.out,hbW⟩
abbrev leafV (v:Value):Value:=.agg #[.bool true,v,.slice none 0 0]
abbrev branchV (v:Value):Value:=.agg #[.bool false,.slice none 0 0,v]
def OwnsI (w:World) (base:Nat) (v:Value) (l:List Item):Prop:=w.ownsRow base 223 4 v l.length (itemsCs l)
theorem node_box {w:World} {b:Nat} {u0 u1 u2:Value} (h:Blk w b 285 #[u0,u1,u2]) (x y z:Value) :
  w.cell? ⟨b,0,none⟩=some u0/\w.cell? ⟨b,1,none⟩=some u1/\w.cell? ⟨b,2,none⟩=some u2/\w.frozen? ⟨b,0,none⟩=false/\w.frozen? ⟨b,1,none⟩=false/\w.frozen? ⟨b,2,none⟩=false/\Blk (((w.setCell ⟨b,0,none⟩ x).setCell ⟨b,1,none⟩ y).setCell ⟨b,2,none⟩ z) b 285 #[x,y,z]:=
 ⟨h.cell 0,h.cell 1,h.cell 2,h.frozen 0,h.frozen 1,h.frozen 2,((h.set 0 x).set 1 y).set 2 z⟩
theorem node_keeps (w:World) (b:Nat) (x y z:Value):Keeps (λ k=>k=b) w (((w.setCell ⟨b,0,none⟩ x).setCell ⟨b,1,none⟩ y).setCell ⟨b,2,none⟩ z):=
 (((Keeps.refl (λ k=>k=b) w).setCell (p:=⟨b,0,none⟩) (λ _=>rfl) x).setCell (p:=⟨b,1,none⟩) (λ _=>rfl) y).setCell (p:=⟨b,2,none⟩) (λ _=>rfl) z
theorem node_leaf (items:List Item) (next:Int) (w:World) (hr:riseI items=true) (hs:(layI items).length<=240) :
  Calls Tryz.prog 225 #[.agg #[.int .i64 2,.int .i64 next,strV (layI items)]] w λ e w'=>∃ v,e=.returned (.tuple #[leafV v,.bool true])/\OwnsI w' w.heap.size v items/\Below w.heap.size w w':=by
 have hG:=λ W=>getI_any (layI items) W (by omega)
 unfold GetPost at hG
 rw [getI_put hr hs] at hG
 have HG:=Hdz hG
 have bx:Blk (w.alloc (.cells #[.int .i64 2,.int .i64 next,strV (layI items)] 215)) w.heap.size 215 #[.int .i64 2,.int .i64 next,strV (layI items)]:=Blk.new _ _ _
 have x0:(w.alloc (.cells #[.int .i64 2,.int .i64 next,strV (layI items)] 215)).cell? ⟨w.heap.size,0,none⟩=some (.int .i64 2):=bx.cell 0
 clear hG hr
 go_enter Tryz.func225,Tryz.ntmps225
 go_wp2_with (fail)
 go_must (refine (HG.out _).mono ?_)
 rintro e w1 ⟨v,rfl,hown,hb1⟩
 obtain ⟨A,c,rfl,_⟩:=Sl.of_own hown
 have bn:Blk ((w.alloc (.cells #[.int .i64 2,.int .i64 next,strV (layI items)] 215)).alloc (.cells #[.bool false,.slice none 0 0,.slice none 0 0] 285)) (w.heap.size+1) 285 #[.bool false,.slice none 0 0,.slice none 0 0]:=Blk.new' (by simp)
 obtain ⟨c0,c1,c2,f0,f1,f2,hbn⟩:=node_box (Blk.below' bn hb1) (.bool true) (.slice A items.length c) (.slice none 0 0)
 have hs1:=hb1.size
 simp at hs1
 have hlt:=λ k hk=>(hown.lt k hk).1
 simp only [alloc_size1] at hlt
 have hK:=node_keeps w1 (w.heap.size+1) (.bool true) (.slice A items.length c) (.slice none 0 0)
 have HO:=Hdz (own_keeps hown hK (λ k hk e=>by have:=hlt k hk;omega))
 have hbW:Below w.heap.size w w1:=(((Below.refl _ w).alloc (Nat.le_refl _) _).alloc (by simp) _).trans (hb1.mono (by simp;omega))
 have HB:=Hdz (hbW.trans (hK.below (by omega) (λ i hi e=>by omega)))
 clear hown hlt hK
 go_wp2_with (fail)
 refine bodyPost_ret (res_row [.bool true,.slice A items.length c,.slice none 0 0] rfl rfl rfl (by kernel_rfl) hbn) rfl ?_
 exact ⟨_,rfl,own_base HO.out (by simp;omega),HB.out⟩
theorem node_branch (L:List Child) (next:Int) (w:World) (hr:rightC L=true) (hs:(layC L).length<=240) :
  Calls Tryz.prog 225 #[.agg #[.int .i64 3,.int .i64 next,strV (layC L)]] w λ e w'=>∃ v,e=.returned (.tuple #[branchV v,.bool true])/\OwnsC w' w.heap.size v L/\Below w.heap.size w w':=by
 have hG:=λ W=>getC_any (layC L) W (by omega)
 unfold GetCPost at hG
 rw [getC_put hr hs] at hG
 have HG:=Hdz hG
 have bx:Blk (w.alloc (.cells #[.int .i64 3,.int .i64 next,strV (layC L)] 215)) w.heap.size 215 #[.int .i64 3,.int .i64 next,strV (layC L)]:=Blk.new _ _ _
 have x0:(w.alloc (.cells #[.int .i64 3,.int .i64 next,strV (layC L)] 215)).cell? ⟨w.heap.size,0,none⟩=some (.int .i64 3):=bx.cell 0
 clear hG hr
 go_enter Tryz.func225,Tryz.ntmps225
 go_wp2_with (fail)
 go_must (refine (HG.out _).mono ?_)
 rintro e w1 ⟨v,rfl,hown,hb1⟩
 obtain ⟨A,c,rfl,_⟩:=Sl.of_own hown
 have bn:Blk ((w.alloc (.cells #[.int .i64 3,.int .i64 next,strV (layC L)] 215)).alloc (.cells #[.bool false,.slice none 0 0,.slice none 0 0] 285)) (w.heap.size+1) 285 #[.bool false,.slice none 0 0,.slice none 0 0]:=Blk.new' (by simp)
 obtain ⟨c0,c1,c2,f0,f1,f2,hbn⟩:=node_box (Blk.below' bn hb1) (.bool false) (.slice none 0 0) (.slice A L.length c)
 have hs1:=hb1.size
 simp at hs1
 have hlt:=λ k hk=>(hown.lt k hk).1
 simp only [alloc_size1] at hlt
 have hK:=node_keeps w1 (w.heap.size+1) (.bool false) (.slice none 0 0) (.slice A L.length c)
 have HO:=Hdz (own_keeps hown hK (λ k hk e=>by have:=hlt k hk;omega))
 have hbW:Below w.heap.size w w1:=(((Below.refl _ w).alloc (Nat.le_refl _) _).alloc (by simp) _).trans (hb1.mono (by simp;omega))
 have HB:=Hdz (hbW.trans (hK.below (by omega) (λ i hi e=>by omega)))
 clear hown hlt hK
 go_wp2_with (fail)
 refine bodyPost_ret (res_row [.bool false,.slice none 0 0,.slice A L.length c] rfl rfl rfl (by kernel_rfl) hbn) rfl ?_
 exact ⟨_,rfl,own_base HO.out (by simp;omega),HB.out⟩
section
variable {p:Nat} {c:Pc} {most cnt:Nat} {M:Store}
def LoadLeafP (items:List Item) (w:World) (e:Ending) (w':World):Prop:=∃ v,e=.returned (.tuple #[leafV v,.int .i64 0])/\OwnsI w' w.heap.size v items/\Below w.heap.size w w'
def LoadBranchP (L:List Child) (w:World) (e:Ending) (w':World):Prop:=∃ v,e=.returned (.tuple #[branchV v,.int .i64 0])/\OwnsC w' w.heap.size v L/\Below w.heap.size w w'
theorem load_leaf (id:Int) (k:Nat) (items:List Item) (w:World) (h:PgOk w p c most M cnt) (hm:M id=some ⟨2,0,layI items⟩) (hr:riseI items=true) (hs:(layI items).length<=240) (hk:k<30) (hne:items≠[]\/k=0) :
  Calls Tryz.prog 182 #[ptrV p,.int .i64 id,.int .i64 k] w (LoadLeafP items w):=by
 have hRd:=Hdz (λ W (hb:Below w.heap.size w W)=>read_some id _ W (h.below hb) hm)
 have hN:=Hdz (λ W=>node_leaf items 0 W hr hs)
 have hk30:¬ (30:Int)<=(k:Int):=by omega
 have hemp:items=[]->k=0:=λ e=>hne.resolve_left (λ h=>h e)
 clear h hm hr
 go_enter Tryz.func182,Tryz.ntmps182
 go_wp2_with (fail)
 go_must (refine (hRd.out _ ((Below.refl _ _).alloc (Nat.le_refl _) _)).mono ?_)
 rintro e w1 ⟨rfl,hb1⟩
 have bt:Blk (w.alloc (.cells #[.bool false,.slice none 0 0,.slice none 0 0] 285)) w.heap.size 285 #[.bool false,.slice none 0 0,.slice none 0 0]:=Blk.new _ _ _
 have bt1:=Blk.below' bt hb1
 have hs1:=hb1.size
 simp at hs1
 go_wp2_with (fail)
 have bx:Blk (w1.alloc (.cells #[.int .i64 2,.int .i64 0,strV (layI items)] 215)) w1.heap.size 215 #[.int .i64 2,.int .i64 0,strV (layI items)]:=Blk.new _ _ _
 go_must (refine (hN.out _).mono ?_)
 rintro e w2 ⟨v,rfl,hown,hb2⟩
 unfold OwnsI at hown
 obtain ⟨A,cc,rfl,_⟩:=Sl.of_own hown
 obtain ⟨n,hn⟩:=nmz (items.length)
 have hz:n=0->k=0:=λ e=>hemp (List.length_eq_zero_iff.mp (hn.trans e))
 rw [hn] at hown ⊢
 have hs2:=hb2.size
 simp at hs2
 have bx2:=Blk.below' bx hb2
 have y1:(w2.alloc (.cells #[.bool true,.slice A n cc,.slice none 0 0] 285)).cell? ⟨w1.heap.size,1,none⟩=some (.int .i64 0):=(bx2.alloc _).cell 1
 have bt2:=(Blk.below' (bt1.alloc _) hb2).alloc (.cells #[.bool true,.slice A n cc,.slice none 0 0] 285)
 obtain ⟨c0,c1,c2,f0,f1,f2,hbn⟩:=node_box bt2 (.bool true) (.slice A n cc) (.slice none 0 0)
 have hK:=node_keeps (w2.alloc (.cells #[.bool true,.slice A n cc,.slice none 0 0] 285)) w.heap.size (.bool true) (.slice A n cc) (.slice none 0 0)
 have hlt:=λ k hk=>(hown.lt k hk).1
 simp only [alloc_size1] at hlt
 have HO:=Hdz (own_keeps (hown.alloc _) hK (λ k hk e=>by have:=hlt k hk;omega))
 have hbW:Below w.heap.size w (w2.alloc (.cells #[.bool true,.slice A n cc,.slice none 0 0] 285)):=(((Below.refl _ w).alloc (Nat.le_refl _) _).trans (hb1.mono (by simp))).trans ((((Below.refl _ w1).alloc (Nat.le_refl _) _).trans (hb2.mono (by simp))).mono (by omega)) |>.alloc (by omega) _
 have HB:=Hdz (hbW.trans (hK.below (by simp;omega) (λ i hi e=>by omega)))
 clear hown hlt hK
 clear hRd hN hemp hne hbW
 by_cases hi:n=0
 ·have hk0:=hz hi
  subst hk0
  subst hi
  go_wp2_with (fail)
  refine bodyPost_ret (res_row [.bool true,.slice A 0 cc,.slice none 0 0] rfl rfl rfl (by kernel_rfl) hbn) rfl ?_
  refine ⟨_,rfl,?_,HB.out⟩
  unfold OwnsI
  rw [hn]
  exact own_base HO.out (by simp;omega)
 ·go_wp2_with (fail)
  refine bodyPost_ret (res_row [.bool true,.slice A n cc,.slice none 0 0] rfl rfl rfl (by kernel_rfl) hbn) rfl ?_
  refine ⟨_,rfl,?_,HB.out⟩
  unfold OwnsI
  rw [hn]
  exact own_base HO.out (by simp;omega)
theorem load_branch (id:Int) (k:Nat) (L:List Child) (w:World) (h:PgOk w p c most M cnt) (hm:M id=some ⟨3,0,layC L⟩) (hr:rightC L=true) (hs:(layC L).length<=240) (hk:k<30) (hne:2<=L.length\/0<k) :
  Calls Tryz.prog 182 #[ptrV p,.int .i64 id,.int .i64 k] w (LoadBranchP L w):=by
 have hRd:=Hdz (λ W (hb:Below w.heap.size w W)=>read_some id _ W (h.below hb) hm)
 have hN:=Hdz (λ W=>node_branch L 0 W hr hs)
 have hk30:¬ (30:Int)<=(k:Int):=by omega
 clear h hm hr
 go_enter Tryz.func182,Tryz.ntmps182
 go_wp2_with (fail)
 go_must (refine (hRd.out _ ((Below.refl _ _).alloc (Nat.le_refl _) _)).mono ?_)
 rintro e w1 ⟨rfl,hb1⟩
 have bt:Blk (w.alloc (.cells #[.bool false,.slice none 0 0,.slice none 0 0] 285)) w.heap.size 285 #[.bool false,.slice none 0 0,.slice none 0 0]:=Blk.new _ _ _
 have bt1:=Blk.below' bt hb1
 have hs1:=hb1.size
 simp at hs1
 go_wp2_with (fail)
 have bx:Blk (w1.alloc (.cells #[.int .i64 3,.int .i64 0,strV (layC L)] 215)) w1.heap.size 215 #[.int .i64 3,.int .i64 0,strV (layC L)]:=Blk.new _ _ _
 go_must (refine (hN.out _).mono ?_)
 rintro e w2 ⟨v,rfl,hown,hb2⟩
 unfold OwnsC at hown
 obtain ⟨A,cc,rfl,_⟩:=Sl.of_own hown
 obtain ⟨n,hn⟩:=nmz (L.length)
 rw [hn] at hne
 rw [hn] at hown ⊢
 have hs2:=hb2.size
 simp at hs2
 have bx2:=Blk.below' bx hb2
 have y1:(w2.alloc (.cells #[.bool false,.slice none 0 0,.slice A n cc] 285)).cell? ⟨w1.heap.size,1,none⟩=some (.int .i64 0):=(bx2.alloc _).cell 1
 have bt2:=(Blk.below' (bt1.alloc _) hb2).alloc (.cells #[.bool false,.slice none 0 0,.slice A n cc] 285)
 obtain ⟨c0,c1,c2,f0,f1,f2,hbn⟩:=node_box bt2 (.bool false) (.slice none 0 0) (.slice A n cc)
 have hK:=node_keeps (w2.alloc (.cells #[.bool false,.slice none 0 0,.slice A n cc] 285)) w.heap.size (.bool false) (.slice none 0 0) (.slice A n cc)
 have hlt:=λ k hk=>(hown.lt k hk).1
 simp only [alloc_size1] at hlt
 have HO:=Hdz (own_keeps (hown.alloc _) hK (λ k hk e=>by have:=hlt k hk;omega))
 have hbW:Below w.heap.size w (w2.alloc (.cells #[.bool false,.slice none 0 0,.slice A n cc] 285)):=(((Below.refl _ w).alloc (Nat.le_refl _) _).trans (hb1.mono (by simp))).trans ((((Below.refl _ w1).alloc (Nat.le_refl _) _).trans (hb2.mono (by simp))).mono (by omega)) |>.alloc (by omega) _
 have HB:=Hdz (hbW.trans (hK.below (by simp;omega) (λ i hi e=>by omega)))
 clear hown hlt hK
 clear hRd hN hbW
 by_cases hk0:k=0
 ·subst hk0
  have hn2:2<=n:=hne.resolve_right (by omega)
  have hn2':¬ (n:Int)<2:=by omega
  clear hne
  go_wp2_with (fail)
  refine bodyPost_ret (res_row [.bool false,.slice none 0 0,.slice A n cc] rfl rfl rfl (by kernel_rfl) hbn) rfl ?_
  refine ⟨_,rfl,?_,HB.out⟩
  unfold OwnsC
  rw [hn]
  exact own_base HO.out (by simp;omega)
 ·have hk1:¬ (k:Int)=0:=by omega
  clear hne
  go_wp2_with (fail)
  all_goals
   refine bodyPost_ret (res_row [.bool false,.slice none 0 0,.slice A n cc] rfl rfl rfl (by kernel_rfl) hbn) rfl ?_
   refine ⟨_,rfl,?_,HB.out⟩
   unfold OwnsC
   rw [hn]
   exact own_base HO.out (by simp;omega)
end
structure Step where
 id:Int
 at':Nat
 v:Value
 L:List Child
def stepCs (s:Step):List Value:=[.int .i64 s.id,.int .i64 s.at',s.v]
def stepsCs:List Step->List Value
 | []=>[]
 | s :: l=>stepCs s++stepsCs l
theorem stepsCs_snoc (s:Step):∀ l:List Step,stepsCs (l++[s])=stepsCs l++stepCs s
 | []=>by simp [stepsCs]
 | x :: l=>by simp [stepsCs,stepsCs_snoc s l]
def Step.ghost (s:Step):Int × Nat × List Child:=(s.id,s.at',s.L)
inductive Way (M:Store) (key:Bytes):Nat->Int->List (Int × Nat × List Child)->Int->List Item->Prop
 | leaf {k:Nat} {id:Int} {items:List Item}:M id=some ⟨2,0,layI items⟩->riseI items=true->(layI items).length<=240->(items≠[]\/k=0)->k<30->Way M key k id [] id items
 | branch {k:Nat} {id lid:Int} {L:List Child} {items:List Item} {x:Child} {P:List (Int × Nat × List Child)}:M id=some ⟨3,0,layC L⟩->rightC L=true->(layC L).length<=240->(2<=L.length\/0<k)->k<30->L[findC key L]? = some x →
   Way M key (k+1) x.page P lid items->Way M key k id ((id,findC key L,L) :: P) lid items
theorem Way.head {M:Store} {key:Bytes} {k:Nat} {id lid:Int} {P:List (Int × Nat × List Child)} {items:List Item} (h:Way M key k id P lid items) :
  (M id=some ⟨2,0,layI items⟩/\riseI items=true/\(layI items).length<=240/\(items≠[]\/k=0)/\k<30/\P=[]/\id=lid) ∨
  ∃ L x Q,M id=some ⟨3,0,layC L⟩/\rightC L=true/\(layC L).length<=240/\(2<=L.length\/0<k)/\k<30/\L[findC key L]? = some x/\P=(id,findC key L,L) :: Q/\Way M key (k+1) x.page Q lid items:=by
 cases h with
 | leaf h1 h2 h3 h4 h5=>exact .inl ⟨h1,h2,h3,h4,h5,rfl,rfl⟩
 | branch h1 h2 h3 h4 h5 h6 h7=>exact .inr ⟨_,_,_,h1,h2,h3,h4,h5,h6,rfl,h7⟩
theorem infoStep:(Tryz.prog.info? 289).map (λ i=>(i.zero,i.size,i.bytes))=some (some (.agg #[.int .i64 0,.int .i64 0,.slice none 0 0]),3,40):=by kernel_rfl
theorem own_apart {w:World} {b1 b2 z1 z2 n1 n2:Nat} {e1 e2:TypeId} {v1 v2:Value} {x1 x2:List Value} (h1:w.ownsRow b1 e1 z1 v1 n1 x1) (h2:w.ownsRow b2 e2 z2 v2 n2 x2) (he:e1≠e2):∀ k,v1.ownBlock=some k->v2.ownBlock≠some k:=by
 intro k h3 h4
 rcases h1.2 with ⟨rfl,_⟩ | ⟨g,cap,cur,rfl,_,hg,_⟩
 ·cases h3
 ·rcases h2.2 with ⟨rfl,_⟩ | ⟨g2,cap2,cur2,rfl,_,hg2,_⟩
  ·cases h4
  ·simp only [Value.ownBlock,Option.some.injEq] at h3 h4
   subst h3 h4
   rw [hg] at hg2
   simp at hg2
   exact he hg2.2
theorem layC_len:∀ L:List Child,L.length*2<=(layC L).length:=by
 intro L
 induction L with
 | nil=>simp [layC]
 | cons x l ih =>
  have h1:=Go.Lib.uvarint_pos (Go.Lib.zigzag x.page)
  have h2:=Go.Lib.uvarint_pos (Go.Lib.zigzag (x.key.length:Int))
  simp only [layC,Child.lay,textB,varB,List.length_append,List.length_cons]
  omega
def StepsOk (w:World) (base:Nat) (l:List Step):Prop:=∀ s∈l,OwnsC w base s.v s.L/\rightC s.L=true
theorem StepsOk.below {w w':World} {base:Nat} {l:List Step} (h:StepsOk w base l) (hb:Below w.heap.size w w'):StepsOk w' base l:=λ s hs=>⟨own_below (h s hs).1 hb,(h s hs).2⟩
def WayP (P:List (Int × Nat × List Child)) (lid:Int) (items:List Item) (w:World) (e:Ending) (w':World):Prop:=
 ∃ pv st vi,e=.returned (.tuple #[pv,.int .i64 lid,vi,.int .i64 0])/\w'.ownsRow w.heap.size 289 3 pv st.length (stepsCs st)/\st.map Step.ghost=P/\StepsOk w' w.heap.size st/\OwnsI w' w.heap.size vi items/\Below w.heap.size w w'
section
variable {p:Nat} {c:Pc} {most cnt:Nat} {M:Store}
theorem way_ok (id:Int) (key:Bytes) (P:List (Int × Nat × List Child)) (lid:Int) (items:List Item) (w:World) (h:PgOk w p c most M cnt) (hw:Way M key 0 id P lid items) :
  Calls Tryz.prog 133 #[ptrV p,.int .i64 id,strV key] w (WayP P lid items w):=by
 obtain ⟨i0,hi,hz0,hz1,hz2⟩:=info_parts infoStep
 go_enter Tryz.func133,Tryz.ntmps133
 go_wp2
 go_loopg [10,11] P.length (λ gk s10 s11 wr=>∃ (done:List Step) (rest:List (Int × Nat × List Child)) (cur:Int),s11=.int .i64 cur/\rest.length<=gk/\Hid (done.map Step.ghost++rest=P)/\Hid (Way M key done.length cur rest lid items)/\wr.ownsRow w.heap.size 289 3 s10 done.length (stepsCs done)/\Hid (StepsOk wr w.heap.size done)/\Below w.heap.size w wr)
 case atStart=>exact ⟨[],P,id,rfl,Nat.le_refl _,rfl,hw,World.ownsRow_nil _ _ _ _,λ s hs=>absurd hs (by simp),Below.refl _ _⟩
 case round =>
  obtain ⟨done,rest,cur,rfl,hg,hP,hway,hown,hst,hb⟩:=hrel
  have hpg:=h.below hb
  have hz:=hb.size
  obtain ⟨A,cc,rfl,_⟩:=Sl.of_own hown
  rcases hway.out.head with ⟨hm,hr,hs,hne,hk,hR,hcur⟩ | ⟨L,x,Q,hm,hr,hs,hne,hk,hat,hR,hQ⟩
  ·subst hcur
   subst hR
   have HX:=Hdz (load_leaf cur done.length items wr hpg hm hr hs hk hne)
   clear hm hr hway hne h hpg
   go_wp2_with (fail)
   go_must (refine HX.out.mono ?_)
   rintro e w1 ⟨v,rfl,hIt,hb1⟩
   unfold OwnsI at hIt
   obtain ⟨B,d,rfl,_⟩:=Sl.of_own hIt
   have bx:Blk (w1.alloc (.cells #[.bool true,.slice B items.length d,.slice none 0 0] 285)) w1.heap.size 285 #[.bool true,.slice B items.length d,.slice none 0 0]:=Blk.new _ _ _
   have x0:(w1.alloc (.cells #[.bool true,.slice B items.length d,.slice none 0 0] 285)).cell? ⟨w1.heap.size,0,none⟩=some (.bool true):=bx.cell 0
   have x1:(w1.alloc (.cells #[.bool true,.slice B items.length d,.slice none 0 0] 285)).cell? ⟨w1.heap.size,1,none⟩=some (.slice B items.length d):=bx.cell 1
   have hs1:=hb1.size
   have HO:=Hdz ((own_below hown hb1).alloc (.cells #[.bool true,.slice B items.length d,.slice none 0 0] 285))
   have HI:=Hdz ((own_base hIt hz).alloc (.cells #[.bool true,.slice B items.length d,.slice none 0 0] 285))
   have HS:=Hdz ((hst.out.below hb1).below ((Below.refl _ w1).alloc (Nat.le_refl _) (.cells #[.bool true,.slice B items.length d,.slice none 0 0] 285)))
   have HB:=Hdz ((hb.trans (hb1.mono hz)).alloc (by omega) (.cells #[.bool true,.slice B items.length d,.slice none 0 0] 285))
   clear hown hIt hst hb hb1 hs
   go_wp2_with (fail)
   refine wRz ?_
   try simp only [lAz]
   refine tA 0 ?_;try simp only [lAz]
   refine tA 1 ?_;try simp only [lAz]
   refine tA 2 ?_;try simp only [lAz]
   refine tA 4 ?_;try simp only [lAz]
   refine tA 5 ?_;try simp only [lAz]
   refine rZz 3 λ K hK=>?_;go_simp;apply hK;clear hK K
   refine rZz 6 λ K hK=>?_;go_simp;apply hK;clear hK K
   refine rZz 7 λ K hK=>?_;go_simp;apply hK;clear hK K
   refine wDz ?_
   go_wp2_with (fail)
   refine bodyPost_ret (v:=.tuple #[.slice A done.length cc,.int .i64 cur,.slice B items.length d,.int .i64 0]) (by simp [results,Tryz.results133,go_sem]) rfl ?_
   exact ⟨_,done,_,rfl,HO.out,by have:=hP.out;rwa [List.append_nil] at this,HS.out,HI.out,HB.out.drew⟩
  ·subst hR
   have HX:=Hdz (load_branch cur done.length L wr hpg hm hr hs hk hne)
   have hl2:=layC_len L
   have hL120:L.length<=120:=by omega
   have hq30:done.length<30:=hk
   clear hm hway hne h hpg
   go_wp2_with (fail)
   go_must (refine HX.out.mono ?_)
   rintro e w1 ⟨v,rfl,hIt,hb1⟩
   unfold OwnsC at hIt
   obtain ⟨B,d,rfl,hBr⟩:=Sl.of_own hIt
   have bx:Blk (w1.alloc (.cells #[.bool false,.slice none 0 0,.slice B L.length d] 285)) w1.heap.size 285 #[.bool false,.slice none 0 0,.slice B L.length d]:=Blk.new _ _ _
   have x0:(w1.alloc (.cells #[.bool false,.slice none 0 0,.slice B L.length d] 285)).cell? ⟨w1.heap.size,0,none⟩=some (.bool false):=bx.cell 0
   have x2:(w1.alloc (.cells #[.bool false,.slice none 0 0,.slice B L.length d] 285)).cell? ⟨w1.heap.size,2,none⟩=some (.slice B L.length d):=bx.cell 2
   have hs1:=hb1.size
   have HO:=Hdz ((own_below hown hb1).alloc (.cells #[.bool false,.slice none 0 0,.slice B L.length d] 285))
   have hI2:=(own_base hIt hz).alloc (.cells #[.bool false,.slice none 0 0,.slice B L.length d] 285)
   have HS:=Hdz ((hst.out.below hb1).below ((Below.refl _ w1).alloc (Nat.le_refl _) (.cells #[.bool false,.slice none 0 0,.slice B L.length d] 285)))
   have HB:=Hdz ((hb.trans (hb1.mono hz)).alloc (by omega) (.cells #[.bool false,.slice none 0 0,.slice B L.length d] 285))
   have HF:=Hdz (findC_any B L.length d L key _ (Sl.of_own hI2) (by omega) hr)
   have HI:=Hdz hI2
   clear hown hIt hst hb hb1 hs hI2
   go_wp2_with (fail)
   go_must (refine HF.out.mono ?_)
   rintro e w2 ⟨rfl,rfl⟩
   have hat1:=(List.getElem?_eq_some_iff.1 hat).1
   have hm1:done.length+1<=maxLen:=by unfold maxLen;omega
   go_wp2_with (at_builtin;go_must (refine wpList_append_own _ rfl _ _ 216 rfl w.heap.size 289 i0 _ 3 40 Tryz.underlying216 hi hz0 hz1 hz2 rfl (by decide) _ done.length (stepsCs done) rfl (HO.out.alloc _) ⟨w1.heap.size+1,0,none⟩ 1 1 (stepCs ⟨cur,findC key L,.slice B L.length d,L⟩) rfl rfl (row_newI _ (stepCs ⟨cur,findC key L,.slice B L.length d,L⟩) _ _ (by simp)) (by simp [Value.oneCell',stepCs]) hm1 (by omega) (by simp;omega) ?_))
   intro v4 w4 own4 hg4 _
   have K4:Keeps (λ k=>_=some k) (w1.alloc (.cells #[.bool false,.slice none 0 0,.slice B L.length d] 285)) w4:=((Keeps.refl (λ k=>_=some k) _).alloc _).grown hg4 (λ k hk _=>hk)
   have bx4:=bx.keeps K4 (λ e=>own_ne HO.out bx (by decide) _ e rfl)
   have y2:w4.cell? ⟨w1.heap.size,2,none⟩=some (.slice B L.length d):=bx4.cell 2
   have hI4:=own_keeps HI.out K4 (λ k hk e=>own_apart HI.out HO.out (by decide) k hk e)
   have HS4:Hid (StepsOk w4 w.heap.size (done++[⟨cur,findC key L,.slice B L.length d,L⟩])):=by
    intro s hs
    rcases List.mem_append.1 hs with hs | hs
    ·have:=HS.out s hs
     exact ⟨own_keeps this.1 K4 (λ k hk e=>own_apart this.1 HO.out (by decide) k hk e),this.2⟩
    ·simp only [List.mem_singleton] at hs
     subst hs
     exact ⟨hI4,hr⟩
   have HB4:=Hdz (HB.out.trans (K4.below HB.out.size (λ i hi hk=>by have:=(HO.out.lt i hk).1;omega)))
   have HO4:Hid (w4.ownsRow w.heap.size 289 3 v4 (done++[(⟨cur,findC key L,.slice B L.length d,L⟩:Step)]).length (stepsCs (done++[⟨cur,findC key L,.slice B L.length d,L⟩]))):=by
    show World.ownsRow _ _ _ _ _ _ _
    rw [stepsCs_snoc,List.length_append]
    exact own4
   obtain ⟨A',c',e0,_,_,hcl⟩:=Sl.of_own hI4
   cases e0
   obtain ⟨blk,off,rfl,hbl,hcell⟩:=hcl (by omega)
   obtain ⟨_,j1⟩:=child_2 (w:=w4) λ i u hu=>child_cells hcell hat1 i u hu
   rw [List.getElem?_eq_getElem hat1,Option.some.injEq] at hat
   subst hat
   have hP2:Hid ((done++[(⟨cur,findC key L,.slice (some ⟨blk,off,none⟩) L.length d,L⟩:Step)]).map Step.ghost++Q=P):=by
    show _=_
    rw [<- hP.out]
    simp [Step.ghost]
   have HQ2:Hid (Way M key (done++[(⟨cur,findC key L,.slice (some ⟨blk,off,none⟩) L.length d,L⟩:Step)]).length L[findC key L].page Q lid items):=by
    show Way _ _ _ _ _ _ _
    rw [List.length_append]
    exact hQ
   clear own4 hg4 hcell hI4 hcl K4 hBr hP hQ HX HF
   have hf0:(0:Int)<=(findC key L:Int):=by omega
   have hfl:(findC key L:Int)<(L.length:Int):=by omega
   go_wp2_with (fail)
   go_roundg Q.length
   case measure=>simp at hg;omega
   case rel=>exact ⟨done++[(⟨cur,findC key L,.slice (some ⟨blk,off,none⟩) L.length d,L⟩:Step)],Q,_,rfl,Nat.le_refl _,hP2,HQ2,HO4.out,HS4,HB4.out⟩
end
structure Wc where
 c:Pc
 b:Nat
 mv:Value
 dv:Value
def Wc.S (p:Nat) (x:Wc) (k:Nat):Prop:=x.c.S p k\/k=x.b\/x.mv.ownBlock=some k\/x.dv.ownBlock=some k
structure WkOk (w:World) (p:Nat) (x:Wc) (most:Nat) (M:Store) (cnt:Nat) (made dropped:List Int):Prop where
 pg:PgOk w p x.c most M cnt
 blk:Blk w x.b 235 #[ptrV p,x.mv,x.dv]
 nb:¬ x.c.S p x.b
 mo:w.ownsRow 0 3 1 x.mv made.length (intsV made)
 dr:w.ownsRow 0 3 1 x.dv dropped.length (intsV dropped)
 nm:∀ k,x.mv.ownBlock=some k->¬ x.c.S p k
 nd:∀ k,x.dv.ownBlock=some k->¬ x.c.S p k
 md:∀ k,x.mv.ownBlock=some k->x.dv.ownBlock≠some k
structure WkK (p:Nat) (x x':Wc) (w w':World):Prop where
 keeps:Keeps (x.S p) w w'
 sub:∀ k,x'.S p k->x.S p k\/w.heap.size<=k
 same:x'.b=x.b
 mb:x'.c.mb=x.c.mb
 db:x'.c.db=x.c.db
 wb:x'.c.wb=x.c.wb
theorem WkK.refl (p:Nat) (x:Wc) (w:World):WkK p x x w w:=⟨Keeps.refl _ _,λ _ h=>.inl h,rfl,rfl,rfl,rfl⟩
theorem WkK.trans {p:Nat} {x x1 x2:Wc} {w w1 w2:World} (h:WkK p x x1 w w1) (k:WkK p x1 x2 w1 w2):WkK p x x2 w w2:=by
 have hz:=h.keeps.size
 refine ⟨h.keeps.trans k.keeps λ i hi hs=>?_,λ i hs=>?_,k.same.trans h.same,k.mb.trans h.mb,k.db.trans h.db,k.wb.trans h.wb⟩
 ·rcases h.sub i hs with h1 | h1
  ·exact h1
  ·omega
 ·rcases k.sub i hs with h1 | h1
  ·exact h.sub i h1
  ·exact .inr (by omega)
theorem WkK.of_below {p:Nat} {x:Wc} {w w':World} (h:Below w.heap.size w w'):WkK p x x w w':=⟨Keeps.of_below h,λ _ h=>.inl h,rfl,rfl,rfl,rfl⟩
theorem WkK.pager {p:Nat} {x:Wc} {c':Pc} {w w':World} (h:PgK p x.c c' w w'):WkK p x { x with c:=c' } w w':=by
 refine ⟨h.keeps.mono λ _ _ h=>.inl h,λ k hk=>?_,rfl,h.mb,h.db,h.wb⟩
 rcases hk with h1 | h1
 ·rcases h.sub k h1 with h2 | h2
  ·exact .inl (.inl h2)
  ·exact .inr h2
 ·exact .inl (.inr h1)
section
variable {p most cnt:Nat} {x:Wc} {M:Store} {made dropped:List Int} {w w':World}
theorem WkOk.keeps {S:Nat->Prop} (h:WkOk w p x most M cnt made dropped) (hk:Keeps S w w') (hs:∀ k,x.S p k->¬ S k):WkOk w' p x most M cnt made dropped:=
 ⟨h.pg.keeps hk λ k hh=>hs k (.inl hh),h.blk.keeps hk (hs _ (.inr (.inl rfl))),h.nb,own_keeps h.mo hk λ k hh=>hs k (.inr (.inr (.inl hh))),own_keeps h.dr hk λ k hh=>hs k (.inr (.inr (.inr hh))),h.nm,h.nd,h.md⟩
theorem WkOk.below (h:WkOk w p x most M cnt made dropped) (hb:Below w.heap.size w w'):WkOk w' p x most M cnt made dropped:=h.keeps (Keeps.of_below (S:=λ _=>False) hb) λ _ _ hh=>hh
theorem WkOk.alloc (h:WkOk w p x most M cnt made dropped) (o:Obj):WkOk (w.alloc o) p x most M cnt made dropped:=h.below ((Below.refl _ _).alloc (Nat.le_refl _) o)
theorem WkOk.drew (h:WkOk w p x most M cnt made dropped):WkOk w.drew p x most M cnt made dropped:=h.below ((Below.refl _ _).drew)
theorem WkOk.lt (h:WkOk w p x most M cnt made dropped):∀ k,x.S p k->k<w.heap.size:=by
 rintro k (h1 | rfl | h1 | h1)
 ·exact h.pg.lt k h1
 ·exact h.blk.lt
 ·exact (h.mo.lt k h1).2
 ·exact (h.dr.lt k h1).2
theorem WkOk.pager {c':Pc} {M':Store} {cnt':Nat} (h:WkOk w p x most M cnt made dropped) (hp:PgOk w' p c' most M' cnt') (hk:PgK p x.c c' w w'):WkOk w' p { x with c:=c' } most M' cnt' made dropped:=by
 have hn:∀ k,k<w.heap.size->¬ x.c.S p k->¬ c'.S p k:=λ k hk1 h1 h2=>by
  rcases hk.sub k h2 with h3 | h3
  ·exact h1 h3
  ·omega
 exact ⟨hp,h.blk.keeps hk.keeps h.nb,hn _ h.blk.lt h.nb,own_keeps h.mo hk.keeps h.nm,own_keeps h.dr hk.keeps h.nd,λ k hh=>hn k (h.mo.lt k hh).2 (h.nm k hh),λ k hh=>hn k (h.dr.lt k hh).2 (h.nd k hh),h.md⟩
theorem WkOk.grownM {v:Value} {l:List Int} (h:WkOk w p x most M cnt made dropped) (hg:w.grownBy w' x.mv.ownBlock) (ho:w'.ownsRow 0 3 1 v (made.length+l.length) (intsV made++intsV l)) (hw:∀ k,v.ownBlock=some k->x.mv.ownBlock=some k\/w.heap.size<=k) :
  WkOk (w'.setCell ⟨x.b,1,none⟩ v) p { x with mv:=v } most M cnt (made++l) dropped/\WkK p x { x with mv:=v } w (w'.setCell ⟨x.b,1,none⟩ v):=by
 have K1:Keeps (λ k=>x.mv.ownBlock=some k) w w':=(Keeps.refl (λ k=>x.mv.ownBlock=some k) _).grown hg (λ k hk _=>hk)
 have hmb:∀ k,x.mv.ownBlock=some k->k≠x.b:=own_ne h.mo h.blk (by decide)
 have hdb:∀ k,x.dv.ownBlock=some k->k≠x.b:=own_ne h.dr h.blk (by decide)
 have b1:=h.blk.keeps K1 (λ e=>hmb _ e rfl)
 have K2:Keeps (λ k=>x.mv.ownBlock=some k\/k=x.b) w (w'.setCell ⟨x.b,1,none⟩ v):=(K1.mono λ _ _ h=>.inl h).setCell (λ _=>.inr rfl) v
 have hvb:∀ k,v.ownBlock=some k->k≠x.b:=λ k hk e=>by
  rcases hw k hk with h1 | h1
  ·exact hmb k h1 e
  ·have:=h.blk.lt;omega
 refine ⟨⟨h.pg.keeps K2 λ k hk e=>?_,b1.set 1 v,h.nb,?_,own_keeps h.dr K2 λ k hk e=>?_,λ k hk e=>?_,h.nd,λ k hk e=>?_⟩,K2.mono λ k _ e=>?_,λ k hk=>?_,rfl,rfl,rfl,rfl⟩
 ·rcases e with e | e
  ·exact h.nm k e hk
  ·exact h.nb (e ▸ hk)
 ·have:=own_keeps (S:=λ k=>k=x.b) ho ((Keeps.refl (λ k=>k=x.b) _).setCell (p:=⟨x.b,1,none⟩) (λ _=>rfl) v) hvb
  simpa [intsV] using this
 ·rcases e with e | e
  ·exact h.md k e hk
  ·exact hdb k hk e
 ·rcases hw k hk with h1 | h1
  ·exact h.nm k h1 e
  ·have:=h.pg.lt k e;omega
 ·rcases hw k hk with h1 | h1
  ·exact h.md k h1 e
  ·have:=(h.dr.lt k e).2;omega
 ·rcases e with e | e
  ·exact .inr (.inr (.inl e))
  ·exact .inr (.inl e)
 ·rcases hk with h1 | h1 | h1 | h1
  ·exact .inl (.inl h1)
  ·exact .inl (.inr (.inl h1))
  ·rcases hw k h1 with h2 | h2
   ·exact .inl (.inr (.inr (.inl h2)))
   ·exact .inr h2
  ·exact .inl (.inr (.inr (.inr h1)))
theorem WkOk.grownD {v:Value} {l:List Int} (h:WkOk w p x most M cnt made dropped) (hg:w.grownBy w' x.dv.ownBlock) (ho:w'.ownsRow 0 3 1 v (dropped.length+l.length) (intsV dropped++intsV l)) (hw:∀ k,v.ownBlock=some k->x.dv.ownBlock=some k\/w.heap.size<=k) :
  WkOk (w'.setCell ⟨x.b,2,none⟩ v) p { x with dv:=v } most M cnt made (dropped++l)/\WkK p x { x with dv:=v } w (w'.setCell ⟨x.b,2,none⟩ v):=by
 have K1:Keeps (λ k=>x.dv.ownBlock=some k) w w':=(Keeps.refl (λ k=>x.dv.ownBlock=some k) _).grown hg (λ k hk _=>hk)
 have hmb:∀ k,x.mv.ownBlock=some k->k≠x.b:=own_ne h.mo h.blk (by decide)
 have hdb:∀ k,x.dv.ownBlock=some k->k≠x.b:=own_ne h.dr h.blk (by decide)
 have b1:=h.blk.keeps K1 (λ e=>hdb _ e rfl)
 have K2:Keeps (λ k=>x.dv.ownBlock=some k\/k=x.b) w (w'.setCell ⟨x.b,2,none⟩ v):=(K1.mono λ _ _ h=>.inl h).setCell (λ _=>.inr rfl) v
 have hvb:∀ k,v.ownBlock=some k->k≠x.b:=λ k hk e=>by
  rcases hw k hk with h1 | h1
  ·exact hdb k h1 e
  ·have:=h.blk.lt;omega
 refine ⟨⟨h.pg.keeps K2 λ k hk e=>?_,b1.set 2 v,h.nb,own_keeps h.mo K2 λ k hk e=>?_,?_,h.nm,λ k hk e=>?_,λ k hk e=>?_⟩,K2.mono λ k _ e=>?_,λ k hk=>?_,rfl,rfl,rfl,rfl⟩
 ·rcases e with e | e
  ·exact h.nd k e hk
  ·exact h.nb (e ▸ hk)
 ·rcases e with e | e
  ·exact h.md k hk e
  ·exact hmb k hk e
 ·have:=own_keeps (S:=λ k=>k=x.b) ho ((Keeps.refl (λ k=>k=x.b) _).setCell (p:=⟨x.b,2,none⟩) (λ _=>rfl) v) hvb
  simpa [intsV] using this
 ·rcases hw k hk with h1 | h1
  ·exact h.nd k h1 e
  ·have:=h.pg.lt k e;omega
 ·rcases hw k e with h1 | h1
  ·exact h.md k hk h1
  ·have:=(h.mo.lt k hk).2;omega
 ·rcases e with e | e
  ·exact .inr (.inr (.inr e))
  ·exact .inr (.inl e)
 ·rcases hk with h1 | h1 | h1 | h1
  ·exact .inl (.inl h1)
  ·exact .inl (.inr (.inl h1))
  ·exact .inl (.inr (.inr (.inl h1)))
  ·rcases hw k h1 with h2 | h2
   ·exact .inl (.inr (.inr (.inr h2)))
   ·exact .inr h2
theorem WkOk.blkM (h:WkOk w p x most M cnt made dropped) (hg:w.grownBy w' x.mv.ownBlock):Blk w' x.b 235 #[ptrV p,x.mv,x.dv]:=
 h.blk.keeps ((Keeps.refl (λ k=>x.mv.ownBlock=some k) _).grown hg (λ k hk _=>hk)) (λ e=>own_ne h.mo h.blk (by decide) _ e rfl)
theorem WkOk.blkD (h:WkOk w p x most M cnt made dropped) (hg:w.grownBy w' x.dv.ownBlock):Blk w' x.b 235 #[ptrV p,x.mv,x.dv]:=
 h.blk.keeps ((Keeps.refl (λ k=>x.dv.ownBlock=some k) _).grown hg (λ k hk _=>hk)) (λ e=>own_ne h.dr h.blk (by decide) _ e rfl)
def PageP (p:Nat) (x:Wc) (most:Nat) (M:Store) (cnt:Nat) (made dropped:List Int) (g:Pg) (w:World) (e:Ending) (w':World):Prop:=
 ∃ id x',e=.returned (.tuple #[.int .i64 id,.int .i64 0])/\M id=none/\2<=id/\id<=100000/\WkOk w' p x' most (updS M id (some g)) (cnt+1) (made++[id]) dropped/\WkK p x x' w w'
theorem page_any (g:Pg) (h:WkOk w p x most M cnt made dropped) (hx:g.ok) (h0:g.next=0) (hroom:cnt+3<=most) (hmd:made.length<=100000) :
  Calls Tryz.prog 199 #[ptrV x.b,.int .i64 g.kind,strV g.body] w (PageP p x most M cnt made dropped g w):=by
 obtain ⟨i0,hi,hz0,hz1,hz2⟩:=info_parts infoInt
 obtain ⟨gk,gn,gb⟩:=g
 simp only at h0
 subst h0
 have hMk:=Hdz (make_any (M:=M) ⟨gk,0,gb⟩ w h.pg hx hroom)
 have g0:w.cell? ⟨x.b,0,none⟩=some (ptrV p):=h.blk.cell 0
 go_enter Tryz.func199,Tryz.ntmps199
 go_wp2_with (fail)
 go_must (refine hMk.out.mono ?_)
 rintro e w1 ⟨id,c',rfl,hid,hid2,hid3,hpg,hK⟩
 have h1:=h.pager hpg hK
 have kk1:=WkK.pager (x:=x) hK
 have g1:w1.cell? ⟨x.b,1,none⟩=some x.mv:=h1.blk.cell 1
 have hmo:∀ o,(w1.alloc o).ownsRow 0 3 1 x.mv made.length (intsV made):=λ o=>(h1.alloc o).mo
 have hm1:made.length+1<=maxLen:=by unfold maxLen;omega
 go_wp2_with (at_builtin;go_must (refine wpList_append_at rfl _ _ 35 rfl 0 3 i0 _ 1 8 Tryz.underlying35 hi hz0 hz1 hz2 rfl (by decide) _ made.length (intsV made) rfl (hmo _) ⟨w1.heap.size,0,none⟩ 1 1 [.int .i64 id] rfl rfl (row_newS _ _ _ _ rfl) (by simp [Value.oneCell']) hm1 (by omega) (by simp) ?_))
 intro v4 w4 own4 hg4 hw4
 have h2:=h1.alloc (.cells #[.int .i64 id] 3)
 obtain ⟨h3,kk3⟩:=h2.grownM (l:=[id]) hg4 own4 (by simpa using hw4)
 have bb:=h2.blkM hg4
 have c1:w4.cell? ⟨x.b,1,none⟩=some x.mv:=bb.cell 1
 have f1:w4.frozen? ⟨x.b,1,none⟩=false:=bb.frozen 1
 obtain ⟨A4,c4,rfl,_⟩:=Sl.of_own own4
 have HE:Hid (PageP p x most M cnt made dropped ⟨gk,0,gb⟩ w (.returned (.tuple #[.int .i64 id,.int .i64 0])) (w4.setCell ⟨x.b,1,none⟩ (.slice A4 (made.length+1) c4))):=
  ⟨id,_,rfl,hid,hid2,hid3,h3,(kk1.trans (WkK.of_below ((Below.refl _ _).alloc (Nat.le_refl _) _))).trans kk3⟩
 clear own4 hg4 hw4 h1 h2 h3 kk3 kk1 hpg hK hmo
 go_wp2_with (fail)
 refine bodyPost_ret (v:=.tuple #[.int .i64 id,.int .i64 0]) (by simp [results,Tryz.results199,go_sem]) rfl ?_
 exact HE.out
end
end Go.Ev
