/-
  Texts of this claim.
-/
import Derived.Test.YtmfoiaaehkandaaGreatDoorMOGwReplace
import Derived.Test.YtmfoiaaehkandaaGreatDoorMOGwSeal
import Derived.Laws.ResultCell
set_option linter.unusedVariables false
set_option linter.unusedSimpArgs false
set_option maxHeartbeats 2000000
set_option maxRecDepth 100000
namespace Go.Ev
open Go.Proofs Go.RowKit
def PgOk (w:World) (p:Nat) (c:Pc) (most:Nat) (M:Store) (cnt:Nat):Prop:=∃ n made was mc wc dc spare,PgAt w p c most n n made was mc wc dc spare/\PgInv n made was spare/\Pages made M/\cnt=made.length
def Pg.ok (x:Pg):Prop:=1<=x.kind/\x.kind<=255/\0<=x.next/\x.next<=4294967295/\x.body.length<=240
def MakeP (p:Nat) (c:Pc) (most:Nat) (M:Store) (cnt:Nat) (x:Pg) (w:World) (e:Ending) (w':World):Prop:=
 ∃ id c',e=.returned (.tuple #[.int .i64 id,.int .i64 0])/\M id=none/\2<=id/\id<=100000/\PgOk w' p c' most (updS M id (some x)) (cnt+1)/\PgK p c c' w w'
section
variable {p:Nat} {c:Pc} {most cnt:Nat} {M:Store}
theorem PgOk.below {w w':World} (h:PgOk w p c most M cnt) (hb:Below w.heap.size w w'):PgOk w' p c most M cnt:=by
 obtain ⟨n,made,was,mc,wc,dc,spare,h1,h2,h3,h4⟩:=h
 exact ⟨n,made,was,mc,wc,dc,spare,h1.below hb,h2,h3,h4⟩
theorem PgOk.keeps {S:Nat->Prop} {w w':World} (h:PgOk w p c most M cnt) (hk:Keeps S w w') (hs:∀ k,c.S p k->¬ S k):PgOk w' p c most M cnt:=by
 obtain ⟨n,made,was,mc,wc,dc,spare,h1,h2,h3,h4⟩:=h
 exact ⟨n,made,was,mc,wc,dc,spare,h1.keeps hk hs,h2,h3,h4⟩
theorem PgOk.lt {w:World} (h:PgOk w p c most M cnt):∀ k,c.S p k->k<w.heap.size:=by
 obtain ⟨n,made,was,mc,wc,dc,spare,h1,h2,h3,h4⟩:=h
 exact h1.lt
theorem PgOk.alloc {w:World} (h:PgOk w p c most M cnt) (o:Obj):PgOk (w.alloc o) p c most M cnt:=h.below ((Below.refl _ _).alloc (Nat.le_refl _) o)
theorem make_end {n:Nat} {made was:List Ent} {mc wc dc:Nat} {spare spare':List Int} {w:World} {c':Pc} {x:Pg} (hI:PgInv n made was spare) (hP:Pages made M)
  (h:PgAt w p c' most (if spare=[] then n+1 else n) (if spare=[] then n+1 else n) made was mc wc dc spare') (hp:spare'.Perm spare.tail) :
  getE made (nextI n spare)=none/\2<=nextI n spare/\nextI n spare<=n/\M (nextI n spare)=none ∧
  PgOk (turn (turn w c'.wb (delE was (nextI n spare)) wc) c'.mb (putE made (nextI n spare) (pgV x) mc) (clockE made (nextI n spare) mc)) p c' most (updS M (nextI n spare) (some x)) (made.length+1):=by
 have hkey:PgInv (if spare=[] then n+1 else n) (putE made (nextI n spare) (pgV x) mc) (delE was (nextI n spare)) spare'/\getE made (nextI n spare)=none/\2<=nextI n spare/\nextI n spare<=n:=by
  cases spare with
  | nil =>
   have:spare'=[]:=List.Perm.eq_nil hp
   subst this
   have:=hI.make_new x mc
   exact ⟨this.1,this.2,by have:=hI.two;show 2<=(n:Int);omega,Int.le_refl _⟩
  | cons y r =>
   have:=hI.make_spare hp x mc
   have hc:=(hI.cover y).2 (.inr (List.mem_cons_self ..))
   exact ⟨by rw [if_neg (by simp)];exact this.1,this.2,hc.1,by have:=hc.2;show y<=n;omega⟩
 obtain ⟨k1,k2,k3,k4⟩:=hkey
 refine ⟨k2,k3,k4,?_,_,_,_,_,_,_,_,(h.turnW _ _).turnM _ _ (h.clk.put _ _),k1,hP.put _ _ _,by rw [len_put k2]⟩
 have:=hP (nextI n spare)
 rw [k2] at this
 cases hq:M (nextI n spare) with
 | none=>rfl
 | some y=>rw [hq] at this;cases this
theorem make_any (x:Pg) (w:World) (h:PgOk w p c most M cnt) (hx:x.ok) (hroom:cnt+3<=most) :
  Calls Tryz.prog 131 #[ptrV p,.agg #[.int .i64 x.kind,.int .i64 x.next,strV x.body]] w (MakeP p c most M cnt x w):=by
 obtain ⟨n,made,was,mc,wc,dc,spare,hA,hI,hP,rfl⟩:=h
 obtain ⟨hx1,hx2,hx3,hx4,hx5⟩:=hx
 have hcount:=hI.count
 have hsm:=hA.dev.small
 obtain ⟨hsm1,hsm2⟩:=hsm
 have hnm:spare=[]->n+1<=most:=λ e=>by subst e;simp at hcount;omega
 have hsl:spare.length<=800000:=by omega
 have hA1:=hA.alloc (.cells #[.int .i64 x.kind,.int .i64 x.next,strV x.body] 215)
 have hnx:2<=nextI n spare/\nextI n spare<=n:=by
  cases spare with
  | nil=>exact ⟨by have:=hI.two;show 2<=(n:Int);omega,Int.le_refl _⟩
  | cons y r=>have:=(hI.cover y).2 (.inr (List.mem_cons_self ..));exact ⟨this.1,by show y<=n;omega⟩
 have hN:=Hdz (next_any _ hA1.drew hsl)
 have hS:=Hdz (λ W=>seal_ok (nextI n spare) x.kind x.next ⟨x.body.toArray⟩ W (by omega) (by omega) hx3 hx4 hx1 hx2 (by simp only [ByteArray.size,List.size_toArray];omega))
 have hT:=Hdz (λ W (hb:Below (w.alloc (.cells #[.int .i64 x.kind,.int .i64 x.next,strV x.body] 215)).heap.size (w.alloc (.cells #[.int .i64 x.kind,.int .i64 x.next,strV x.body] 215)) W) hm=>take_any W (hA1.below hb) hsl hm)
 have hE:=Hdz (λ (w':World) (c':Pc) (spare':List Int)=>make_end (p:=p) (most:=most) (M:=M) (mc:=mc) (wc:=wc) (dc:=dc) (w:=w') (c':=c') (spare':=spare') (x:=x) hI hP)
 have bx:Blk (w.alloc (.cells #[.int .i64 x.kind,.int .i64 x.next,strV x.body] 215)) w.heap.size 215 #[.int .i64 x.kind,.int .i64 x.next,strV x.body]:=Blk.new _ _ _
 have g0:(w.alloc (.cells #[.int .i64 x.kind,.int .i64 x.next,strV x.body] 215)).cell? ⟨p,0,none⟩=some (ptrV c.d):=hA1.blk.cell 0
 have HI:=Hdz hI
 have HP:=Hdz hP
 have HA:=Hdz hA
 have HA1:=Hdz hA1
 clear hI hP hA hA1 hcount
 go_enter Tryz.func131,Tryz.ntmps131
 go_wp2_with (fail)
 go_must (refine (pgNone_any _ _ _ g0).mono ?_)
 rintro e w1 ⟨rfl,rfl⟩
 go_wp2_with (fail)
 have x0:(w.alloc (.cells #[.int .i64 x.kind,.int .i64 x.next,strV x.body] 215)).cell? ⟨w.heap.size,0,none⟩=some (.int .i64 x.kind):=bx.cell 0
 have x1:(w.alloc (.cells #[.int .i64 x.kind,.int .i64 x.next,strV x.body] 215)).cell? ⟨w.heap.size,1,none⟩=some (.int .i64 x.next):=bx.cell 1
 have x2:(w.alloc (.cells #[.int .i64 x.kind,.int .i64 x.next,strV x.body] 215)).cell? ⟨w.heap.size,2,none⟩=some (strV x.body):=bx.cell 2
 have hzW:w.heap.size+1=(w.alloc (.cells #[.int .i64 x.kind,.int .i64 x.next,strV x.body] 215)).heap.size:=by simp
 refine wRz ?_
 try simp only [lAz]
 refine tA 0 ?_;try simp only [lAz]
 refine wpAny_ready (rs:=[1,2]) (by kernel_rfl) (by simp) (aCz (λ K hK=>?_) (aCz (λ K hK=>?_) AllReady.nil))
 ·go_simp
  (go_must (refine hN.out.mono ?_);rintro e w2 ⟨rfl,hb2⟩)
  have y0:w2.cell? ⟨w.heap.size,0,none⟩=some (.int .i64 x.kind):=(hb2.cell (p:=⟨w.heap.size,0,none⟩) (by simp)).trans x0
  have y1:w2.cell? ⟨w.heap.size,1,none⟩=some (.int .i64 x.next):=(hb2.cell (p:=⟨w.heap.size,1,none⟩) (by simp)).trans x1
  have y2:w2.cell? ⟨w.heap.size,2,none⟩=some (strV x.body):=(hb2.cell (p:=⟨w.heap.size,2,none⟩) (by simp)).trans x2
  go_simp
  apply hK
  clear hK K
  refine rZz 2 λ K hK=>?_;go_simp;apply hK;clear hK K
  refine rZz 3 λ K hK=>?_;go_simp
  (go_must (refine (hS.out w2).mono ?_);rintro e w3 ⟨⟨t,rfl⟩,hb3⟩)
  go_simp
  apply hK
  clear hK K
  refine rZz 4 λ K hK=>?_;go_simp;apply hK;clear hK K
  try simp only [lAz]
  refine tA 5 ?_;try simp only [lAz]
  refine tA 6 ?_;try simp only [lAz]
  refine rZz 7 λ K hK=>?_;go_simp;apply hK;clear hK K
  refine rZz 8 λ K hK=>?_;go_simp;apply hK;clear hK K
  refine wDz ?_
  have hbT:=(hb2.trans (hb3.mono hb2.size))
  go_wp2_with (fail)
  have hbT':Below (w.alloc (.cells #[.int .i64 x.kind,.int .i64 x.next,strV x.body] 215)).heap.size (w.alloc (.cells #[.int .i64 x.kind,.int .i64 x.next,strV x.body] 215)) w3:=⟨hbT.os,hbT.tape,hbT.output,hbT.size,hbT.block⟩
  have bx3:=bx.below' hbT'
  have hlt3:=hbT'.size
  have hAt3:=HA1.out.below hbT'
  have hroom3:spare=[]->n+1<=most:=hnm
  go_must (refine (hT.out w3 hbT' hnm).mono ?_)
  rintro e w4 ⟨c',spare',rfl,hA4,hperm,hK4,hmb,hwb⟩
  have hEE:=hE.out w4 c' spare' hA4 hperm
  obtain ⟨q1,q2,q3,q4,q5⟩:=hEE
  have hlt4:=hK4.keeps.size
  have hbig:w.heap.size<w3.heap.size:=by simp at hlt3;omega
  have hnS:¬ c.S p w.heap.size:=λ hh=>by have:=HA.out.lt _ hh;omega
  have bx4:=bx3.keeps hK4.keeps hnS
  have gw7:w4.cell? ⟨p,7,none⟩=some (.map (some c'.wb)):=hA4.blk.cell 7
  have hdl:=λ ty=>run_delete_I hA4.wwas (P:=Tryz.prog) Tryz.underlying209 Tryz.underlying3 ty (nextI n spare)
  have hA5:=hA4.turnW (delE was (nextI n spare)) wc
  have gw5:(turn w4 c'.wb (delE was (nextI n spare)) wc).cell? ⟨p,5,none⟩=some (.map (some c'.mb)):=hA5.blk.cell 5
  have y0:(turn w4 c'.wb (delE was (nextI n spare)) wc).cell? ⟨w.heap.size,0,none⟩=some (.int .i64 x.kind):=(hA4.wwas.cell_turn _ _ _).trans (bx4.cell 0)
  have y1:(turn w4 c'.wb (delE was (nextI n spare)) wc).cell? ⟨w.heap.size,1,none⟩=some (.int .i64 x.next):=(hA4.wwas.cell_turn _ _ _).trans (bx4.cell 1)
  have y2:(turn w4 c'.wb (delE was (nextI n spare)) wc).cell? ⟨w.heap.size,2,none⟩=some (strV x.body):=(hA4.wwas.cell_turn _ _ _).trans (bx4.cell 2)
  have hup:=run_update_I hA5.drew.mad (P:=Tryz.prog) Tryz.underlying208 Tryz.underlying3 (nextI n spare) (pgV x)
  unfold pgV strB at hup
  have HEnd:Hid (MakeP p c most M made.length x w (.returned (.tuple #[.int .i64 (nextI n spare),.int .i64 0])) (turn (turn w4 c'.wb (delE was (nextI n spare)) wc).drew c'.mb (putE made (nextI n spare) (pgV x) mc) (clockE made (nextI n spare) mc))):=by
   have hk0:PgK p c c w w3:=⟨Keeps.of_below ((Below.refl _ w).alloc (Nat.le_refl _) _ |>.trans (hbT'.mono (by simp))),λ _ h=>.inl h,rfl,rfl,rfl⟩
   have hk5:PgK p c' c' w4 (turn w4 c'.wb (delE was (nextI n spare)) wc):=PgK.turn (.inr rfl) _ _
   have hk6:PgK p c' c' (turn w4 c'.wb (delE was (nextI n spare)) wc) (turn w4 c'.wb (delE was (nextI n spare)) wc).drew:=⟨(Keeps.refl _ _).drew,λ _ h=>.inl h,rfl,rfl,rfl⟩
   have hk7:PgK p c' c' (turn w4 c'.wb (delE was (nextI n spare)) wc).drew (turn (turn w4 c'.wb (delE was (nextI n spare)) wc).drew c'.mb (putE made (nextI n spare) (pgV x) mc) (clockE made (nextI n spare) mc)):=PgK.turn (.inl rfl) _ _
   exact ⟨nextI n spare,c',rfl,q4,q2,by omega,q5.below (Below.refl _ _).drew,(((hk0.trans hK4).trans hk5).trans hk6).trans hk7⟩
  unfold pgV strB at HEnd
  clear hmb hwb hA4 hA5 hK4 q1 q4 q5 hT hE hS hN hAt3 hbT hbT' hroom3 HA1 HA HI HP
  go_wp2_with (fail)
  refine wRz ?_
  try simp only [lAz]
  refine tA 0 ?_;try simp only [lAz]
  refine tA 1 ?_;try simp only [lAz]
  refine tA 2 ?_;try simp only [lAz]
  refine tA 4 ?_;try simp only [lAz]
  refine wpAny_ready (rs:=[3,5]) (by kernel_rfl) (by simp) (aCz (λ K hK=>?_) (aCz (λ K hK=>?_) AllReady.nil))
  ·go_simp
   apply hK
   clear hK K
   refine rZz 5 λ K hK=>?_;go_simp;apply hK;clear hK K
   refine rZz 6 λ K hK=>?_;go_simp;apply hK;clear hK K
   refine wDz ?_
   go_wp2
   go_ret2
   exact HEnd.out
  ·go_simp
   apply hK
   clear hK K
   refine rZz 3 λ K hK=>?_;go_simp;apply hK;clear hK K
   refine rZz 6 λ K hK=>?_;go_simp;apply hK;clear hK K
   refine wDz ?_
   go_wp2
   go_ret2
   exact HEnd.out
 ·go_simp
  apply hK
  clear hK K
  refine rZz 1 λ K hK=>?_;go_simp
  (go_must (refine hN.out.mono ?_);rintro e w2 ⟨rfl,hb2⟩)
  go_simp
  apply hK
  clear hK K
  refine rZz 3 λ K hK=>?_;go_simp
  (go_must (refine (hS.out w2).mono ?_);rintro e w3 ⟨⟨t,rfl⟩,hb3⟩)
  go_simp
  apply hK
  clear hK K
  refine rZz 4 λ K hK=>?_;go_simp;apply hK;clear hK K
  try simp only [lAz]
  refine tA 5 ?_;try simp only [lAz]
  refine tA 6 ?_;try simp only [lAz]
  refine rZz 7 λ K hK=>?_;go_simp;apply hK;clear hK K
  refine rZz 8 λ K hK=>?_;go_simp;apply hK;clear hK K
  refine wDz ?_
  have hbT:=(hb2.trans (hb3.mono hb2.size))
  go_wp2_with (fail)
  have hbT':Below (w.alloc (.cells #[.int .i64 x.kind,.int .i64 x.next,strV x.body] 215)).heap.size (w.alloc (.cells #[.int .i64 x.kind,.int .i64 x.next,strV x.body] 215)) w3:=⟨hbT.os,hbT.tape,hbT.output,hbT.size,hbT.block⟩
  have bx3:=bx.below' hbT'
  have hlt3:=hbT'.size
  have hAt3:=HA1.out.below hbT'
  have hroom3:spare=[]->n+1<=most:=hnm
  go_must (refine (hT.out w3 hbT' hnm).mono ?_)
  rintro e w4 ⟨c',spare',rfl,hA4,hperm,hK4,hmb,hwb⟩
  have hEE:=hE.out w4 c' spare' hA4 hperm
  obtain ⟨q1,q2,q3,q4,q5⟩:=hEE
  have hlt4:=hK4.keeps.size
  have hbig:w.heap.size<w3.heap.size:=by simp at hlt3;omega
  have hnS:¬ c.S p w.heap.size:=λ hh=>by have:=HA.out.lt _ hh;omega
  have bx4:=bx3.keeps hK4.keeps hnS
  have gw7:w4.cell? ⟨p,7,none⟩=some (.map (some c'.wb)):=hA4.blk.cell 7
  have hdl:=λ ty=>run_delete_I hA4.wwas (P:=Tryz.prog) Tryz.underlying209 Tryz.underlying3 ty (nextI n spare)
  have hA5:=hA4.turnW (delE was (nextI n spare)) wc
  have gw5:(turn w4 c'.wb (delE was (nextI n spare)) wc).cell? ⟨p,5,none⟩=some (.map (some c'.mb)):=hA5.blk.cell 5
  have y0:(turn w4 c'.wb (delE was (nextI n spare)) wc).cell? ⟨w.heap.size,0,none⟩=some (.int .i64 x.kind):=(hA4.wwas.cell_turn _ _ _).trans (bx4.cell 0)
  have y1:(turn w4 c'.wb (delE was (nextI n spare)) wc).cell? ⟨w.heap.size,1,none⟩=some (.int .i64 x.next):=(hA4.wwas.cell_turn _ _ _).trans (bx4.cell 1)
  have y2:(turn w4 c'.wb (delE was (nextI n spare)) wc).cell? ⟨w.heap.size,2,none⟩=some (strV x.body):=(hA4.wwas.cell_turn _ _ _).trans (bx4.cell 2)
  have hup:=run_update_I hA5.drew.mad (P:=Tryz.prog) Tryz.underlying208 Tryz.underlying3 (nextI n spare) (pgV x)
  unfold pgV strB at hup
  have HEnd:Hid (MakeP p c most M made.length x w (.returned (.tuple #[.int .i64 (nextI n spare),.int .i64 0])) (turn (turn w4 c'.wb (delE was (nextI n spare)) wc).drew c'.mb (putE made (nextI n spare) (pgV x) mc) (clockE made (nextI n spare) mc))):=by
   have hk0:PgK p c c w w3:=⟨Keeps.of_below ((Below.refl _ w).alloc (Nat.le_refl _) _ |>.trans (hbT'.mono (by simp))),λ _ h=>.inl h,rfl,rfl,rfl⟩
   have hk5:PgK p c' c' w4 (turn w4 c'.wb (delE was (nextI n spare)) wc):=PgK.turn (.inr rfl) _ _
   have hk6:PgK p c' c' (turn w4 c'.wb (delE was (nextI n spare)) wc) (turn w4 c'.wb (delE was (nextI n spare)) wc).drew:=⟨(Keeps.refl _ _).drew,λ _ h=>.inl h,rfl,rfl,rfl⟩
   have hk7:PgK p c' c' (turn w4 c'.wb (delE was (nextI n spare)) wc).drew (turn (turn w4 c'.wb (delE was (nextI n spare)) wc).drew c'.mb (putE made (nextI n spare) (pgV x) mc) (clockE made (nextI n spare) mc)):=PgK.turn (.inl rfl) _ _
   exact ⟨nextI n spare,c',rfl,q4,q2,by omega,q5.below (Below.refl _ _).drew,(((hk0.trans hK4).trans hk5).trans hk6).trans hk7⟩
  unfold pgV strB at HEnd
  clear hmb hwb hA4 hA5 hK4 q1 q4 q5 hT hE hS hN hAt3 hbT hbT' hroom3 HA1 HA HI HP
  go_wp2_with (fail)
  refine wRz ?_
  try simp only [lAz]
  refine tA 0 ?_;try simp only [lAz]
  refine tA 1 ?_;try simp only [lAz]
  refine tA 2 ?_;try simp only [lAz]
  refine tA 4 ?_;try simp only [lAz]
  refine wpAny_ready (rs:=[3,5]) (by kernel_rfl) (by simp) (aCz (λ K hK=>?_) (aCz (λ K hK=>?_) AllReady.nil))
  ·go_simp
   apply hK
   clear hK K
   refine rZz 5 λ K hK=>?_;go_simp;apply hK;clear hK K
   refine rZz 6 λ K hK=>?_;go_simp;apply hK;clear hK K
   refine wDz ?_
   go_wp2
   go_ret2
   exact HEnd.out
  ·go_simp
   apply hK
   clear hK K
   refine rZz 3 λ K hK=>?_;go_simp;apply hK;clear hK K
   refine rZz 6 λ K hK=>?_;go_simp;apply hK;clear hK K
   refine wDz ?_
   go_wp2
   go_ret2
   exact HEnd.out
end
theorem load_var {w:World} {t:TypeId} {b:Nat} (vs:List Value) (hB:rowB0 Tryz.prog t vs.length=true) (h:∀ j u,vs[j]? = some u->w.cell? ⟨b,j,none⟩=some u):(loadVar t ⟨b,0,none⟩).run Tryz.prog w=.ok (.agg vs.toArray) w:=by
 have:=load_cells (w:=w) (t:=t) (b:=b) (o:=0) vs hB (λ j u hu=>by rw [Nat.zero_add];exact h j u hu)
 simpa only [Instr.loadAt,Instr.sureAddr,Sem.run_bind,Sem.run_pure,Result.andThen_ok] using this
theorem res_row {fn:Func} {p u:Tmp} {t:TypeId} {b:Nat} {tmps:Array Value} {w:World} {x:Value} (vs:List Value) (h:fn.results=#[.cell p t,.tmp u]) (hp:tmps.getD p undef=ptrV b) (hu:tmps.getD u undef=x) (hB:rowB0 Tryz.prog t vs.length=true) (hb:Blk w b t vs.toArray) :
  (results fn tmps).run Tryz.prog w=.ok (.tuple #[.agg vs.toArray,x]) w:=by
 rw [results_cell_tmp h,hp]
 have:=load_var (w:=w) (t:=t) (b:=b) vs hB (λ j v hj=>by rw [hb.cell j];simpa using hj)
 simp only [asAddr,Sem.run_pure,Result.andThen_ok,this,hu]
section
variable {p:Nat} {c:Pc} {most cnt:Nat} {M:Store}
theorem read_some (id:Int) (x:Pg) (w:World) (h:PgOk w p c most M cnt) (hx:M id=some x) :
  Calls Tryz.prog 188 #[ptrV p,.int .i64 id] w λ e w'=>e=.returned (.tuple #[.agg #[.int .i64 x.kind,.int .i64 x.next,strV x.body],.int .i64 0])/\Below w.heap.size w w':=by
 obtain ⟨n,made,was,mc,wc,dc,spare,hA,hI,hP,rfl⟩:=h
 have hk:id∈keysE made:=(hP.key id).2 (by rw [hx];rfl)
 have hr:=(hI.cover id).2 (.inl hk)
 obtain ⟨hr1,hr2⟩:=hr
 have hA1:=hA.alloc (.cells #[.int .i64 0,.int .i64 0,.string ⟨#[]⟩] 215)
 have g0:(w.alloc (.cells #[.int .i64 0,.int .i64 0,.string ⟨#[]⟩] 215)).cell? ⟨p,0,none⟩=some (ptrV c.d):=hA1.blk.cell 0
 have g3:(w.alloc (.cells #[.int .i64 0,.int .i64 0,.string ⟨#[]⟩] 215)).cell? ⟨p,3,none⟩=some (.int .i64 n):=hA1.blk.cell 3
 have g5:(w.alloc (.cells #[.int .i64 0,.int .i64 0,.string ⟨#[]⟩] 215)).cell? ⟨p,5,none⟩=some (.map (some c.mb)):=hA1.blk.cell 5
 have hl:=look_made hA1.mad hP id
 rw [hx] at hl
 simp only [Option.map_some,Option.getD_some,Option.isSome_some,pgV,strB] at hl
 clear hA hA1 hI hP hx hk
 go_enter Tryz.func188,Tryz.ntmps188
 go_wp2_with (fail)
 go_must (refine (pgNone_any _ _ _ g0).mono ?_)
 rintro e w1 ⟨rfl,rfl⟩
 go_wp2_with (fail)
 refine bodyPost_ret (res_row [.int .i64 x.kind,.int .i64 x.next,strV x.body] rfl rfl rfl (by kernel_rfl) (Blk.alloc (Blk.new _ _ _) _)) rfl ?_
 exact ⟨rfl,((Below.refl _ _).alloc (Nat.le_refl _) _).alloc (by simp) _⟩
end
section
variable {p:Nat} {c:Pc} {most cnt:Nat} {M:Store}
theorem back_any {n:Nat} {made was:List Ent} {mc wc dc:Nat} {spare:List Int} (id:Int) (w:World) (h:PgAt w p c most n n made was mc wc dc spare) (h2:2<=id) (hs:spare.length<=700000) :
  Calls Tryz.prog 190 #[ptrV p,.int .i64 id] w λ e w'=>e=.returned (.tuple #[])/\∃ v' ys,Pl w' c.sb v' ys/\ys.Perm (id :: spare)/\PlK c.sb c.sv v' w w':=by
 have g2:w.cell? ⟨p,2,none⟩=some (.int .i64 2):=h.blk.cell 2
 have g8:w.cell? ⟨p,8,none⟩=some (ptrV c.sb):=h.blk.cell 8
 have h2':¬ id<2:=by omega
 have bn:Blk (w.alloc (.cells #[.int .i64 id] 3)) w.heap.size 3 #[.int .i64 id]:=Blk.new _ _ _
 have hsl:Sl (w.alloc (.cells #[.int .i64 id] 3)) 1 (.slice (some ⟨w.heap.size,0,none⟩) 1 1) 1 (intsV [id]):=by
  refine ⟨_,_,rfl,Nat.le_refl _,rfl,λ _=>⟨w.heap.size,0,rfl,by simp,λ j u hu=>?_⟩⟩
  rw [Nat.zero_add,bn.cell j]
  cases j with
  | zero=>cases hu;rfl
  | succ j=>simp [intsV] at hu
 have hlt:=h.lt
 have hP:=Hdz (pilePut_any c.sb c.sv spare [id] (some ⟨w.heap.size,0,none⟩) 1 1 _ (h.alloc (.cells #[.int .i64 id] 3)).spr hsl (by
  intro a ha
  cases ha
  rintro (e | e)
  ·have:=hlt c.sb (.inl (by simp [Pc.ids]));have e':w.heap.size=c.sb:=e;omega
  ·have:=hlt w.heap.size (.inr (.inl e));omega) (by omega))
 have HB:Hid (∀ (v':Value) (w':World),PlK c.sb c.sv v' (w.alloc (.cells #[.int .i64 id] 3)) w'->PlK c.sb c.sv v' w w'):=(λ v' w' hk=>by
  refine ⟨((Keeps.refl _ w).alloc _).trans hk.1 (λ _ _ h=>h),λ k hk'=>?_⟩
  rcases hk.2 k hk' with h1 | h1
  ·exact .inl h1
  ·rw [alloc_size1] at h1;exact .inr (by omega))
 clear h hsl bn
 go_enter Tryz.func190,Tryz.ntmps190
 go_wp2_with (fail)
 go_must (refine hP.out.mono ?_)
 rintro e w1 ⟨rfl,v',ys,h3,h4,h5⟩
 go_wp2_with (fail)
 refine bodyPost_end (results_none rfl _ _ _) rfl ?_
 exact ⟨rfl,v',ys,h3,h4,HB.out _ _ h5⟩
def DropP (p:Nat) (c:Pc) (most:Nat) (M:Store) (cnt:Nat) (id:Int) (w:World) (e:Ending) (w':World):Prop:=
 e=.returned (.int .i64 0)/\∃ c',PgOk w' p c' most (updS M id none) (cnt-1)/\PgK p c c' w w'
theorem drop_any (id:Int) (x:Pg) (w:World) (h:PgOk w p c most M cnt) (hx:M id=some x) :
  Calls Tryz.prog 137 #[ptrV p,.int .i64 id] w (DropP p c most M cnt id w):=by
 have hRd:=Hdz (read_some id x w h hx)
 obtain ⟨n,made,was,mc,wc,dc,spare,hA,hI,hP,rfl⟩:=h
 have hcount:=hI.count
 obtain ⟨hsm1,hsm2⟩:=hA.dev.small
 have hsl:spare.length<=700000:=by omega
 have hk:id∈keysE made:=(hP.key id).2 (by rw [hx];rfl)
 have h2:=((hI.cover id).2 (.inl hk)).1
 have hgm:getE made id=some (pgV x):=by rw [hP id,hx];rfl
 have HA:=Hdz hA
 have HI:=Hdz hI
 have HP:=Hdz hP
 have hOwn:=Hdz (λ W (hW:PgAt W p c most n n made was mc wc dc spare)=>own_any id W hW hP)
 have HX:=Hdz hx
 have HG:=Hdz hgm
 clear hA hI hP hx hk hcount hgm
 go_enter Tryz.func137,Tryz.ntmps137
 go_wp2_with (fail)
 go_must (refine hRd.out.mono ?_)
 rintro e w1 ⟨rfl,hb1⟩
 go_wp2_with (fail)
 have hA1:=(HA.out.below hb1).alloc (.cells #[.int .i64 x.kind,.int .i64 x.next,strV x.body] 215)
 have hO:=hOwn.out _ hA1
 rw [HX.out] at hO
 simp only [Option.isSome_some] at hO
 go_must (refine hO.mono ?_)
 rintro e w2 ⟨rfl,hb2⟩
 have hA2:=hA1.below hb2
 have g5:w2.cell? ⟨p,5,none⟩=some (.map (some c.mb)):=hA2.blk.cell 5
 have hdl:=λ ty=>run_delete_I hA2.mad (P:=Tryz.prog) Tryz.underlying208 Tryz.underlying3 ty id
 have hA3:=hA2.turnM (delE made id) mc (hA2.clk.del _)
 have g7:(turn w2 c.mb (delE made id) mc).cell? ⟨p,7,none⟩=some (.map (some c.wb)):=hA3.blk.cell 7
 have hup:=run_update_I hA3.wwas (P:=Tryz.prog) Tryz.underlying209 Tryz.underlying3 id (.agg #[])
 have hA4:=hA3.turnW (putE was id (.agg #[]) wc) (clockE was id wc)
 have hB:=Hdz (back_any id _ hA4 h2 hsl)
 have hbb:Below w.heap.size w w2:=(hb1.alloc hb1.size _).trans (hb2.mono (by have:=hb1.size;simp;omega))
 have HEnd:Hid (∀ w5 v' ys,Pl w5 c.sb v' ys->ys.Perm (id :: spare)->PlK c.sb c.sv v' (turn (turn w2 c.mb (delE made id) mc) c.wb (putE was id (.agg #[]) wc) (clockE was id wc)) w5->DropP p c most M made.length id w (.returned (.int .i64 0)) w5):=by
  intro w5 v' ys q1 q2 q3
  refine ⟨rfl,{ c with sv:=v' },⟨n,_,_,_,_,_,ys,hA4.pile q1 q3,HI.out.drop HG.out q2 wc,HP.out.del HI.out.nodM id,?_⟩,?_⟩
  ·have:=len_del HG.out;omega
  ·exact (((PgK.of_below hbb).trans (PgK.turn (.inl rfl) _ _)).trans (PgK.turn (.inr rfl) _ _)).trans (PgK.pile q3)
 clear hA1 hA2 hA3 hA4 HA HI HP hOwn HX HG hRd
 go_wp2_with (fail)
 go_must (refine hB.out.mono ?_)
 rintro e w5 ⟨rfl,v',ys,q1,q2,q3⟩
 go_wp2_with (fail)
 go_ret
 exact HEnd.out _ _ _ q1 q2 q3
end
theorem ChainAt.pos {M:Store} {id:Int} {v:Bytes} {ids:List Int} (h:ChainAt M id v ids):1<=v.length:=by
 cases h with
 | last _ h1 _=>exact h1
 | more _ h1 _ _=>rw [List.length_append];omega
theorem ChainAt.head {M:Store} {id:Int} {v:Bytes} {ids:List Int} (h:ChainAt M id v ids) :
  (M id=some ⟨4,0,v⟩/\v.length<=240/\ids=[id])\/∃ next b rest r,M id=some ⟨4,next,b⟩/\b.length=240/\next≠0/\v=b++rest/\ids=id :: r/\ChainAt M next rest r:=by
 cases h with
 | last h1 h2 h3=>exact .inl ⟨h1,h3,rfl⟩
 | more h1 h2 h3 h4=>exact .inr ⟨_,_,_,_,h1,h2,h3,rfl,rfl,h4⟩
theorem bd_len {w:World} {B b:Nat} {F:Option Nat} {l:Bytes} (h:Bd w B b F l) :
  Calls Tryz.prog 143 #[.pointer (some ⟨b,0,none⟩)] w λ e w'=>e=.returned (.int .i64 l.length)/\w=w':=by
 obtain ⟨hB,p,v,hp,hbk,hown,hF,hne⟩:=h
 obtain ⟨A,n,c,rfl⟩:∃ A n c,v=.slice A n c:=by
  rcases hown.2 with ⟨rfl,_⟩ | ⟨g,cap,cur,fz,rfl,_⟩
  ·exact ⟨_,_,_,rfl⟩
  ·exact ⟨_,_,_,rfl⟩
 have hn:n=l.length:=by
  rcases hown.2 with ⟨h1,h2⟩ | ⟨g,cap,cur,fz,h1,_⟩
  ·simp only [Value.slice.injEq] at h1;omega
  ·simp only [Value.slice.injEq] at h1;exact h1.2.1
 have c1:w.cell? ⟨b,1,none⟩=some (.slice A n c):=by rw [cell_of_row w b 1 _ _ (0,0) hbk];rfl
 go_enter Tryz.func143,Tryz.ntmps143
 go_wp2
 go_ret
 exact ⟨rfl,rfl⟩
theorem own_not_bd {w:World} {B b base n:Nat} {F:Option Nat} {l:Bytes} {v:Value} {xs:List Value} (h:Bd w B b F l) (ho:w.ownsRow base 3 1 v n xs):∀ k,v.ownBlock=some k->¬ BdS b F k:=by
 intro k hk
 rcases ho.2 with ⟨rfl,_⟩ | ⟨g,cap,cur,rfl,_,hg,_⟩
 ·cases hk
 ·simp only [Value.ownBlock,Option.some.injEq] at hk
  subst hk
  rintro (e | e)
  ·obtain ⟨_,p,v,_,hbk,_⟩:=h
   rw [e,hbk] at hg
   simp at hg
  ·obtain ⟨_,p,v,_,hbk,hown,hF,_⟩:=h
   rw [<- hF] at e
   rcases hown.2 with ⟨rfl,_⟩ | ⟨g',cap',cur',fz,rfl,_,hg',_⟩
   ·cases e
   ·simp only [Value.ownBlock,Option.some.injEq] at e
    rw [e,hg'] at hg
    simp at hg
section
variable {p:Nat} {c:Pc} {most cnt:Nat} {M:Store}
def WalkP (v:Bytes) (ids:List Int) (w:World) (e:Ending) (w':World):Prop:=∃ r,e=.returned (.tuple #[r,strV v,.int .i64 0])/\w'.ownsRow w.heap.size 3 1 r ids.length (intsV ids)/\Below w.heap.size w w'
theorem walk_ok (id:Int) (v:Bytes) (ids:List Int) (w:World) (h:PgOk w p c most M cnt) (hc:ChainAt M id v ids) (hv:v.length<=2000) (hidsl:ids.length<=2000) :
  Calls Tryz.prog 227 #[ptrV p,.int .i64 id,.int .i64 v.length] w (WalkP v ids w):=by
 obtain ⟨i0,hi,hz0,hz1,hz2⟩:=info_parts infoInt
 have hpos:=hc.pos
 have hnl:¬ ((v.length:Int)<1):=by omega
 have hnm:¬ (2000<(v.length:Int)):=by omega
 go_enter Tryz.func227,Tryz.ntmps227
 go_wp2
 go_loopg [9,11] ids.length (λ gk s9 s11 wr=>∃ (done rest:Bytes) (d1 r1:List Int) (cur:Int) (F:Option Nat),s11=.int .i64 cur/\r1.length<=gk/\Hid (v=done++rest)/\Hid (ids=d1++r1)/\Hid (ChainAt M cur rest r1)/\Bd wr w.heap.size w.heap.size F done/\wr.ownsRow w.heap.size 3 1 s9 d1.length (intsV d1)/\Below w.heap.size w wr)
 case atStart=>exact ⟨[],v,[],ids,id,none,rfl,Nat.le_refl _,rfl,rfl,hc,Bd.new w,World.ownsRow_nil _ _ _ _,(Below.refl _ _).alloc (Nat.le_refl _) _⟩
 case round =>
  obtain ⟨done,rest,d1,r1,cur,F,rfl,hg,hv1,hi1,hc1,hB,hown,hb⟩:=hrel
  have hpg:=h.below hb
  have hBlt:=hB.lt
  rcases hc1.out.head with ⟨hm,hle0,hids⟩ | ⟨next,bs,rest',r,hm,hbl,hn0,hrest,hids,hc2⟩
  ·clear hc1
   have hne:done++rest≠[]:=by intro e;have:=congrArg List.length e;rw [<- hv1.out,List.length_nil] at this;omega
   have HIds:Hid (ids=d1++[cur]):=by show _=_;rw [hi1.out,hids]
   have HX:=Hdz (read_some cur ⟨4,0,rest⟩ wr hpg hm)
   have hz:=hb.size
   have hvl:v.length=done.length+rest.length:=by rw [hv1.out,List.length_append]
   have hil:ids.length=d1.length+r1.length:=by rw [hi1.out,List.length_append]
   have hr1p:1<=r1.length:=by rw [hids];simp
   have hidl:ids.length<=2000:=hidsl
   have e1:(v.length:Int)-(done.length:Int)=(rest.length:Int):=by omega
   have hBl:done.length<=2000:=by omega
   have hd1:d1.length<=2000:=by omega
   have hdr:done.length+rest.length<=2000:=by omega
   have e2:min (rest.length:Int) 240=(rest.length:Int):=by omega
   have hle:(rest.length:Int)<=240:=by omega
   have HV:=Hdz hv1
   have hvlB:=Hdz hvl
   have hilB:=Hdz hil
   clear hm hvl hil hids
   go_wp2_with (fail)
   go_must (refine HX.out.mono ?_)
   rintro e w1 ⟨rfl,hb1⟩
   have hs1:=hb1.size
   have hsw1:w.heap.size<=w1.heap.size:=by omega
   have hB1:=(hB.below hb1).alloc (.cells #[.int .i64 4,.int .i64 0,strV rest] 215)
   have own1:=(own_below hown hb1).alloc (.cells #[.int .i64 4,.int .i64 0,strV rest] 215)
   have bx1:Blk (w1.alloc (.cells #[.int .i64 4,.int .i64 0,strV rest] 215)) w1.heap.size 215 #[.int .i64 4,.int .i64 0,strV rest]:=Blk.new _ _ _
   have x0:(w1.alloc (.cells #[.int .i64 4,.int .i64 0,strV rest] 215)).cell? ⟨w1.heap.size,0,none⟩=some (.int .i64 4):=bx1.cell 0
   have x1:(w1.alloc (.cells #[.int .i64 4,.int .i64 0,strV rest] 215)).cell? ⟨w1.heap.size,1,none⟩=some (.int .i64 0):=bx1.cell 1
   have x2:(w1.alloc (.cells #[.int .i64 4,.int .i64 0,strV rest] 215)).cell? ⟨w1.heap.size,2,none⟩=some (strV rest):=bx1.cell 2
   have hbW:Below w.heap.size w (w1.alloc (.cells #[.int .i64 4,.int .i64 0,strV rest] 215)):=(hb.trans (hb1.mono hz)).alloc (by omega) _
   go_wp2_with (fail)
   go_must (refine (bd_len hB1).mono ?_)
   rintro e w2 ⟨rfl,rfl⟩
   go_wp2_with (fail)
   go_must (refine (bw_string hB1 rest (by omega) (by simp;omega)).mono ?_)
   rintro e w3 ⟨rfl,⟨F3,hB3⟩,K3⟩
   have own3:=own_keeps own1 K3 (own_not_bd hB1 own1)
   have hbb3:w1.heap.size≠w.heap.size:=by omega
   have bx3:=bx1.keeps K3 (hB1.not bx1 (by decide) hbb3)
   have x31:w3.cell? ⟨w1.heap.size,1,none⟩=some (.int .i64 0):=bx3.cell 1
   have hbW3:Below w.heap.size w w3:=hbW.trans (hB1.below_of K3 (by simp;omega))
   have hs3:=hbW3.size
   have hbx:=bx3.lt
   go_wp2_with (at_builtin;go_must (refine wpList_append_own _ rfl _ _ 35 rfl w.heap.size 3 i0 _ 1 8 Tryz.underlying35 hi hz0 hz1 hz2 rfl (by decide) _ d1.length (intsV d1) rfl (own3.alloc _) ⟨w3.heap.size,0,none⟩ 1 1 [.int .i64 cur] rfl rfl (row_newS _ _ _ _ rfl) (by simp [Value.oneCell']) (by unfold maxLen;omega) (by omega) (by simp;omega) ?_))
   intro v4 w4 own4 hg4 _
   have K4:Keeps (λ k=>_=some k) w3 w4:=((Keeps.refl (λ k=>_=some k) _).alloc _).grown hg4 (λ k hk _=>hk)
   have hB4:=hB3.keeps K4 (λ e=>own_not_bd hB3 own3 _ e (.inl rfl)) (λ k hk e=>own_not_bd hB3 own3 _ e (.inr hk.symm))
   have bx4:=bx3.keeps K4 (λ e=>own_ne own3 bx3 (by decide) _ e rfl)
   have x41:w4.cell? ⟨w1.heap.size,1,none⟩=some (.int .i64 0):=bx4.cell 1
   have hbW4:Below w.heap.size w w4:=hbW3.trans (K4.below hs3 (λ i hi hk=>by have:=(own3.lt i hk).1;omega))
   have own4':w4.ownsRow w.heap.size 3 1 v4 (d1++[cur]).length (intsV (d1++[cur])):=by rw [intsV_snoc,List.length_append];exact own4
   have HO4:=Hdz own4'
   clear own4 own4'
   go_wp2_with (fail)
   go_must (refine (bw_text_ne hB4 hne).mono ?_)
   rintro e w5 ⟨rfl,_,K5⟩
   go_wp2_with (fail)
   refine bodyPost_ret (v:=.tuple #[v4,strV (done++rest),.int .i64 0]) (by simp [results,Tryz.results227,go_sem]) rfl ?_
   have own5:=own_keeps HO4.out K5 (own_not_bd hB4 HO4.out)
   refine ⟨v4,by rw [HV.out],?_,hbW4.trans (hB4.below_of K5 hbW4.size)⟩
   rw [HIds.out]
   exact own5
  ·have hrp:=hc2.pos
   have HC2:=Hdz hc2
   have hrl:rest.length=bs.length+rest'.length:=by rw [hrest,List.length_append]
   have HI2:Hid (ids=(d1++[cur])++r):=by show _=_;rw [hi1.out,hids];simp
   have hv1:Hid (v=done++(bs++rest')):=by show _=_;rw [hv1.out,hrest]
   have hrr:r.length<gk:=by rw [hids] at hg;simp at hg;omega
   have hrl2:rest.length=240+rest'.length:=by omega
   subst hrest
   obtain ⟨rl,hrl3,hrl4⟩:∃ rl,rl<=(bs++rest').length/\(bs++rest').length<=rl:=⟨_,Nat.le_refl _,Nat.le_refl _⟩
   clear hc1 hc2 hrl
   have HX:=Hdz (read_some cur ⟨4,next,bs⟩ wr hpg hm)
   have hz:=hb.size
   have hvl:v.length=done.length+(bs++rest').length:=by rw [hv1.out,List.length_append]
   have hil:ids.length=d1.length+r1.length:=by rw [hi1.out,List.length_append]
   have hr1p:1<=r1.length:=by rw [hids];simp
   have hidl:ids.length<=2000:=hidsl
   have e1:(v.length:Int)-(done.length:Int)=(rl:Int):=by omega
   have hBl:done.length<=2000:=by omega
   have hd1:d1.length<=2000:=by omega
   have hdr:done.length+bs.length<=2000:=by omega
   have e2:min (rl:Int) 240=240:=by omega
   have e3:(bs.length:Int)=240:=by omega
   have hle:¬ (rl:Int)<=240:=by omega
   have hnx:(next==0)=false:=by simpa using hn0
   have HV:=Hdz hv1
   have hvlB:=Hdz hvl
   have hrlB:=Hdz hrl2
   clear hrl2 hrl3 hrl4
   have hilB:=Hdz hil
   clear hm hvl hil hids
   go_wp2_with (fail)
   go_must (refine HX.out.mono ?_)
   rintro e w1 ⟨rfl,hb1⟩
   have hs1:=hb1.size
   have hsw1:w.heap.size<=w1.heap.size:=by omega
   have hB1:=(hB.below hb1).alloc (.cells #[.int .i64 4,.int .i64 next,strV bs] 215)
   have own1:=(own_below hown hb1).alloc (.cells #[.int .i64 4,.int .i64 next,strV bs] 215)
   have bx1:Blk (w1.alloc (.cells #[.int .i64 4,.int .i64 next,strV bs] 215)) w1.heap.size 215 #[.int .i64 4,.int .i64 next,strV bs]:=Blk.new _ _ _
   have x0:(w1.alloc (.cells #[.int .i64 4,.int .i64 next,strV bs] 215)).cell? ⟨w1.heap.size,0,none⟩=some (.int .i64 4):=bx1.cell 0
   have x1:(w1.alloc (.cells #[.int .i64 4,.int .i64 next,strV bs] 215)).cell? ⟨w1.heap.size,1,none⟩=some (.int .i64 next):=bx1.cell 1
   have x2:(w1.alloc (.cells #[.int .i64 4,.int .i64 next,strV bs] 215)).cell? ⟨w1.heap.size,2,none⟩=some (strV bs):=bx1.cell 2
   have hbW:Below w.heap.size w (w1.alloc (.cells #[.int .i64 4,.int .i64 next,strV bs] 215)):=(hb.trans (hb1.mono hz)).alloc (by omega) _
   go_wp2_with (fail)
   go_must (refine (bd_len hB1).mono ?_)
   rintro e w2 ⟨rfl,rfl⟩
   go_wp2_with (fail)
   go_must (refine (bw_string hB1 bs (by omega) (by simp;omega)).mono ?_)
   rintro e w3 ⟨rfl,⟨F3,hB3⟩,K3⟩
   have own3:=own_keeps own1 K3 (own_not_bd hB1 own1)
   have hbb3:w1.heap.size≠w.heap.size:=by omega
   have bx3:=bx1.keeps K3 (hB1.not bx1 (by decide) hbb3)
   have x31:w3.cell? ⟨w1.heap.size,1,none⟩=some (.int .i64 next):=bx3.cell 1
   have hbW3:Below w.heap.size w w3:=hbW.trans (hB1.below_of K3 (by simp;omega))
   have hs3:=hbW3.size
   have hbx:=bx3.lt
   go_wp2_with (at_builtin;go_must (refine wpList_append_own _ rfl _ _ 35 rfl w.heap.size 3 i0 _ 1 8 Tryz.underlying35 hi hz0 hz1 hz2 rfl (by decide) _ d1.length (intsV d1) rfl (own3.alloc _) ⟨w3.heap.size,0,none⟩ 1 1 [.int .i64 cur] rfl rfl (row_newS _ _ _ _ rfl) (by simp [Value.oneCell']) (by unfold maxLen;omega) (by omega) (by simp;omega) ?_))
   intro v4 w4 own4 hg4 _
   have K4:Keeps (λ k=>_=some k) w3 w4:=((Keeps.refl (λ k=>_=some k) _).alloc _).grown hg4 (λ k hk _=>hk)
   have hB4:=hB3.keeps K4 (λ e=>own_not_bd hB3 own3 _ e (.inl rfl)) (λ k hk e=>own_not_bd hB3 own3 _ e (.inr hk.symm))
   have bx4:=bx3.keeps K4 (λ e=>own_ne own3 bx3 (by decide) _ e rfl)
   have x41:w4.cell? ⟨w1.heap.size,1,none⟩=some (.int .i64 next):=bx4.cell 1
   have hbW4:Below w.heap.size w w4:=hbW3.trans (K4.below hs3 (λ i hi hk=>by have:=(own3.lt i hk).1;omega))
   have own4':w4.ownsRow w.heap.size 3 1 v4 (d1++[cur]).length (intsV (d1++[cur])):=by rw [intsV_snoc,List.length_append];exact own4
   have HO4:=Hdz own4'
   clear own4 own4'
   go_wp2_with (fail)
   go_roundg r.length
   case measure=>omega
   case rel=>exact ⟨done++bs,rest',d1++[cur],r,next,F3,rfl,Nat.le_refl _,by show _=_;rw [HV.out];simp,HI2,HC2,hB4,HO4.out,hbW4⟩
end
section
variable {p:Nat} {c:Pc} {most cnt:Nat} {M:Store}
theorem overPages_ok (id:Int) (v:Bytes) (ids:List Int) (w:World) (h:PgOk w p c most M cnt) (hc:ChainAt M id v ids) (hv:v.length<=2000) (hidsl:ids.length<=2000) :
  Calls Tryz.prog 196 #[ptrV p,.int .i64 id,.int .i64 v.length] w λ e w'=>∃ r,e=.returned (.tuple #[r,.int .i64 0])/\w'.ownsRow w.heap.size 3 1 r ids.length (intsV ids)/\Below w.heap.size w w':=by
 have hW:=Hdz (walk_ok id v ids w h hc hv hidsl)
 clear h hc
 go_enter Tryz.func196,Tryz.ntmps196
 go_wp2_with (fail)
 go_must (refine hW.out.mono ?_)
 rintro e w1 ⟨r,rfl,hown,hb⟩
 go_wp2_with (fail)
 go_ret2
 exact ⟨r,rfl,hown,hb⟩
theorem overGet_ok (id:Int) (v:Bytes) (ids:List Int) (w:World) (h:PgOk w p c most M cnt) (hc:ChainAt M id v ids) (hv:v.length<=2000) (hidsl:ids.length<=2000) :
  Calls Tryz.prog 186 #[ptrV p,.int .i64 id,.int .i64 v.length] w λ e w'=>e=.returned (.tuple #[strV v,.int .i64 0])/\Below w.heap.size w w':=by
 have hW:=Hdz (walk_ok id v ids w h hc hv hidsl)
 clear h hc
 go_enter Tryz.func186,Tryz.ntmps186
 go_wp2_with (fail)
 go_must (refine hW.out.mono ?_)
 rintro e w1 ⟨r,rfl,hown,hb⟩
 go_wp2_with (fail)
 go_ret2
 exact ⟨rfl,hb⟩
end
theorem extract_take (b:Bytes) (k:Nat):(ByteArray.mk b.toArray).extract 0 k=⟨(b.take k).toArray⟩:=by
 rw [ByteArray.extract_mk,List.drop_zero,Nat.sub_zero]
def cutB (v:Bytes):List Bytes:=if h:240<v.length then v.take 240 :: cutB (v.drop 240) else if v=[] then [] else [v]
termination_by v.length
decreasing_by rw [List.length_drop];omega
def strsV (l:List Bytes):List Value:=l.map strV
theorem strsV_snoc (l:List Bytes) (x:Bytes):strsV (l++[x])=strsV l++[strV x]:=by simp [strsV]
def CutP (v:Bytes) (w:World) (e:Ending) (w':World):Prop:=∃ r,e=.returned r/\w'.ownsRow w.heap.size 9 1 r (cutB v).length (strsV (cutB v))/\Below w.heap.size w w'
theorem cut_any (v:Bytes) (w:World) (hv:v.length<=100000) :
  Calls Tryz.prog 233 #[strV v] w (CutP v w):=by
 obtain ⟨i0,hi,hz0,hz1,hz2⟩:=info_parts infoStr
 go_enter Tryz.func233,Tryz.ntmps233
 go_wp2
 go_loopg [0,3] v.length (λ gk s0 s3 wr=>∃ (done:List Bytes) (rest:Bytes),s0=strV rest/\rest.length<=gk/\rest.length+done.length<=v.length/\Hid (cutB v=done++cutB rest)/\wr.ownsRow w.heap.size 9 1 s3 done.length (strsV done)/\Below w.heap.size w wr)
 case atStart=>exact ⟨[],v,rfl,Nat.le_refl _,by simp,rfl,World.ownsRow_nil _ _ _ _,Below.refl _ _⟩
 case round =>
  obtain ⟨done,rest,rfl,hg,hsum,hcut,hown,hb⟩:=hrel
  have hz:=hb.size
  by_cases hlt:240<rest.length
  ·have hlt':(240:Int)<(rest.length:Int):=by omega
   have hle:(240:Int)<=(rest.length:Int):=by omega
   have hc2:Hid (cutB v=(done++[rest.take 240])++cutB (rest.drop 240)):=by
    show _=_
    rw [hcut.out,cutB,dif_pos hlt]
    simp
   have hx1:=extract_take rest 240
   have hx2:=extract_drop rest 240
   have hm1:done.length+1<=maxLen:=by unfold maxLen;omega
   go_wp2_with (at_builtin;go_must (refine wpList_append_own _ rfl _ _ 40 rfl w.heap.size 9 i0 _ 1 16 Tryz.underlying40 hi hz0 hz1 hz2 rfl (by decide) _ done.length (strsV done) rfl (hown.alloc _) ⟨wr.heap.size,0,none⟩ 1 1 [strV (rest.take 240)] rfl rfl (row_newS _ _ _ _ rfl) (by simp [Value.oneCell',strV]) hm1 (by omega) (by simp;omega) ?_))
   intro v4 w4 own4 hg4 _
   have hbW:Below w.heap.size w w4:=(hb.alloc hz _).grown hg4 (by simp;omega) (λ k hk=>(hown.lt k hk).1)
   have HO:Hid (w4.ownsRow w.heap.size 9 1 v4 (done++[rest.take 240]).length (strsV (done++[rest.take 240]))):=by
    show World.ownsRow _ _ _ _ _ _ _
    rw [strsV_snoc,List.length_append]
    exact own4
   clear own4 hg4
   go_wp2_with (fail)
   go_roundg (rest.length-240)
   case measure=>omega
   case rel=>exact ⟨done++[rest.take 240],rest.drop 240,rfl,by rw [List.length_drop];omega,by rw [List.length_drop,List.length_append,List.length_singleton];omega,hc2,HO.out,hbW⟩
  ·have hlt':¬ (240:Int)<(rest.length:Int):=by omega
   by_cases he:rest=[]
   ·subst he
    have hc2:Hid (cutB v=done):=by show _=_;rw [hcut.out,cutB];simp
    clear hcut
    go_wp2
    go_ret
    exact ⟨_,rfl,by rw [hc2.out];exact hown,hb⟩
   ·have hc2:Hid (cutB v=done++[rest]):=by show _=_;rw [hcut.out,cutB,dif_neg hlt,if_neg he]
    have he1:(!rest.isEmpty)=true:=by simp [he]
    have he2:rest.isEmpty=false:=by simp [he]
    have hpl:1<=rest.length:=by
     cases rest with
     | nil=>exact absurd rfl he
     | cons _ _=>simp
    have hm1:done.length+1<=maxLen:=by unfold maxLen;omega
    clear hcut he
    go_wp2_with (at_builtin;go_must (refine wpList_append_own _ rfl _ _ 40 rfl w.heap.size 9 i0 _ 1 16 Tryz.underlying40 hi hz0 hz1 hz2 rfl (by decide) _ done.length (strsV done) rfl (hown.alloc _) ⟨wr.heap.size,0,none⟩ 1 1 [strV rest] rfl rfl (row_newS _ _ _ _ rfl) (by simp [Value.oneCell',strV]) hm1 (by omega) (by simp;omega) ?_))
    intro v4 w4 own4 hg4 _
    have hbW:Below w.heap.size w w4:=(hb.alloc hz _).grown hg4 (by simp;omega) (λ k hk=>(hown.lt k hk).1)
    have HO:Hid (w4.ownsRow w.heap.size 9 1 v4 (done++[rest]).length (strsV (done++[rest]))):=by
     show World.ownsRow _ _ _ _ _ _ _
     rw [strsV_snoc,List.length_append]
     exact own4
    clear own4 hg4
    go_wp2_with (fail)
    go_ret
    exact ⟨_,rfl,by rw [hc2.out];exact HO.out,hbW⟩
abbrev leafV (v:Value):Value:=.agg #[.bool true,v,.slice none 0 0]
abbrev branchV (v:Value):Value:=.agg #[.bool false,.slice none 0 0,v]
def OwnsI (w:World) (base:Nat) (v:Value) (l:List Item):Prop:=w.ownsRow base 223 4 v l.length (itemsCs l)
theorem node_box {w:World} {b:Nat} {u0 u1 u2:Value} (h:Blk w b 285 #[u0,u1,u2]) (x y z:Value) :
  w.cell? ⟨b,0,none⟩=some u0/\w.cell? ⟨b,1,none⟩=some u1/\w.cell? ⟨b,2,none⟩=some u2/\w.frozen? ⟨b,0,none⟩=false/\w.frozen? ⟨b,1,none⟩=false/\w.frozen? ⟨b,2,none⟩=false/\Blk (((w.setCell ⟨b,0,none⟩ x).setCell ⟨b,1,none⟩ y).setCell ⟨b,2,none⟩ z) b 285 #[x,y,z]:=
 ⟨h.cell 0,h.cell 1,h.cell 2,h.frozen 0,h.frozen 1,h.frozen 2,((h.set 0 x).set 1 y).set 2 z⟩
theorem node_keeps (w:World) (b:Nat) (x y z:Value):Keeps (λ k=>k=b) w (((w.setCell ⟨b,0,none⟩ x).setCell ⟨b,1,none⟩ y).setCell ⟨b,2,none⟩ z):=
 (((Keeps.refl (λ k=>k=b) w).setCell (p:=⟨b,0,none⟩) (λ _=>rfl) x).setCell (p:=⟨b,1,none⟩) (λ _=>rfl) y).setCell (p:=⟨b,2,none⟩) (λ _=>rfl) z
theorem node_leaf (items:List Item) (next:Int) (w:World) (hr:riseI items=true) (hs:(layI items).length<=240) :
  Calls Tryz.prog 225 #[.agg #[.int .i64 2,.int .i64 next,strV (layI items)]] w λ e w'=>∃ v,e=.returned (.tuple #[leafV v,.bool true])/\OwnsI w' w.heap.size v items/\Below w.heap.size w w':=by
 have hG:=λ W=>getI_any (layI items) W (by omega)
 unfold GetPost at hG
 rw [getI_put hr hs] at hG
 have HG:=Hdz hG
 have bx:Blk (w.alloc (.cells #[.int .i64 2,.int .i64 next,strV (layI items)] 215)) w.heap.size 215 #[.int .i64 2,.int .i64 next,strV (layI items)]:=Blk.new _ _ _
 have x0:(w.alloc (.cells #[.int .i64 2,.int .i64 next,strV (layI items)] 215)).cell? ⟨w.heap.size,0,none⟩=some (.int .i64 2):=bx.cell 0
 clear hG hr
 go_enter Tryz.func225,Tryz.ntmps225
 go_wp2_with (fail)
 go_must (refine (HG.out _).mono ?_)
 rintro e w1 ⟨v,rfl,hown,hb1⟩
 obtain ⟨A,c,rfl,_⟩:=Sl.of_own hown
 have bn:Blk ((w.alloc (.cells #[.int .i64 2,.int .i64 next,strV (layI items)] 215)).alloc (.cells #[.bool false,.slice none 0 0,.slice none 0 0] 285)) (w.heap.size+1) 285 #[.bool false,.slice none 0 0,.slice none 0 0]:=Blk.new' (by simp)
 obtain ⟨c0,c1,c2,f0,f1,f2,hbn⟩:=node_box (Blk.below' bn hb1) (.bool true) (.slice A items.length c) (.slice none 0 0)
 have hs1:=hb1.size
 simp at hs1
 have hlt:=λ k hk=>(hown.lt k hk).1
 simp only [alloc_size1] at hlt
 have hK:=node_keeps w1 (w.heap.size+1) (.bool true) (.slice A items.length c) (.slice none 0 0)
 have HO:=Hdz (own_keeps hown hK (λ k hk e=>by have:=hlt k hk;omega))
 have hbW:Below w.heap.size w w1:=(((Below.refl _ w).alloc (Nat.le_refl _) _).alloc (by simp) _).trans (hb1.mono (by simp;omega))
 have HB:=Hdz (hbW.trans (hK.below (by omega) (λ i hi e=>by omega)))
 clear hown hlt hK
 go_wp2_with (fail)
 refine bodyPost_ret (res_row [.bool true,.slice A items.length c,.slice none 0 0] rfl rfl rfl (by kernel_rfl) hbn) rfl ?_
 exact ⟨_,rfl,own_base HO.out (by simp;omega),HB.out⟩
theorem node_branch (L:List Child) (next:Int) (w:World) (hr:rightC L=true) (hs:(layC L).length<=240) :
  Calls Tryz.prog 225 #[.agg #[.int .i64 3,.int .i64 next,strV (layC L)]] w λ e w'=>∃ v,e=.returned (.tuple #[branchV v,.bool true])/\OwnsC w' w.heap.size v L/\Below w.heap.size w w':=by
 have hG:=λ W=>getC_any (layC L) W (by omega)
 unfold GetCPost at hG
 rw [getC_put hr hs] at hG
 have HG:=Hdz hG
 have bx:Blk (w.alloc (.cells #[.int .i64 3,.int .i64 next,strV (layC L)] 215)) w.heap.size 215 #[.int .i64 3,.int .i64 next,strV (layC L)]:=Blk.new _ _ _
 have x0:(w.alloc (.cells #[.int .i64 3,.int .i64 next,strV (layC L)] 215)).cell? ⟨w.heap.size,0,none⟩=some (.int .i64 3):=bx.cell 0
 clear hG hr
 go_enter Tryz.func225,Tryz.ntmps225
 go_wp2_with (fail)
 go_must (refine (HG.out _).mono ?_)
 rintro e w1 ⟨v,rfl,hown,hb1⟩
 obtain ⟨A,c,rfl,_⟩:=Sl.of_own hown
 have bn:Blk ((w.alloc (.cells #[.int .i64 3,.int .i64 next,strV (layC L)] 215)).alloc (.cells #[.bool false,.slice none 0 0,.slice none 0 0] 285)) (w.heap.size+1) 285 #[.bool false,.slice none 0 0,.slice none 0 0]:=Blk.new' (by simp)
 obtain ⟨c0,c1,c2,f0,f1,f2,hbn⟩:=node_box (Blk.below' bn hb1) (.bool false) (.slice none 0 0) (.slice A L.length c)
 have hs1:=hb1.size
 simp at hs1
 have hlt:=λ k hk=>(hown.lt k hk).1
 simp only [alloc_size1] at hlt
 have hK:=node_keeps w1 (w.heap.size+1) (.bool false) (.slice none 0 0) (.slice A L.length c)
 have HO:=Hdz (own_keeps hown hK (λ k hk e=>by have:=hlt k hk;omega))
 have hbW:Below w.heap.size w w1:=(((Below.refl _ w).alloc (Nat.le_refl _) _).alloc (by simp) _).trans (hb1.mono (by simp;omega))
 have HB:=Hdz (hbW.trans (hK.below (by omega) (λ i hi e=>by omega)))
 clear hown hlt hK
 go_wp2_with (fail)
 refine bodyPost_ret (res_row [.bool false,.slice none 0 0,.slice A L.length c] rfl rfl rfl (by kernel_rfl) hbn) rfl ?_
 exact ⟨_,rfl,own_base HO.out (by simp;omega),HB.out⟩
section
variable {p:Nat} {c:Pc} {most cnt:Nat} {M:Store}
def LoadLeafP (items:List Item) (w:World) (e:Ending) (w':World):Prop:=∃ v,e=.returned (.tuple #[leafV v,.int .i64 0])/\OwnsI w' w.heap.size v items/\Below w.heap.size w w'
def LoadBranchP (L:List Child) (w:World) (e:Ending) (w':World):Prop:=∃ v,e=.returned (.tuple #[branchV v,.int .i64 0])/\OwnsC w' w.heap.size v L/\Below w.heap.size w w'
theorem load_leaf (id:Int) (k:Nat) (items:List Item) (w:World) (h:PgOk w p c most M cnt) (hm:M id=some ⟨2,0,layI items⟩) (hr:riseI items=true) (hs:(layI items).length<=240) (hk:k<30) (hne:items≠[]\/k=0) :
  Calls Tryz.prog 182 #[ptrV p,.int .i64 id,.int .i64 k] w (LoadLeafP items w):=by
 have hRd:=Hdz (λ W (hb:Below w.heap.size w W)=>read_some id _ W (h.below hb) hm)
 have hN:=Hdz (λ W=>node_leaf items 0 W hr hs)
 have hk30:¬ (30:Int)<=(k:Int):=by omega
 have hemp:items=[]->k=0:=λ e=>hne.resolve_left (λ h=>h e)
 clear h hm hr
 go_enter Tryz.func182,Tryz.ntmps182
 go_wp2_with (fail)
 go_must (refine (hRd.out _ ((Below.refl _ _).alloc (Nat.le_refl _) _)).mono ?_)
 rintro e w1 ⟨rfl,hb1⟩
 have bt:Blk (w.alloc (.cells #[.bool false,.slice none 0 0,.slice none 0 0] 285)) w.heap.size 285 #[.bool false,.slice none 0 0,.slice none 0 0]:=Blk.new _ _ _
 have bt1:=Blk.below' bt hb1
 have hs1:=hb1.size
 simp at hs1
 go_wp2_with (fail)
 have bx:Blk (w1.alloc (.cells #[.int .i64 2,.int .i64 0,strV (layI items)] 215)) w1.heap.size 215 #[.int .i64 2,.int .i64 0,strV (layI items)]:=Blk.new _ _ _
 go_must (refine (hN.out _).mono ?_)
 rintro e w2 ⟨v,rfl,hown,hb2⟩
 unfold OwnsI at hown
 obtain ⟨A,cc,rfl,_⟩:=Sl.of_own hown
 obtain ⟨n,hn⟩:=nmz (items.length)
 have hz:n=0->k=0:=λ e=>hemp (List.length_eq_zero_iff.mp (hn.trans e))
 rw [hn] at hown ⊢
 have hs2:=hb2.size
 simp at hs2
 have bx2:=Blk.below' bx hb2
 have y1:(w2.alloc (.cells #[.bool true,.slice A n cc,.slice none 0 0] 285)).cell? ⟨w1.heap.size,1,none⟩=some (.int .i64 0):=(bx2.alloc _).cell 1
 have bt2:=(Blk.below' (bt1.alloc _) hb2).alloc (.cells #[.bool true,.slice A n cc,.slice none 0 0] 285)
 obtain ⟨c0,c1,c2,f0,f1,f2,hbn⟩:=node_box bt2 (.bool true) (.slice A n cc) (.slice none 0 0)
 have hK:=node_keeps (w2.alloc (.cells #[.bool true,.slice A n cc,.slice none 0 0] 285)) w.heap.size (.bool true) (.slice A n cc) (.slice none 0 0)
 have hlt:=λ k hk=>(hown.lt k hk).1
 simp only [alloc_size1] at hlt
 have HO:=Hdz (own_keeps (hown.alloc _) hK (λ k hk e=>by have:=hlt k hk;omega))
 have hbW:Below w.heap.size w (w2.alloc (.cells #[.bool true,.slice A n cc,.slice none 0 0] 285)):=(((Below.refl _ w).alloc (Nat.le_refl _) _).trans (hb1.mono (by simp))).trans ((((Below.refl _ w1).alloc (Nat.le_refl _) _).trans (hb2.mono (by simp))).mono (by omega)) |>.alloc (by omega) _
 have HB:=Hdz (hbW.trans (hK.below (by simp;omega) (λ i hi e=>by omega)))
 clear hown hlt hK
 clear hRd hN hemp hne hbW
 by_cases hi:n=0
 ·have hk0:=hz hi
  subst hk0
  subst hi
  go_wp2_with (fail)
  refine bodyPost_ret (res_row [.bool true,.slice A 0 cc,.slice none 0 0] rfl rfl rfl (by kernel_rfl) hbn) rfl ?_
  refine ⟨_,rfl,?_,HB.out⟩
  unfold OwnsI
  rw [hn]
  exact own_base HO.out (by simp;omega)
 ·go_wp2_with (fail)
  refine bodyPost_ret (res_row [.bool true,.slice A n cc,.slice none 0 0] rfl rfl rfl (by kernel_rfl) hbn) rfl ?_
  refine ⟨_,rfl,?_,HB.out⟩
  unfold OwnsI
  rw [hn]
  exact own_base HO.out (by simp;omega)
theorem load_branch (id:Int) (k:Nat) (L:List Child) (w:World) (h:PgOk w p c most M cnt) (hm:M id=some ⟨3,0,layC L⟩) (hr:rightC L=true) (hs:(layC L).length<=240) (hk:k<30) (hne:2<=L.length\/0<k) :
  Calls Tryz.prog 182 #[ptrV p,.int .i64 id,.int .i64 k] w (LoadBranchP L w):=by
 have hRd:=Hdz (λ W (hb:Below w.heap.size w W)=>read_some id _ W (h.below hb) hm)
 have hN:=Hdz (λ W=>node_branch L 0 W hr hs)
 have hk30:¬ (30:Int)<=(k:Int):=by omega
 clear h hm hr
 go_enter Tryz.func182,Tryz.ntmps182
 go_wp2_with (fail)
 go_must (refine (hRd.out _ ((Below.refl _ _).alloc (Nat.le_refl _) _)).mono ?_)
 rintro e w1 ⟨rfl,hb1⟩
 have bt:Blk (w.alloc (.cells #[.bool false,.slice none 0 0,.slice none 0 0] 285)) w.heap.size 285 #[.bool false,.slice none 0 0,.slice none 0 0]:=Blk.new _ _ _
 have bt1:=Blk.below' bt hb1
 have hs1:=hb1.size
 simp at hs1
 go_wp2_with (fail)
 have bx:Blk (w1.alloc (.cells #[.int .i64 3,.int .i64 0,strV (layC L)] 215)) w1.heap.size 215 #[.int .i64 3,.int .i64 0,strV (layC L)]:=Blk.new _ _ _
 go_must (refine (hN.out _).mono ?_)
 rintro e w2 ⟨v,rfl,hown,hb2⟩
 unfold OwnsC at hown
 obtain ⟨A,cc,rfl,_⟩:=Sl.of_own hown
 obtain ⟨n,hn⟩:=nmz (L.length)
 rw [hn] at hne
 rw [hn] at hown ⊢
 have hs2:=hb2.size
 simp at hs2
 have bx2:=Blk.below' bx hb2
 have y1:(w2.alloc (.cells #[.bool false,.slice none 0 0,.slice A n cc] 285)).cell? ⟨w1.heap.size,1,none⟩=some (.int .i64 0):=(bx2.alloc _).cell 1
 have bt2:=(Blk.below' (bt1.alloc _) hb2).alloc (.cells #[.bool false,.slice none 0 0,.slice A n cc] 285)
 obtain ⟨c0,c1,c2,f0,f1,f2,hbn⟩:=node_box bt2 (.bool false) (.slice none 0 0) (.slice A n cc)
 have hK:=node_keeps (w2.alloc (.cells #[.bool false,.slice none 0 0,.slice A n cc] 285)) w.heap.size (.bool false) (.slice none 0 0) (.slice A n cc)
 have hlt:=λ k hk=>(hown.lt k hk).1
 simp only [alloc_size1] at hlt
 have HO:=Hdz (own_keeps (hown.alloc _) hK (λ k hk e=>by have:=hlt k hk;omega))
 have hbW:Below w.heap.size w (w2.alloc (.cells #[.bool false,.slice none 0 0,.slice A n cc] 285)):=(((Below.refl _ w).alloc (Nat.le_refl _) _).trans (hb1.mono (by simp))).trans ((((Below.refl _ w1).alloc (Nat.le_refl _) _).trans (hb2.mono (by simp))).mono (by omega)) |>.alloc (by omega) _
 have HB:=Hdz (hbW.trans (hK.below (by simp;omega) (λ i hi e=>by omega)))
 clear hown hlt hK
 clear hRd hN hbW
 by_cases hk0:k=0
 ·subst hk0
  have hn2:2<=n:=hne.resolve_right (by omega)
  have hn2':¬ (n:Int)<2:=by omega
  clear hne
  go_wp2_with (fail)
  refine bodyPost_ret (res_row [.bool false,.slice none 0 0,.slice A n cc] rfl rfl rfl (by kernel_rfl) hbn) rfl ?_
  refine ⟨_,rfl,?_,HB.out⟩
  unfold OwnsC
  rw [hn]
  exact own_base HO.out (by simp;omega)
 ·have hk1:¬ (k:Int)=0:=by omega
  clear hne
  go_wp2_with (fail)
  all_goals
   refine bodyPost_ret (res_row [.bool false,.slice none 0 0,.slice A n cc] rfl rfl rfl (by kernel_rfl) hbn) rfl ?_
   refine ⟨_,rfl,?_,HB.out⟩
   unfold OwnsC
   rw [hn]
   exact own_base HO.out (by simp;omega)
end
end Go.Ev
