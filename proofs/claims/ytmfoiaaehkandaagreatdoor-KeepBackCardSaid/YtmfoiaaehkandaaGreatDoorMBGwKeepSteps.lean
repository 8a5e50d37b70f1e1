/-
  Texts of this claim.
-/
import Derived.Test.YtmfoiaaehkandaaGreatDoorMBGwClipTo
import Derived.Test.YtmfoiaaehkandaaGreatDoorMBGwKeepSt
set_option linter.unusedVariables false
set_option linter.unusedSimpArgs false
set_option maxHeartbeats 4000000
set_option maxRecDepth 100000
namespace Go.Ev
open Go.Proofs Go.RowKit
def OnceP (F:Nat->Prop) (bb q:Nat) (H:List Pair) (E:DB) (W:World) (e:Ending) (w':World):Prop:=e=.returned (.int .i64 0)/\Kn F bb (q+1) H E w'/\Keeps F W w'
section
variable {F:Nat->Prop} {bb q:Nat} {H:List Pair} {E:DB} {W:World}
theorem Kn.putApplied (h:Kn F bb q H E W) (hq:q<=19000) (n:Int) (hn:I64 n) (hs:(insP appK (varsB [n]) H).length<=41/\sumV (insP appK (varsB [n]) H)<=90000) :
  Calls Tryz.prog 44 #[ptrV bb,.int .i64 n] W (OnceP F bb q (insP appK (varsB [n]) H) E W):=by
 have h1:=varsB_len [n] (by intro x hx;simp at hx;subst hx;exact hn)
 have HB:Hid (Below W.heap.size W (W.alloc (.cells #[.int .i64 n] 3))):=(Below.refl _ _).alloc (Nat.le_refl _) _
 have HS:Hid (Sl (W.alloc (.cells #[.int .i64 n] 3)) 1 (.slice (some ⟨W.heap.size,0,none⟩) 1 1) 1 [.int .i64 n]):=sl_blk (T:=3) [.int .i64 n] (Blk.new _ _ _)
 have HV:=Hdz (vars_any (some ⟨W.heap.size,0,none⟩) 1 1 [n] _ HS.out (by intro x hx;simp at hx;subst hx;exact hn) (by omega))
 have HP:Hid (∀ W1,Below W.heap.size W W1->Calls Tryz.prog 49 #[ptrV bb,strV hardK,strV appK,strV (varsB [n])] W1 (OnceP F bb q (insP appK (varsB [n]) H) E W1)):=λ W1 hb=>(h.below hb).put hq appK (varsB [n]) (by
  unfold goodKV
  simp only [List.length_cons,List.length_nil] at h1
  simp [appK]
  omega) hs
 obtain ⟨va,hva⟩:∃ v,varsB [n]=v:=⟨_,rfl⟩
 rw [hva] at HV HP ⊢
 clear h1 hs hva h hn
 go_enter Tryz.func44,Tryz.ntmps44
 go_wp2_with (fail)
 go_must (refine HV.out.mono ?_)
 rintro e w1 ⟨rfl,hb1⟩
 have HB1:=Hdz (HB.out.trans (hb1.mono HB.out.size))
 clear hb1
 go_wp2_with (fail)
 go_must (refine (HP.out _ HB1.out).mono ?_)
 rintro e w2 ⟨rfl,hk,hkk⟩
 have HK:=Hdz hk
 have HKK:Hid (Keeps F W w2):=(Keeps.of_below (S:=F) HB1.out).go hkk
 clear hk hkk
 go_wp2_with (fail)
 go_ret
 exact ⟨rfl,HK.out,HKK.out⟩
theorem Kn.putHard (h:Kn F bb q H E W) (hq:q<=19000) (a b c:Int) (ha:I64 a) (hb:I64 b) (hc:I64 c) (hs:(insP hardK (varsB [a,b,c]) H).length<=41/\sumV (insP hardK (varsB [a,b,c]) H)<=90000) :
  Calls Tryz.prog 40 #[ptrV bb,.agg #[.int .i64 a,.int .i64 b,.int .i64 c]] W (OnceP F bb q (insP hardK (varsB [a,b,c]) H) E W):=by
 have hI:∀ x∈[a,b,c],I64 x:=by
  intro x hx
  simp only [List.mem_cons,List.not_mem_nil,or_false] at hx
  rcases hx with rfl | rfl | rfl
  ·exact ha
  ·exact hb
  ·exact hc
 have h1:=varsB_len [a,b,c] hI
 have HA:Hid (Below W.heap.size W (W.alloc (.cells #[.int .i64 a,.int .i64 b,.int .i64 c] 23))):=(Below.refl _ _).alloc (Nat.le_refl _) _
 have bz:Blk (W.alloc (.cells #[.int .i64 a,.int .i64 b,.int .i64 c] 23)) W.heap.size 23 #[.int .i64 a,.int .i64 b,.int .i64 c]:=Blk.new _ _ _
 have z0:(W.alloc (.cells #[.int .i64 a,.int .i64 b,.int .i64 c] 23)).cell? ⟨W.heap.size,0,none⟩=some (.int .i64 a):=bz.cell 0
 have z1:(W.alloc (.cells #[.int .i64 a,.int .i64 b,.int .i64 c] 23)).cell? ⟨W.heap.size,1,none⟩=some (.int .i64 b):=bz.cell 1
 have z2:(W.alloc (.cells #[.int .i64 a,.int .i64 b,.int .i64 c] 23)).cell? ⟨W.heap.size,2,none⟩=some (.int .i64 c):=bz.cell 2
 have HB:Hid (Below W.heap.size W ((W.alloc (.cells #[.int .i64 a,.int .i64 b,.int .i64 c] 23)).alloc (.cells #[.int .i64 a,.int .i64 b,.int .i64 c] 3))):=HA.out.alloc HA.out.size _
 have HS:Hid (Sl ((W.alloc (.cells #[.int .i64 a,.int .i64 b,.int .i64 c] 23)).alloc (.cells #[.int .i64 a,.int .i64 b,.int .i64 c] 3)) 1 (.slice (some ⟨(W.heap.size+1),0,none⟩) 3 3) 3 [.int .i64 a,.int .i64 b,.int .i64 c]):=sl_blk (T:=3) (g:=W.heap.size+1) [.int .i64 a,.int .i64 b,.int .i64 c] (by have:=Blk.new (W.alloc (.cells #[.int .i64 a,.int .i64 b,.int .i64 c] 23)) 3 #[.int .i64 a,.int .i64 b,.int .i64 c];simpa using this)
 have HV:=Hdz (vars_any (some ⟨(W.heap.size+1),0,none⟩) 3 3 [a,b,c] _ HS.out hI (by omega))
 have HP:Hid (∀ W1,Below W.heap.size W W1->Calls Tryz.prog 49 #[ptrV bb,strV hardK,strV hardK,strV (varsB [a,b,c])] W1 (OnceP F bb q (insP hardK (varsB [a,b,c]) H) E W1)):=λ W1 hb=>(h.below hb).put hq hardK (varsB [a,b,c]) (by
  unfold goodKV
  simp only [List.length_cons,List.length_nil] at h1
  simp [hardK]
  omega) hs
 obtain ⟨va,hva⟩:∃ v,varsB [a,b,c]=v:=⟨_,rfl⟩
 rw [hva] at HV HP ⊢
 clear h1 hs hva h hI ha hb hc bz
 go_enter Tryz.func40,Tryz.ntmps40
 go_wp2_with (fail)
 go_must (refine HV.out.mono ?_)
 rintro e w1 ⟨rfl,hb1⟩
 have HB1:=Hdz (HB.out.trans (hb1.mono HB.out.size))
 clear hb1
 go_wp2_with (fail)
 go_must (refine (HP.out _ HB1.out).mono ?_)
 rintro e w2 ⟨rfl,hk,hkk⟩
 have HK:=Hdz hk
 have HKK:Hid (Keeps F W w2):=(Keeps.of_below (S:=F) HB1.out).go hkk
 clear hk hkk
 go_wp2_with (fail)
 go_ret
 exact ⟨rfl,HK.out,HKK.out⟩
end
section
variable {F:Nat->Prop} {bb q:Nat} {H:List Pair} {E:DB} {W:World}
def snB (i u:Int) (l:List Int):Bytes:=varsB [i,u]++memB l
theorem Kn.putSnap (h:Kn F bb q H E W) (hq:q<=19000) (i u:Int) (A:Option Addr) (n cc:Nat) (l:List Int) (hi:I64 i) (hu:I64 u) (hv:Sl W 1 (.slice A n cc) n (intsV l)) (hl:l.length=n) (hI:∀ x∈l,I64 x) (hn:n<=40) (hs:(insP snapK (snB i u l) H).length<=41/\sumV (insP snapK (snB i u l) H)<=90000) :
  Calls Tryz.prog 42 #[ptrV bb,.agg #[.int .i64 i,.int .i64 u,.slice A n cc]] W (OnceP F bb q (insP snapK (snB i u l) H) E W):=by
 have hJ:∀ x∈[i,u],I64 x:=by
  intro x hx
  simp only [List.mem_cons,List.not_mem_nil,or_false] at hx
  rcases hx with rfl | rfl
  ·exact hi
  ·exact hu
 have h1:=varsB_len [i,u] hJ
 have h2:=varsB_len l hI
 have h3:=varsB_len [(l.length:Int)] (by intro x hx;simp at hx;subst hx;exact ⟨by omega,by omega⟩)
 have hlen:(snB i u l).length<=2000:=by
  simp only [snB,memB,List.length_append,List.length_cons,List.length_nil] at h1 h3 ⊢
  omega
 have HA:Hid (Below W.heap.size W (W.alloc (.cells #[.int .i64 i,.int .i64 u,.slice A n cc] 37))):=(Below.refl _ _).alloc (Nat.le_refl _) _
 have bz:Blk (W.alloc (.cells #[.int .i64 i,.int .i64 u,.slice A n cc] 37)) W.heap.size 37 #[.int .i64 i,.int .i64 u,.slice A n cc]:=Blk.new _ _ _
 have z0:(W.alloc (.cells #[.int .i64 i,.int .i64 u,.slice A n cc] 37)).cell? ⟨W.heap.size,0,none⟩=some (.int .i64 i):=bz.cell 0
 have z1:(W.alloc (.cells #[.int .i64 i,.int .i64 u,.slice A n cc] 37)).cell? ⟨W.heap.size,1,none⟩=some (.int .i64 u):=bz.cell 1
 have z2:(W.alloc (.cells #[.int .i64 i,.int .i64 u,.slice A n cc] 37)).cell? ⟨W.heap.size,2,none⟩=some (.slice A n cc):=bz.cell 2
 have HB:Hid (Below W.heap.size W ((W.alloc (.cells #[.int .i64 i,.int .i64 u,.slice A n cc] 37)).drew.alloc (.cells #[.int .i64 i,.int .i64 u] 3))):=HA.out.drew.alloc HA.out.size _
 have HS:Hid (Sl ((W.alloc (.cells #[.int .i64 i,.int .i64 u,.slice A n cc] 37)).drew.alloc (.cells #[.int .i64 i,.int .i64 u] 3)) 1 (.slice (some ⟨W.heap.size+1,0,none⟩) 2 2) 2 [.int .i64 i,.int .i64 u]):=sl_blk (T:=3) (g:=W.heap.size+1) [.int .i64 i,.int .i64 u] (Blk.new' (by simp))
 have HBz:Hid (Blk ((W.alloc (.cells #[.int .i64 i,.int .i64 u,.slice A n cc] 37)).drew.alloc (.cells #[.int .i64 i,.int .i64 u] 3)) W.heap.size 37 #[.int .i64 i,.int .i64 u,.slice A n cc]):=Blk.alloc (show Blk (W.alloc (.cells #[.int .i64 i,.int .i64 u,.slice A n cc] 37)).drew _ _ _ from bz) _
 have HV:=Hdz (vars_any (some ⟨W.heap.size+1,0,none⟩) 2 2 [i,u] _ HS.out hJ (by omega))
 have HM:=Hdz (λ W1 (hb:Below W.heap.size W W1)=>putMembers_ok A n cc l W1 (hv.below hb) hl hI (by omega))
 have HP:Hid (∀ W1,Below W.heap.size W W1->Calls Tryz.prog 49 #[ptrV bb,strV hardK,strV snapK,strV (snB i u l)] W1 (OnceP F bb q (insP snapK (snB i u l) H) E W1)):=λ W1 hb=>(h.below hb).put hq snapK (snB i u l) (by
  unfold goodKV
  simp [snapK]
  omega) hs
 have HL:Hid ((varsB [i,u]).length+(memB l).length<=2000/\snB i u l=varsB [i,u]++memB l):=⟨by have:=hlen;unfold snB at this;rw [List.length_append] at this;exact this,rfl⟩
 obtain ⟨va,hva⟩:∃ v,varsB [i,u]=v:=⟨_,rfl⟩
 obtain ⟨vb,hvb⟩:∃ v,memB l=v:=⟨_,rfl⟩
 obtain ⟨vs,hvs⟩:∃ v,snB i u l=v:=⟨_,rfl⟩
 rw [hva,hvb,hvs] at HL
 rw [hva] at HV
 rw [hvb] at HM
 rw [hvs] at HP ⊢
 have hs3:¬ 9223372036854775807<va.length+vb.length:=by have:=HL.out;omega
 have he:=cat_bytes va vb
 rw [<- HL.out.2] at he
 clear h1 h2 h3 hs hva hvb hvs h hI hJ hi hu bz hlen hv
 go_enter Tryz.func42,Tryz.ntmps42
 go_wp2_with (fail)
 refine wRz ?_
 try simp only [lAz]
 refine tA 0 ?_;try simp only [lAz]
 refine tA 1 ?_;try simp only [lAz]
 refine tA 3 ?_;try simp only [lAz]
 refine tA 7 ?_;try simp only [lAz]
 refine rA 2 (v:=?_) (hy:=?hy) ?_;case hy=>(intro w hE;have q0:=hE.cell z0;have q1:=hE.cell z1;have q2:=hE.cell z2;go_simp;try with_reducible rfl)
 try simp only [lAz]
 refine rA 4 (v:=?_) (hy:=?hy) ?_;case hy=>(intro w hE;have q0:=hE.cell z0;have q1:=hE.cell z1;have q2:=hE.cell z2;go_simp;try with_reducible rfl)
 try simp only [lAz]
 have y2:((W.alloc (.cells #[.int .i64 i,.int .i64 u,.slice A n cc] 37)).drew.alloc (.cells #[.int .i64 i,.int .i64 u] 3)).cell? ⟨W.heap.size,2,none⟩=some (.slice A n cc):=HBz.out.cell 2
 refine wpAny_ready (rs:=[5,8]) (by kernel_rfl) (by simp) (aCz (λ K hK=>?_) (aCz (λ K hK=>?_) AllReady.nil))
 rotate_left
 focus
  go_simp
  apply hK
  clear hK K
  refine rZz 5 λ K hK=>?_;go_simp;apply hK;clear hK K
  refine rZz 6 λ K hK=>?_;go_simp
  (go_must (refine HV.out.mono ?_);rintro e w1 ⟨rfl,hb1⟩)
  have HB1:=Hdz (HB.out.trans (hb1.mono HB.out.size))
  have z3:=(Blk.below' HBz.out hb1).cell 2
  clear hb1
  go_simp
  apply hK
  clear hK K
  refine rZz 9 λ K hK=>?_;go_simp
  (go_must (refine (HM.out _ HB1.out).mono ?_);rintro e w2 ⟨rfl,hb2⟩)
  have HB2:=Hdz (HB1.out.trans (hb2.mono HB1.out.size))
  clear hb2
  go_simp
  apply hK
  clear hK K
  refine rZz 10 λ K hK=>?_;go_simp;apply hK;clear hK K
  try rw [he]
  refine rZz 11 λ K hK=>?_;go_simp
  (go_must (refine (HP.out _ HB2.out).mono ?_);rintro e w3 ⟨rfl,hk,hkk⟩)
  have HK:=Hdz hk
  have HKK:Hid (Keeps F W w3):=(Keeps.of_below (S:=F) HB2.out).go hkk
  clear hk hkk
  go_simp
  apply hK
  clear hK K
  refine rZz 12 λ K hK=>?_;go_simp;apply hK;clear hK K
  refine wDz ?_
  go_wp2_with (fail)
  go_ret
  exact ⟨rfl,HK.out,HKK.out⟩
 focus
  go_simp
  apply hK
  clear hK K
  refine wpAny_ready (rs:=[6,8]) (by kernel_rfl) (by simp) (aCz (λ K hK=>?_) (aCz (λ K hK=>?_) AllReady.nil))
  rotate_left
  focus
   go_simp
   apply hK
   clear hK K
   refine rZz 6 λ K hK=>?_;go_simp
   (go_must (refine HV.out.mono ?_);rintro e w1 ⟨rfl,hb1⟩)
   have HB1:=Hdz (HB.out.trans (hb1.mono HB.out.size))
   have z3:=(Blk.below' HBz.out hb1).cell 2
   clear hb1
   go_simp
   apply hK
   clear hK K
   refine rZz 9 λ K hK=>?_;go_simp
   (go_must (refine (HM.out _ HB1.out).mono ?_);rintro e w2 ⟨rfl,hb2⟩)
   have HB2:=Hdz (HB1.out.trans (hb2.mono HB1.out.size))
   clear hb2
   go_simp
   apply hK
   clear hK K
   refine rZz 10 λ K hK=>?_;go_simp;apply hK;clear hK K
   try rw [he]
   refine rZz 11 λ K hK=>?_;go_simp
   (go_must (refine (HP.out _ HB2.out).mono ?_);rintro e w3 ⟨rfl,hk,hkk⟩)
   have HK:=Hdz hk
   have HKK:Hid (Keeps F W w3):=(Keeps.of_below (S:=F) HB2.out).go hkk
   clear hk hkk
   go_simp
   apply hK
   clear hK K
   refine rZz 12 λ K hK=>?_;go_simp;apply hK;clear hK K
   refine wDz ?_
   go_wp2_with (fail)
   go_ret
   exact ⟨rfl,HK.out,HKK.out⟩
  focus
   go_simp
   (go_must (refine HV.out.mono ?_);rintro e w1 ⟨rfl,hb1⟩)
   have HB1:=Hdz (HB.out.trans (hb1.mono HB.out.size))
   have z3:=(Blk.below' HBz.out hb1).cell 2
   clear hb1
   go_simp
   apply hK
   clear hK K
   refine rZz 8 λ K hK=>?_;go_simp;apply hK;clear hK K
   refine rZz 9 λ K hK=>?_;go_simp
   (go_must (refine (HM.out _ HB1.out).mono ?_);rintro e w2 ⟨rfl,hb2⟩)
   have HB2:=Hdz (HB1.out.trans (hb2.mono HB1.out.size))
   clear hb2
   go_simp
   apply hK
   clear hK K
   refine rZz 10 λ K hK=>?_;go_simp;apply hK;clear hK K
   try rw [he]
   refine rZz 11 λ K hK=>?_;go_simp
   (go_must (refine (HP.out _ HB2.out).mono ?_);rintro e w3 ⟨rfl,hk,hkk⟩)
   have HK:=Hdz hk
   have HKK:Hid (Keeps F W w3):=(Keeps.of_below (S:=F) HB2.out).go hkk
   clear hk hkk
   go_simp
   apply hK
   clear hK K
   refine rZz 12 λ K hK=>?_;go_simp;apply hK;clear hK K
   refine wDz ?_
   go_wp2_with (fail)
   go_ret
   exact ⟨rfl,HK.out,HKK.out⟩
end
section
variable {F:Nat->Prop} {bb q g g2:Nat} {H:List Pair} {E:DB} {W:World}
theorem Kn.init2 (h:Kn F bb q H E W) (hq:q<=19000) (z0:W.cell? ⟨g,0,none⟩=some (ptrV bb)) (hs:(insP hardK (varsB [0,0,0]) H).length<=41/\sumV (insP hardK (varsB [0,0,0]) H)<=90000) :
  Calls Tryz.prog 39 #[ptrV g] W (OnceP F bb q (insP hardK (varsB [0,0,0]) H) E W):=by
 have HP:=Hdz (h.putHard hq 0 0 0 ⟨by omega,by omega⟩ ⟨by omega,by omega⟩ ⟨by omega,by omega⟩ hs)
 clear h hs
 go_enter Tryz.func39,Tryz.ntmps39
 go_wp2_with (fail)
 go_must (refine HP.out.mono ?_)
 rintro e w1 ⟨rfl,hk,hkk⟩
 have HK:=Hdz hk
 have HKK:=Hdz hkk
 clear hk hkk
 go_wp2_with (fail)
 go_ret
 exact ⟨rfl,HK.out,HKK.out⟩
theorem Kn.init3 (h:Kn F bb q H E W) (hq:q<=19000) (z0:W.cell? ⟨g,0,none⟩=some (ptrV bb)) (A:Option Addr) (n cc:Nat) (l:List Int) (z1:W.cell? ⟨g2,0,none⟩=some (.slice A n cc)) (hv:Sl W 1 (.slice A n cc) n (intsV l)) (hl:l.length=n) (hI:∀ x∈l,I64 x) (hn:n<=40) (hs:(insP snapK (snB 0 0 l) H).length<=41/\sumV (insP snapK (snB 0 0 l) H)<=90000) :
  Calls Tryz.prog 41 #[ptrV g,ptrV g2] W (OnceP F bb q (insP snapK (snB 0 0 l) H) E W):=by
 have HP:=Hdz (h.putSnap hq 0 0 A n cc l ⟨by omega,by omega⟩ ⟨by omega,by omega⟩ hv hl hI hn hs)
 clear h hs hv hI
 go_enter Tryz.func41,Tryz.ntmps41
 go_wp2_with (fail)
 go_must (refine HP.out.mono ?_)
 rintro e w1 ⟨rfl,hk,hkk⟩
 have HK:=Hdz hk
 have HKK:=Hdz hkk
 clear hk hkk
 go_wp2_with (fail)
 go_ret
 exact ⟨rfl,HK.out,HKK.out⟩
theorem Kn.init4 (h:Kn F bb q H E W) (hq:q<=19000) (z0:W.cell? ⟨g,0,none⟩=some (ptrV bb)) (hs:(insP appK (varsB [0]) H).length<=41/\sumV (insP appK (varsB [0]) H)<=90000) :
  Calls Tryz.prog 43 #[ptrV g] W (OnceP F bb q (insP appK (varsB [0]) H) E W):=by
 have HP:=Hdz (h.putApplied hq 0 ⟨by omega,by omega⟩ hs)
 clear h hs
 go_enter Tryz.func43,Tryz.ntmps43
 go_wp2_with (fail)
 go_must (refine HP.out.mono ?_)
 rintro e w1 ⟨rfl,hk,hkk⟩
 have HK:=Hdz hk
 have HKK:=Hdz hkk
 clear hk hkk
 go_wp2_with (fail)
 go_ret
 exact ⟨rfl,HK.out,HKK.out⟩
end
theorem made_hl {rn':Nat} {L':List Bk} (h:MadesB [] 0 [hardK,logK] rn' L'):rn'=2/\∃ r1 r2,L'=[⟨hardK,⟨r1,[],[r1],0⟩⟩,⟨logK,⟨r2,[],[r2],0⟩⟩]:=by
 obtain ⟨rn1,L1,h1,h2⟩:=MadesB.snoc_inv (ns:=[hardK]) (nm:=logK) h
 obtain ⟨rn0,L0,h0,h1⟩:=MadesB.snoc_inv (ns:=[]) (nm:=hardK) h1
 obtain ⟨rfl,rfl⟩:=h0.nil_inv
 rcases h1 with ⟨h1,_⟩ | ⟨_,r,rfl,rfl⟩
 ·exact absurd rfl h1
 ·rcases h2 with ⟨h2,_⟩ | ⟨_,r2,rfl,rfl⟩
  ·exact absurd (by simp [getB,insB,hardK,logK]) h2
  ·exact ⟨rfl,r,r2,by simp [insB,hardK,logK,lessB,Op.bytesLess]⟩
def MkP (F:Nat->Prop) (bb:Nat) (W:World) (e:Ending) (w':World):Prop:=e=.returned (.int .i64 0)/\Kn F bb 2 [] (0,[]) w'/\Keeps F W w'
section
variable {F:Nat->Prop} {p bb g:Nat} {W:World}
theorem Hf.init1 (h:Hf F p bb 3000 0 [] W) (z0:W.cell? ⟨g,0,none⟩=some (ptrV bb)) :
  Calls Tryz.prog 37 #[ptrV g] W (MkP F bb W):=by
 have hrow:=sl_new W [strV hardK,strV logK] 9
 have hM:Calls Tryz.prog 38 #[ptrV bb,.slice (some ⟨W.heap.size,0,none⟩) 2 2] (W.alloc (.cells #[strV hardK,strV logK] 9)) (MkP F bb W):=by
  obtain ⟨S,root,h1,h2⟩:=h.ex
  have hb:Below W.heap.size W (W.alloc (.cells #[strV hardK,strV logK] 9)):=(Below.refl _ _).alloc (Nat.le_refl _) _
  refine (makeB_ok _ 2 2 [hardK,logK] (h1.below hb) hrow (by decide) (by omega) (λ g' o' e hS=>by cases e;exact Nat.lt_irrefl _ (h1.lt _ hS)) (by decide) (λ k rn' L' hm=>hm.roomyTake (i:=0) ⟨by simp,by omega,λ b hb=>(by cases hb)⟩ (by simp))).mono ?_
  intro e w' hp
  obtain ⟨rn2,L2,rfl,hQ,hH,hk⟩:=hp.hf (F:=F) h2 (λ k hk=>h.size k (Nat.le_trans hb.size hk))
  obtain ⟨rfl,r1,r2,rfl⟩:=made_hl hQ
  exact ⟨rfl,⟨⟨p,2,⟨r1,[],[r1],0⟩,⟨r2,[],[r2],0⟩,hH,rfl,rfl,Nat.le_refl _,Nat.zero_le _,Nat.zero_le _,Nat.zero_le _⟩,⟨by simp,by simp [sumV]⟩,by simp [ndN,sumV]⟩,(Keeps.of_below (S:=F) hb).go hk⟩
 have HM:=Hdz hM
 clear hM hrow h
 go_enter Tryz.func37,Tryz.ntmps37
 go_wp2_with (fail)
 go_must (refine HM.out.mono ?_)
 rintro e w1 ⟨rfl,hk,hkk⟩
 have HK:=Hdz hk
 have HKK:=Hdz hkk
 clear hk hkk
 go_wp2_with (fail)
 go_ret
 exact ⟨rfl,HK.out,HKK.out⟩
end
theorem steps_ok (blk n c:Nat) (fs:List (FuncId × Array Value)) (hn:fs.length=n) (hc:n<=100) (I:Nat->World->Prop) (W:World) (h0:I 0 W)
  (hrow:∀ i w,I i w->∀ j (hj:j<fs.length),w.cell? ⟨blk,j,none⟩=some (.func (.func fs[j].1) #[] fs[j].2))
  (hcall:∀ i (hi:i<fs.length) w,I i w->Calls Tryz.prog fs[i].1 fs[i].2 w λ e w'=>e=.returned (.int .i64 0)/\I (i+1) w')
  (hb:∀ i (hi:i<fs.length),∀ w,(callFunc fs[i].1 fs[i].2).run Tryz.prog w=.ok (.enter fs[i].1 fs[i].2) w) :
  Calls Tryz.prog 36 #[.slice (some ⟨blk,0,none⟩) n c] W λ e w'=>e=.returned (.int .i64 0)/\I n w':=by
 have HN:=Hdz hn
 have HI:=Hdz h0
 have HR:=Hdz hrow
 have HC:=Hdz hcall
 have HB:=Hdz hb
 clear hrow hcall hb hn h0
 go_enter Tryz.func36,Tryz.ntmps36
 go_wp2_with (fail)
 go_loopg [8] n (λ gk s8 wr=>∃ i:Nat,s8=.int .i64 (i:Int)/\i+gk=n/\Hid (I i wr))
 case atStart=>exact ⟨0,rfl,by omega,HI.out⟩
 case round =>
  obtain ⟨i,rfl,hi,hO⟩:=hrel
  by_cases hin:i<n
  ·have h1:(i:Int)<(n:Int):=by omega
   have h0:(0:Int)<=(i:Int):=by omega
   have hif:i<fs.length:=by have:=HN.out;omega
   have hcell:=HR.out i wr hO.out i hif
   have HCi:=Hdz (HC.out i hif wr hO.out)
   have hrun:=HB.out i hif
   have hw:IntKind.i64.wrap ((i:Int)+1)=(i:Int)+1:=IntWalk.i64_in _ (by omega)
   obtain ⟨f,fa⟩:=nmz (fs[i].1)
   obtain ⟨a,aa⟩:=nmz (fs[i].2)
   rw [fa,aa] at hcell HCi hrun
   go_wp2_with (fail)
   go_must (refine HCi.out.mono ?_)
   rintro e w1 ⟨rfl,hI1⟩
   have HI1:=Hdz hI1
   clear hI1
   go_wp2_with (fail)
   go_roundg (gk-1)
   case measure=>omega
   case rel=>exact ⟨i+1,by simp,by omega,HI1.out⟩
  ·have h1:¬ (i:Int)<(n:Int):=by omega
   have he:i=n:=by omega
   subst he
   go_wp2_with (fail)
   go_ret
   exact ⟨rfl,hO.out⟩
end Go.Ev
