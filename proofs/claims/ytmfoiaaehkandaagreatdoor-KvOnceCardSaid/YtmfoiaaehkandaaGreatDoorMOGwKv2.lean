/-
  Texts of this claim.
-/
import Derived.Test.YtmfoiaaehkandaaGreatDoorMOGwKv1
import Derived.Test.YtmfoiaaehkandaaGreatDoorMOGwSess5
set_option linter.unusedVariables false
set_option linter.unusedSimpArgs false
set_option maxHeartbeats 2000000
set_option maxRecDepth 100000
namespace Go.Ev
open Go.Proofs Go.RowKit
def validK (o:KOp):Int:=if rightK o=false then 1 else if 900<o.val.length\/900<o.old.length then 2 else 0
abbrev rp (e:Int) (v:Bytes) (n:Int):Value:=.agg #[.int .i64 e,strV v,.int .i64 n]
theorem valid_k (o:KOp) (w:World) (h1:o.key.length<=9223372036854775807) (h2:o.val.length<=9223372036854775807) (h3:o.old.length<=9223372036854775807) :
  Calls Tryz.prog 65 #[kopV o] w λ e w'=>e=.returned (.int .i64 (validK o))/\Below w.heap.size w w':=by
 have HR:Hid (∀ W,Calls Tryz.prog 106 #[kopV o] W λ e w'=>e=.returned (.bool (rightK o))/\Below W.heap.size W w'):=λ W=>right_ok o W h1
 obtain ⟨r,hr⟩:=nmz (rightK o)
 rw [hr] at HR
 obtain ⟨nv,hnv⟩:∃ n,o.val.length=n:=⟨_,rfl⟩
 obtain ⟨no,hno⟩:∃ n,o.old.length=n:=⟨_,rfl⟩
 have HV:Hid (validK o=if r=false then 1 else if 900<nv\/900<no then 2 else 0):=by show validK o=_;unfold validK;rw [hr,hnv,hno]
 have b0:Blk (w.alloc (.cells (kopA o) 76)) w.heap.size 76 (kopA o):=Blk.new _ _ _
 have HB:=Hdz b0
 have hb0:Hid (Below w.heap.size w (w.alloc (.cells (kopA o) 76))):=(Below.refl _ _).alloc (Nat.le_refl _) _
 have x0:=b0.cell 0
 have x1:=b0.cell 1
 have x2:=b0.cell 2
 have x3:=b0.cell 3
 have x4:=b0.cell 4
 have x5:=b0.cell 5
 rw [hnv] at h2
 rw [hno] at h3
 clear b0 hr
 cases r with
 | false =>
  go_enter Tryz.func65,Tryz.ntmps65
  go_wp2_with (fail)
  go_must (refine (HR.out _).mono ?_)
  rintro e w1 ⟨rfl,hb1⟩
  have HB1:=Hdz (hb0.out.trans (hb1.mono hb0.out.size))
  clear hb1
  go_wp2_with (fail)
  go_ret
  exact ⟨by rw [HV.out];rfl,HB1.out⟩
 | true =>
  have hcase:(900<nv\/(¬ 900<nv/\900<no))\/(¬ 900<nv/\¬ 900<no):=by omega
  rcases hcase with (hv | ⟨hv,ho⟩) | ⟨hv,ho⟩
  ·have hv':(900:Int)<(nv:Int):=by omega
   have HV2:Hid (validK o=2):=by show validK o=2;rw [HV.out];simp [hv]
   go_enter Tryz.func65,Tryz.ntmps65
   go_wp2_with (fail)
   go_must (refine (HR.out _).mono ?_)
   rintro e w1 ⟨rfl,hb1⟩
   have HB1:=Hdz (hb0.out.trans (hb1.mono hb0.out.size))
   have z4:w1.cell? ⟨w.heap.size,4,none⟩=some (strV o.val):=(Blk.below' HB.out hb1).cell 4
   clear hb1
   go_wp2_with (fail)
   go_ret
   exact ⟨by rw [HV2.out];rfl,HB1.out⟩
  ·have hv':¬ (900:Int)<(nv:Int):=by omega
   have ho':(900:Int)<(no:Int):=by omega
   have HV2:Hid (validK o=2):=by show validK o=2;rw [HV.out];simp [ho]
   go_enter Tryz.func65,Tryz.ntmps65
   go_wp2_with (fail)
   go_must (refine (HR.out _).mono ?_)
   rintro e w1 ⟨rfl,hb1⟩
   have HB1:=Hdz (hb0.out.trans (hb1.mono hb0.out.size))
   have z4:w1.cell? ⟨w.heap.size,4,none⟩=some (strV o.val):=(Blk.below' HB.out hb1).cell 4
   have z5:w1.cell? ⟨w.heap.size,5,none⟩=some (strV o.old):=(Blk.below' HB.out hb1).cell 5
   clear hb1
   go_wp2_with (fail)
   go_ret
   exact ⟨by rw [HV2.out];rfl,HB1.out⟩
  ·have hv':¬ (900:Int)<(nv:Int):=by omega
   have ho':¬ (900:Int)<(no:Int):=by omega
   have HV2:Hid (validK o=0):=by show validK o=0;rw [HV.out];simp [hv,ho]
   go_enter Tryz.func65,Tryz.ntmps65
   go_wp2_with (fail)
   go_must (refine (HR.out _).mono ?_)
   rintro e w1 ⟨rfl,hb1⟩
   have HB1:=Hdz (hb0.out.trans (hb1.mono hb0.out.size))
   have z4:w1.cell? ⟨w.heap.size,4,none⟩=some (strV o.val):=(Blk.below' HB.out hb1).cell 4
   have z5:w1.cell? ⟨w.heap.size,5,none⟩=some (strV o.old):=(Blk.below' HB.out hb1).cell 5
   clear hb1
   go_wp2_with (fail)
   go_ret
   exact ⟨by rw [HV2.out];rfl,HB1.out⟩
def getR (D:List Pair) (key:Bytes):Int × Bytes:=match getP key D with | some v=>(0,v) | none=>(7,[])
section
variable {D:DB} {F:Nat->Prop} {bb q n:Nat} {l:List (Nat × Ses)} {W W':World}
theorem Sn.kvGet (h:Sn D F bb q n l W) (hq:q<=19000) (key:Bytes) (hk1:1<=key.length) (hk2:key.length<=40) :
  Calls Tryz.prog 62 #[ptrV bb,strV key] W λ e w'=>e=.returned (.tuple #[rp (getR D.2 key).1 (getR D.2 key).2 0,.int .i64 0])/\Below W.heap.size W w':=by
 have HT:Hid (∀ W1,Below W.heap.size W W1->Calls Tryz.prog 35 #[ptrV bb,strV dataK] W1 λ e w'=>(∃ r:Int,e=.returned (.tuple #[.int .i64 r,.int .i64 0]))/\Below W1.heap.size W1 w'):=λ W1 hb=>(h.below hb).treeOf (by omega) dataK (.inr rfl)
 have HG:Hid (∀ W1,Below W.heap.size W W1->Calls Tryz.prog 95 #[ptrV bb,strV dataK,strV key] W1 λ e w'=>e=.returned (.tuple #[strV (getR D.2 key).2,.int .i64 (getR D.2 key).1])/\Below W1.heap.size W1 w'):=λ W1 hb=>by
  refine ((h.below hb).getD (by omega) key hk1 hk2).mono ?_
  rintro e w' ⟨he,hb'⟩
  refine ⟨?_,hb'⟩
  unfold getR
  cases hp:getP key D.2 with
  | none=>rw [hp] at he;exact he
  | some v=>rw [hp] at he;exact he
 have hg:(getR D.2 key).1=0\/(getR D.2 key).1=7:=by
  unfold getR
  cases getP key D.2 with
  | none=>exact .inr rfl
  | some v=>exact .inl rfl
 obtain ⟨ge,hge⟩:=nmz ((getR D.2 key).1)
 obtain ⟨gv,hgv⟩:=nmz ((getR D.2 key).2)
 rw [hge,hgv] at HG ⊢
 rw [hge] at hg
 clear h hk1 hk2 hge hgv
 go_enter Tryz.func62,Tryz.ntmps62
 go_wp2_with (fail)
 go_must (refine (HT.out _ ((Below.refl _ W).alloc (Nat.le_refl _) _)).mono ?_)
 rintro e w1 ⟨⟨r,rfl⟩,hb1⟩
 have HB1:Hid (Below W.heap.size W w1):=((Below.refl _ W).alloc (Nat.le_refl _) _).trans (hb1.mono (by simp))
 have HZ1:Hid (Blk w1 W.heap.size 72 #[.int .i64 0,strV [],.int .i64 0]):=Blk.below' (Blk.new _ _ _) hb1
 clear hb1
 go_wp2_with (fail)
 go_must (refine (HG.out _ HB1.out).mono ?_)
 rintro e w2 ⟨rfl,hb2⟩
 have HB2:=Hdz (HB1.out.trans (hb2.mono HB1.out.size))
 have bz:=Blk.below' HZ1.out hb2
 have HZ2:=Hdz bz
 have z0:=bz.cell 0
 have z1:=bz.cell 1
 have z2:=bz.cell 2
 have f0:=bz.frozen 0
 have f1:=bz.frozen 1
 have f2:=bz.frozen 2
 clear hb2 bz
 obtain ⟨g1,g2⟩:=blk3_end (.int .i64 ge) (strV gv) (.int .i64 0) HB2.out (Nat.le_refl _) HZ2.out
 have HE:=Hdz (Anz g1 g2)
 clear g1 g2
 rcases hg with rfl | rfl
 ·go_wp2_with (fail)
  refine bodyPost_ret (res_row [.int .i64 0,strV gv,.int .i64 0] rfl rfl rfl (by kernel_rfl) HE.out.1) rfl ?_
  exact ⟨rfl,HE.out.2⟩
 ·go_wp2_with (fail)
  refine bodyPost_ret (res_row [.int .i64 7,strV gv,.int .i64 0] rfl rfl rfl (by kernel_rfl) HE.out.1) rfl ?_
  exact ⟨rfl,HE.out.2⟩
def chgK (D:DB) (o:KOp):Int × Bytes × DB:=
 if o.kind=1 then (0,[],(D.1+1,insP o.key o.val D.2))
 else match getP o.key D.2 with
  | none=>(7,[],D)
  | some v=>if o.kind=2 then (0,[],(D.1,delP o.key D.2)) else if v≠o.old then (26,v,D) else (0,[],(D.1+1,insP o.key o.val D.2))
theorem delP_le (key:Bytes):∀ l:List Pair,(delP key l).length<=l.length
 | []=>Nat.le_refl _
 | x :: l=>by
  simp only [delP]
  split
  ·exact Nat.le_succ _
  ·exact Nat.succ_le_succ (delP_le key l)
theorem ndN_del (k:Nat) (key:Bytes) (ps:List Pair):ndN k (delP key ps)<=ndN k ps:=by
 have h1:=sumV_del key ps
 have h2:=delP_le key ps
 unfold ndN
 omega
def Fin (F:Nat->Prop) (a b:Nat):Nat->Prop:=λ k=>F k/\(k<a\/b<=k)
theorem Sn.inn {W2:World} (h:Sn D F bb q n l W) (hb:Below W.heap.size W W2):Sn D (Fin F W.heap.size W2.heap.size) bb q n l W2:=
 h.fence (G:=λ _=>False) (Keeps.of_below hb) (λ _ _ _ e=>e) (λ k hk e=>⟨e,.inl hk⟩) λ k hk=>⟨h.size k (Nat.le_trans hb.size hk),.inr hk⟩
theorem Sn.done {D':DB} {q' n' a:Nat} {l':List (Nat × Ses)} {W2 w3 w4:World} (hb:Below W.heap.size W W2) (ha:a=W2.heap.size) (h3:Sn D' (Fin F W.heap.size a) bb q' n' l' w3) (hk:Keeps (Fin F W.heap.size a) W2 w3) (ho:Keeps (λ k=>W.heap.size<=k/\k<a) w3 w4):Sn D' F bb q' n' l' w4/\Keeps F W w4:=by
 refine ⟨h3.fence ho (λ k _ e hh=>?_) (λ k _ e=>e.1) λ k hk=>(h3.size k (Nat.le_trans ho.size hk)).1,?_⟩
 ·rcases e.2 with e | e<;>omega
 ·exact ((Keeps.of_below (S:=F) hb).trans hk λ i _ e=>e.1).trans ho λ i hi e=>by omega
end
end Go.Ev
