/-
  Texts of this claim.
-/
import Derived.Test.YtmfoiaaehkandaaGreatDoorMBGwKeepInit
set_option linter.unusedVariables false
set_option linter.unusedSimpArgs false
namespace Go.Ev
open Go.Proofs Go.RowKit
theorem isIndex_zero (w:World):Calls Tryz.prog 46 #[.int .i64 0] w λ e w'=>e=.returned (.bool false)/\w=w':=by
 go_enter Tryz.func46,Tryz.ntmps46
 go_wp2_with (fail)
 go_ret
 exact ⟨rfl,rfl⟩
section
variable {F:Nat->Prop} {bb q q' n b k:Nat} {H:List Pair} {E:DB} {W W':World} {es more:List LogE}
theorem Kn.upto (h:Kn F bb q H E W) (hq:q<=q'):Kn F bb q' H E W:=by
 obtain ⟨p,rn,th,tl,h1,h2,h3,h4,h5,h6,h7⟩:=h.ex
 exact ⟨⟨p,rn,th,tl,h1,h2,h3,by omega,by omega,by omega,h7⟩,h.small,h.room⟩
structure Lg (b n:Nat) (es:List LogE):Prop where
 foll:Follow b es
 short:ShortE es
 num:b+1000<=99999999
 puts:n<=140
theorem Lg.take (h:Lg b n es) (k:Nat):Lg b n (es.take k):=⟨h.foll.take k,h.short.sub (by simp;omega) (λ o ho=>List.mem_of_mem_take ho),h.num,h.puts⟩
theorem Lg.drop (h:Lg b n es) (hk:k<=es.length) (hb:b+k+1000<=99999999):Lg (b+k) n (es.drop k):=⟨h.foll.drop k,h.short.sub (by simp) (λ o ho=>List.mem_of_mem_drop ho),hb,h.puts⟩
theorem Lg.cut (h:Lg b n es) (hk:k<=es.length):(∀ a∈es.take k,∀ o∈es.drop k,dig 8 a.idx.toNat≠dig 8 o.idx.toNat)/\rangeP (dig 8 (b+1+k)) [] 0 (logP (es.take k++es.drop k++[]))=logP (es.drop k)/\es.length<=70:=by
 have h1:=h.short.1
 have h2:=h.num
 refine ⟨Follow.ne (b:=b) (by rw [List.take_append_drop];exact h.foll) (by rw [List.take_append_drop];omega),?_,h1⟩
 rw [List.append_nil,List.take_append_drop]
 exact log_from k h.foll hk (by omega)
set_option maxHeartbeats 4000000 in
set_option maxRecDepth 100000 in
theorem Kn.saveSnap {hh sn ap:Bytes} (h:Kn F bb q (keptP hh sn ap) (n,logP es) W) (hq:q<=17000) (hL:Lg b n es) (hk:k<=es.length) (u:Int) (hu:I64 u) (A:Option Addr) (m c:Nat) (l:List Int) (hv:Sl W 1 (.slice A m c) m (intsV l)) (hl:l.length=m) (hM:ValidM l) (hA:∀ b o,A=some ⟨b,o,none⟩->¬ F b) (hs1:hh.length<=200) (hs3:ap.length<=200) :
  Calls Tryz.prog 45 #[ptrV bb,.agg #[.int .i64 ((b+k:Nat):Int),.int .i64 u,.slice A m c]] W (LogDone F bb (q+100) (keptP hh (snB ((b+k:Nat):Int) u l) ap) (n,logP (es.drop k)) W):=by
 have hln:=hL.short.1
 have hnm:=hL.num
 have hm9:m<=9:=by have:=hM.len;omega
 have hi:I64 ((b+k:Nat):Int):=⟨by omega,by omega⟩
 have hb1:Below W.heap.size W (W.alloc (.cells #[.int .i64 ((b+k:Nat):Int),.int .i64 u,.slice A m c] 37)):=(Below.refl _ _).alloc (Nat.le_refl _) _
 have bx:Blk (W.alloc (.cells #[.int .i64 ((b+k:Nat):Int),.int .i64 u,.slice A m c] 37)) W.heap.size 37 #[.int .i64 ((b+k:Nat):Int),.int .i64 u,.slice A m c]:=Blk.new _ _ _
 have hK1:=h.gap hb1
 have hsl:=snB_len (l:=l) hi hu hM.len.2 hM.i64
 have hP:=hK1.putSnap (by omega) ((b+k:Nat):Int) u A m c l hi hu (hv.below hb1) hl hM.i64 (by omega) (by rw [insP_snap];exact kept_small hs1 hsl hs3)
 rw [insP_snap] at hP
 have HP:=Hdz hP
 have HR:Hid (rangeP [] (dig 8 (b+1+k)) 0 (logP ([]++es.take k++es.drop k))=logP (es.take k)):=by
  show _=_
  rw [List.nil_append,List.take_append_drop]
  exact log_to k hL.foll hk (by omega)
 have HLen:Hid (([]++es.take k++es.drop k).length<=900/\(es.take k).length<=70/\q<=17000):=⟨by simp;omega,by simp;omega,hq⟩
 have HF1:Hid (∀ e w',LogDone (λ j=>F j/\¬ (W.heap.size<=j/\j<(W.alloc (.cells #[.int .i64 ((b+k:Nat):Int),.int .i64 u,.slice A m c] 37)).heap.size)) bb (q+1+(es.take k).length) (keptP hh (snB ((b+k:Nat):Int) u l) ap) (n,logP ([]++es.drop k)) (W.alloc (.cells #[.int .i64 ((b+k:Nat):Int),.int .i64 u,.slice A m c] 37)) e w'->LogDone F bb (q+100) (keptP hh (snB ((b+k:Nat):Int) u l) ap) (n,logP (es.drop k)) W e w'):=λ e w' hp=>⟨hp.1,(hp.2.1.less λ j e=>e.1).upto (by have:=HLen.out.2.1;omega),(Keeps.of_below (S:=F) hb1).go (hp.2.2.mono λ j _ e=>e.1)⟩
 have hD:∀ w1,Kn (λ j=>F j/\¬ (W.heap.size<=j/\j<(W.alloc (.cells #[.int .i64 ((b+k:Nat):Int),.int .i64 u,.slice A m c] 37)).heap.size)) bb (q+1) (keptP hh (snB ((b+k:Nat):Int) u l) ap) (n,logP es) w1->Calls Tryz.prog 47 #[ptrV bb,strV [],strV (dig 8 (b+1+k))] w1 (LogDone (λ j=>F j/\¬ (W.heap.size<=j/\j<(W.alloc (.cells #[.int .i64 ((b+k:Nat):Int),.int .i64 u,.slice A m c] 37)).heap.size)) bb (q+1+(es.take k).length) (keptP hh (snB ((b+k:Nat):Int) u l) ap) (n,logP ([]++es.drop k)) w1):=λ w1 hk1 =>
  Kn.deleteLog (A:=[]) (M:=es.take k) (B:=es.drop k) (by rw [List.nil_append,List.take_append_drop];exact hk1) (by omega) HLen.out.1 [] (dig 8 (b+1+k)) HR.out (λ a ha=>by cases ha)
 have HD:=Hdz hD
 have HKy:=Hdz λ w=>keepKey_ok (b+1+k) w (by omega)
 have z0:=bx.cell 0
 have z1:=bx.cell 1
 have z2:=bx.cell 2
 have hlt:W.heap.size<(W.alloc (.cells #[.int .i64 ((b+k:Nat):Int),.int .i64 u,.slice A m c] 37)).heap.size:=bx.lt
 have HBx:=Hdz (Anz bx hlt)
 obtain ⟨j,hj⟩:∃ j:Int,((b+k:Nat):Int)=j:=⟨_,rfl⟩
 have hj0:¬ j<0:=by omega
 have hj1:¬ (99999999:Int)<j:=by omega
 have hjw:IntKind.i64.wrap (j+1)=((b+1+k:Nat):Int):=by rw [IntWalk.i64_in _ (by omega)];omega
 rw [hj] at HP HF1 HD z0 z1 z2 HBx ⊢
 obtain ⟨kb,hkb⟩:=nmz (dig 8 (b+1+k))
 rw [hkb] at HD HKy
 clear h hq hL hk hv hl hM hA hP hD bx hlt hK1 hb1 hi hsl hs1 hs3 hj hln hnm hkb HR HLen hu
 go_enter Tryz.func45,Tryz.ntmps45
 go_wp2_with (fail)
 go_must (refine HP.out.mono ?_)
 rintro e w1 ⟨rfl,hk1,hkk1⟩
 have b1:=HBx.out.1.keeps hkk1 λ e=>e.2 ⟨Nat.le_refl _,HBx.out.2⟩
 have y0:=b1.cell 0
 have HK1:=Hdz (Anz hk1 hkk1)
 clear hk1 hkk1 b1 z0 z1 z2
 go_wp2_with (fail)
 go_must (refine (HKy.out _).mono ?_)
 rintro e w2 ⟨rfl,hb2⟩
 have HD2:=Hdz (HD.out w2 (HK1.out.1.below hb2))
 have HB2:=Hdz hb2
 clear hb2
 go_wp2_with (fail)
 go_must (refine HD2.out.mono ?_)
 rintro e w3 ⟨rfl,hk3,hkk3⟩
 have HE:=Hdz (HF1.out _ w3 ⟨rfl,hk3,(HK1.out.2.then HB2.out).go hkk3⟩)
 clear hk3 hkk3
 go_wp2_with (fail)
 go_ret
 exact HE.out
end
end Go.Ev
