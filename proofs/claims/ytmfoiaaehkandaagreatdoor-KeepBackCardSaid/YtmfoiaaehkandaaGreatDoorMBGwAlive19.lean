/-
  Texts of this claim.
-/
import Derived.Test.YtmfoiaaehkandaaGreatDoorMBGwKeepLoad
import Derived.Test.YtmfoiaaehkandaaGreatDoorMBGwKeepSave2
set_option linter.unusedVariables false
set_option linter.unusedSimpArgs false
namespace Go.Ev
open Go.Proofs Go.RowKit
section
variable {F:Nat->Prop} {bb p q n b:Nat} {W W':World} {es more:List LogE}
theorem Hf.initAt (h:Hf F p bb 3000 0 [] W) (hb:Below W.heap.size W W') (A:Option Addr) (m c:Nat) (l:List Int) (hv:Sl W' 1 (.slice A m c) m (intsV l)) (hl:l.length=m) (hA:∀ b o,A=some ⟨b,o,none⟩->¬ F b\/(W.heap.size<=b/\b<W'.heap.size)) (hM:ValidM l) :
  Calls Tryz.prog 14 #[ptrV bb,.slice A m c] W' (LogDone F bb 5 (keptP (varsB [0,0,0]) (snB 0 0 l) (varsB [0])) (0,[]) W):=by
 refine ((h.gap hb).initK A m c l hv hl (λ b o e f=>(hA b o e).elim (λ g=>g f.1) λ g=>f.2 g) hM).mono ?_
 rintro e w' ⟨he,hk,hkk⟩
 exact ⟨he,hk.less λ k e=>e.1,(Keeps.of_below (S:=F) hb).go (hkk.mono λ k _ e=>e.1)⟩
theorem Kn.saveAt {hh sn ap:Bytes} (h:Kn F bb q (keptP hh sn ap) (n,logP es) W) (hb:Below W.heap.size W W') (hq:q<=15000) (x y z:Int) (hasH:Bool) (fr:Option Nat) (A:Option Addr) (m c:Nat) (a:Int)
  (hB:BatchOk b n es x y z fr more none a) (hv:Sl W' 4 (.slice A m c) m (more.flatMap entCs)) (hm:more.length=m) (hA:0<m->∀ b o,A=some ⟨b,o,none⟩->¬ F b\/(W.heap.size<=b/\b<W'.heap.size)) (hs1:hh.length<=200) (hs2:sn.length<=200) (hs3:ap.length<=200) :
  Calls Tryz.prog 15 #[ptrV bb,.agg #[.int .i64 x,.int .i64 y,.int .i64 z,.bool hasH,.int .i64 (fromI b fr),.slice A m c,.int .i64 0,.int .i64 0,.slice none 0 0,.bool false,.int .i64 a]] W'
   (LogDone F bb (q+1000) (keptP (hdV hasH x y z hh) sn (apV a ap)) (n+m,logP (cutE fr es++more)) W):=by
 refine ((h.gap hb).save hq x y z hasH fr A m c 0 0 none 0 0 false none a hB hv hm (λ h0 b o e f=>(hA h0 b o e).elim (λ g=>g f.1) λ g=>f.2 g) (λ _=>rfl) (λ s e=>by cases e) hs1 hs2 hs3).mono ?_
 rintro e w' ⟨he,hk,hkk⟩
 exact ⟨he,hk.less λ k e=>e.1,(Keeps.of_below (S:=F) hb).go (hkk.mono λ k _ e=>e.1)⟩
theorem Kn.snapAt {hh sn ap:Bytes} (h:Kn F bb q (keptP hh sn ap) (n,logP es) W) (hb:Below W.heap.size W W') (hq:q<=15000) (s:SnK) (A:Option Addr) (m c:Nat) (a:Int)
  (hB:BatchOk b n es 0 0 0 none [] (some s) a) (hv:Sl W' 1 (.slice A m c) m (intsV s.l)) (hm:s.l.length=m) (hA:∀ b o,A=some ⟨b,o,none⟩->¬ F b\/(W.heap.size<=b/\b<W'.heap.size)) (hs1:hh.length<=200) (hs2:sn.length<=200) (hs3:ap.length<=200) :
  Calls Tryz.prog 15 #[ptrV bb,.agg #[.int .i64 0,.int .i64 0,.int .i64 0,.bool false,.int .i64 0,.slice none 0 0,.int .i64 ((b+s.k:Nat):Int),.int .i64 s.u,.slice A m c,.bool true,.int .i64 a]] W'
   (LogDone F bb (q+1000) (keptP hh (snB ((b+s.k:Nat):Int) s.u s.l) (apV a ap)) (n,logP (es.drop s.k)) W):=by
 refine ((h.gap hb).save hq 0 0 0 false none none 0 0 ((b+s.k:Nat):Int) s.u A m c true (some s) a hB (Sl.nil _ _ _ _) rfl (λ _ b o e=>by cases e) (λ e=>by cases e) (λ s' e=>by cases e;exact ⟨rfl,rfl,rfl,hv,hm,λ b o e f=>(hA b o e).elim (λ g=>g f.1) λ g=>f.2 g⟩) hs1 hs2 hs3).mono ?_
 rintro e w' ⟨he,hk,hkk⟩
 have hk':Kn F bb (q+1000) (keptP hh (snB ((b+s.k:Nat):Int) s.u s.l) (apV a ap)) (n,logP (es.drop s.k)) w':=by
  have h1:=hk.less (F':=F) λ k e=>e.1
  rw [show cutE none (snE (some s) es)++[]=es.drop s.k from List.append_nil _] at h1
  exact h1
 exact ⟨he,hk',(Keeps.of_below (S:=F) hb).go (hkk.mono λ k _ e=>e.1)⟩
end
theorem entB_len {o:LogE} (h:EntOk o):(entB o).length<=60+o.data.length:=by
 have h1:=varsB_len [o.idx,o.term,o.kind] (by
  intro v hv
  simp only [List.mem_cons,List.not_mem_nil,or_false] at hv
  rcases hv with rfl | rfl | rfl
  ·exact h.idx
  ·exact h.term
  ·exact h.kind)
 have h2:=varsB_len [1] (by intro v hv;simp at hv;subst hv;exact ⟨by omega,by omega⟩)
 have h3:=(varB_len ((o.data.length:Nat):Int) ⟨by omega,by have:=h.data;omega⟩).2
 simp only [List.length_cons,List.length_nil] at h1 h2
 simp only [entB,entL,textsB,textB,List.length_append,List.length_nil]
 omega
theorem i64_wfE {n:Int} (h:(Lit.int .i64 n).wf=true):I64 n:=by
 simp only [Lit.wf,Bool.and_eq_true,decide_eq_true_eq] at h
 exact ⟨h.1,h.2⟩
theorem validM_two {a b:Int} (h1:1<=a) (h2:a<b) (h3:b<=64):ValidM [a,b]:=by
 refine ⟨⟨by simp,by simp⟩,λ i hi=>?_,λ i hi=>?_⟩
 ·simp only [List.length_cons,List.length_nil] at hi
  match i,hi with
  | 0,_=>exact ⟨h1,by show a<=64;omega⟩
  | 1,_=>exact ⟨by show 1<=b;omega,h3⟩
 ·simp only [List.length_cons,List.length_nil] at hi
  match i,hi with
  | 0,_=>exact h2
theorem validM_one {a:Int} (h1:1<=a) (h3:a<=64):ValidM [a]:=by
 refine ⟨⟨by simp,by simp⟩,λ i hi=>?_,λ i hi=>?_⟩
 ·simp only [List.length_cons,List.length_nil] at hi
  match i,hi with
  | 0,_=>exact ⟨h1,h3⟩
 ·simp only [List.length_cons,List.length_nil] at hi
  omega
theorem sl_rows {W:World} {g:Nat} {T:TypeId} (z n:Nat) (cs:List Value) (hb:Blk W g T cs.toArray) (hl:cs.length=n*z):Sl W z (.slice (some ⟨g,0,none⟩) n n) n cs:=
 ⟨some ⟨g,0,none⟩,n,rfl,Nat.le_refl _,hl,λ _=>⟨g,0,rfl,hb.lt,λ j u hj=>by rw [Nat.zero_add,hb.cell j];simpa using hj⟩⟩
theorem lg_few {b n:Nat} {es:List LogE} (hf:Follow b es) (hl:es.length<=70) (ho:∀ o∈es,EntOk o/\o.data.length<=1000) (hb:b<=99990000) (hn:n<=140):Lg b n es:=
 ⟨hf,⟨hl,λ o h=>by have:=entB_len (ho o h).1;have:=(ho o h).2;omega⟩,by omega,hn⟩
theorem hard0_len:(varsB [0,0,0]).length<=200/\(varsB [0]).length<=200:=by
 have h1:=varsB_len [0,0,0] (by intro v hv;simp at hv;subst hv;exact ⟨by omega,by omega⟩)
 have h2:=varsB_len [0] (by intro v hv;simp at hv;subst hv;exact ⟨by omega,by omega⟩)
 simp only [List.length_cons,List.length_nil] at h1 h2
 exact ⟨by omega,by omega⟩
def e11:LogE:=⟨1,1,0,[]⟩
def e21:LogE:=⟨2,1,0,[]⟩
def e13:LogE:=⟨1,3,0,[]⟩
theorem eOk (a b:Int) (h1:0<=a/\a<=5) (h2:0<=b/\b<=5):EntOk ⟨a,b,0,[]⟩:=⟨⟨by show _<=a;omega,by show a<=_;omega⟩,⟨by show _<=b;omega,by show b<=_;omega⟩,⟨by show (-9223372036854775808:Int)<=0;omega,by show (0:Int)<=9223372036854775807;omega⟩,Nat.zero_le _⟩
theorem batch1:BatchOk 0 0 [] 0 0 0 (some 0) [e11,e21] none 0:=by
 have hz:I64 0:=⟨by omega,by omega⟩
 have ho:∀ o∈[e11,e21],EntOk o/\o.data.length<=1000:=by
  intro o ho
  simp only [List.mem_cons,List.not_mem_nil,or_false] at ho
  rcases ho with rfl | rfl
  ·exact ⟨eOk 1 1 (by omega) (by omega),by decide⟩
  ·exact ⟨eOk 2 1 (by omega) (by omega),by decide⟩
 exact ⟨⟨hz,hz,hz⟩,hz,lg_few trivial (by simp) (λ o h=>by cases h) (by omega) (by omega),(λ s e=>by cases e),(λ k e=>by cases e;exact Nat.le_refl _),lg_few ⟨rfl,rfl,trivial⟩ (by simp [cutE,snE]) ho (by decide) (by simp),λ o h=>(ho o h).1⟩
theorem batch2:BatchOk 0 2 [e11,e21] 3 0 0 (some 0) [e13] none 0:=by
 have hz:I64 0:=⟨by omega,by omega⟩
 have ho:∀ o∈[e11,e21],EntOk o/\o.data.length<=1000:=by
  intro o ho
  simp only [List.mem_cons,List.not_mem_nil,or_false] at ho
  rcases ho with rfl | rfl
  ·exact ⟨eOk 1 1 (by omega) (by omega),by decide⟩
  ·exact ⟨eOk 2 1 (by omega) (by omega),by decide⟩
 have ho2:∀ o∈[e13],EntOk o/\o.data.length<=1000:=by
  intro o ho
  simp only [List.mem_cons,List.not_mem_nil,or_false] at ho
  rcases ho with rfl
  exact ⟨eOk 1 3 (by omega) (by omega),by decide⟩
 exact ⟨⟨⟨by omega,by omega⟩,hz,hz⟩,hz,lg_few ⟨rfl,rfl,trivial⟩ (by simp) ho (by omega) (by omega),(λ s e=>by cases e),(λ k e=>by cases e;exact Nat.zero_le _),lg_few ⟨rfl,trivial⟩ (by simp [cutE,snE]) ho2 (by decide) (by simp),λ o h=>(ho2 o h).1⟩
theorem kept2:Kept 3 0 0 0 0 [1,2] 0 [e13]:=by
 have hz:I64 0:=⟨by omega,by omega⟩
 refine ⟨⟨⟨by omega,by omega⟩,hz,hz⟩,⟨⟨by omega,hz⟩,by omega,hz⟩,validM_two (by omega) (by omega) (by omega),hz,⟨λ o h=>?_,by simp⟩,⟨rfl,by decide,trivial⟩⟩
 simp only [List.mem_cons,List.not_mem_nil,or_false] at h
 rcases h with rfl
 have:=entB_len (eOk 1 3 (by omega) (by omega))
 exact ⟨eOk 1 3 (by omega) (by omega),by decide,by decide,by simp only [List.length_nil] at this;show (entB ⟨1,3,0,[]⟩).length<=_;omega⟩
set_option maxHeartbeats 16000000 in
set_option maxRecDepth 100000 in
theorem alive19 (w:World):Calls Tryz.prog 8 #[] w (TrueB w):=by
 go_enter Tryz.func8,Tryz.ntmps8
 go_wp2_with (fail)
 go_must (refine (begin19 _).mono ?_)
 rintro e w1 ⟨bb,p,rfl,hHb,hb1⟩
 have HB1:=Hdz hb1
 have HI:=Hdz (hHb.hf.initAt (W':=w1.alloc (.cells #[.int .i64 1,.int .i64 2] 3)) ((Below.refl _ _).alloc (Nat.le_refl _) _) (some ⟨w1.heap.size,0,none⟩) 2 2 [1,2] (sl_rows 1 2 [.int .i64 1,.int .i64 2] (Blk.new _ _ _) rfl) rfl (λ b o e=>.inr (by cases e;exact ⟨Nat.le_refl _,by simp⟩)) (validM_two (by omega) (by omega) (by omega)))
 clear hHb hb1
 go_wp2_with (fail)
 go_must (refine HI.out.mono ?_)
 rintro e w2 ⟨rfl,hk2,hkk2⟩
 have hz:=hard0_len
 have hsn:=snB_len (i:=0) (u:=0) (l:=[1,2]) ⟨by omega,by omega⟩ ⟨by omega,by omega⟩ (by simp) (validM_two (a:=1) (b:=2) (by omega) (by omega) (by omega)).i64
 have HB2:Hid (Below w.heap.size w w2):=HB1.out.trans (hkk2.base HB1.out.size λ k e=>e)
 have HS:=Hdz (Kn.saveAt (es:=[]) (n:=0) (b:=0) (more:=[e11,e21]) hk2 (W':=w2.alloc (.cells #[.int .i64 1,.int .i64 1,.int .i64 0,strV [],.int .i64 2,.int .i64 1,.int .i64 0,strV []] 62)) ((Below.refl _ _).alloc (Nat.le_refl _) _) (by omega) 0 0 0 false (some 0) (some ⟨w2.heap.size,0,none⟩) 2 2 0 batch1 (sl_rows 4 2 ([e11,e21].flatMap entCs) (Blk.new _ _ _) rfl) rfl (λ _ b o e=>.inr (by cases e;exact ⟨Nat.le_refl _,by simp⟩)) hz.1 hsn hz.2)
 clear hk2 hkk2 hz hsn
 go_wp2_with (fail)
 go_must (refine HS.out.mono ?_)
 rintro e w3 ⟨rfl,hk3,hkk3⟩
 have hz:=hard0_len
 have hsn:=snB_len (i:=0) (u:=0) (l:=[1,2]) ⟨by omega,by omega⟩ ⟨by omega,by omega⟩ (by simp) (validM_two (a:=1) (b:=2) (by omega) (by omega) (by omega)).i64
 have HB3:Hid (Below w.heap.size w w3):=HB2.out.trans (hkk3.base HB2.out.size λ k e=>e)
 have HS3:=Hdz (Kn.saveAt (es:=[e11,e21]) (n:=2) (b:=0) (more:=[e13]) hk3 (W':=w3.alloc (.cells #[.int .i64 1,.int .i64 3,.int .i64 0,strV []] 62)) ((Below.refl _ _).alloc (Nat.le_refl _) _) (by omega) 3 0 0 true (some 0) (some ⟨w3.heap.size,0,none⟩) 1 1 0 batch2 (sl_rows 4 1 ([e13].flatMap entCs) (Blk.new _ _ _) rfl) rfl (λ _ b o e=>.inr (by cases e;exact ⟨Nat.le_refl _,by simp⟩)) hz.1 hsn hz.2)
 clear hk3 hkk3 hz hsn
 go_wp2_with (fail)
 go_must (refine HS3.out.mono ?_)
 rintro e w4 ⟨rfl,hk4,hkk4⟩
 have HB4:Hid (Below w.heap.size w w4):=HB3.out.trans (hkk4.base HB3.out.size λ k e=>e)
 have HL:=Hdz (Kn.load (x:=3) (y:=0) (z:=0) (i:=0) (u:=0) (a:=0) (l:=[1,2]) (es:=[e13]) (n:=3) hk4 (by omega) kept2)
 clear hk4 hkk4
 go_wp2_with (fail)
 go_must (refine HL.out.mono ?_)
 rintro e w5 ⟨v5,v6,rfl,ho5,ho6,hb5⟩
 obtain ⟨A5,c5,rfl,-⟩:=Sl.of_own ho5
 obtain ⟨_,c6,e0,_,_,hcl⟩:=Sl.of_own ho6
 obtain ⟨b6,o6,rfl,hlt,hcell⟩:=hcl (by decide)
 subst e0
 have q1:w5.cell? ⟨b6,o6+1,none⟩=some (.int .i64 3):=hcell 1 _ rfl
 have HB5:Hid (Below w.heap.size w w5):=HB4.out.trans (hb5.mono HB4.out.size)
 have bx:Blk (w5.alloc (.cells #[.int .i64 3,.int .i64 0,.int .i64 0,.int .i64 0,.int .i64 0,.slice A5 [(1:Int),2].length c5,.slice (some ⟨b6,o6,none⟩) [e13].length c6,.int .i64 0] 56)) w5.heap.size 56 #[.int .i64 3,.int .i64 0,.int .i64 0,.int .i64 0,.int .i64 0,.slice A5 [(1:Int),2].length c5,.slice (some ⟨b6,o6,none⟩) [e13].length c6,.int .i64 0]:=Blk.new _ _ _
 have z0:=bx.cell 0
 have z5:=bx.cell 5
 have z6:=bx.cell 6
 clear ho5 ho6 hb5 hcl hcell bx
 simp only [List.length_cons,List.length_nil] at *
 go_wp2_with (fail)
 go_ret
 exact ⟨rfl,HB5.out.alloc HB5.out.size _⟩
end Go.Ev
