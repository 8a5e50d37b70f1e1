/-
  Texts of this claim.
-/
import Derived.Test.YtmfoiaaehkandaaGreatDoorMBGwSess1
set_option linter.unusedVariables false
set_option linter.unusedSimpArgs false

namespace Go.Ev
open Go.Proofs Go.RowKit
def Begin19P (w:World) (e:Ending) (w':World):Prop:=∃ bb p,e=.returned (.tuple #[ptrV bb,.bool true])/\Hb w.heap.size p bb 3000 0 [] w'/\Below w.heap.size w w'
set_option maxHeartbeats 2000000 in
set_option maxRecDepth 100000 in
theorem begin19 (w:World):Calls Tryz.prog 13 #[] w (Begin19P w):=by
 go_enter Tryz.func13,Tryz.ntmps13
 go_wp2_with (fail)
 go_must (refine (begin_any w).mono ?_)
 rintro e w1 ⟨d,f,p,pc,root,rfl,hp,hs,hb1⟩
 have HO:=Hdz (hp.opened hs hb1.size)
 have HB1:=Hdz hb1
 clear hp hs hb1
 go_wp2_with (fail)
 go_must (refine (open_ok p root w1).mono ?_)
 rintro e w2 ⟨rfl,rfl⟩
 have HB2:=Hdz (HB1.out.trans (((Below.refl w1.heap.size w1).alloc (Nat.le_refl _) (.cells #[ptrV p,.int .i64 root,.int .i64 0] 137)).mono HB1.out.size))
 obtain ⟨bb,hbb⟩:=nmz (w1.heap.size)
 rw [hbb] at HO ⊢
 obtain ⟨w2,hw2⟩:=nmz (w1.alloc (.cells #[ptrV p,.int .i64 root,.int .i64 0] 137))
 rw [hw2] at HO HB2 ⊢
 clear hw2 hbb HB1
 go_wp2_with (fail)
 refine bodyPost_ret (v:=.tuple #[ptrV bb,.bool true]) (by simp [results,Tryz.results13,go_sem]) rfl ?_
 exact ⟨bb,p,rfl,HO.out,HB2.out⟩
section
variable {F:Nat->Prop} {W W':World}
def ClipTo (W:World) (C E:Nat) (v:Value) (L:List Pair):Prop:=∃ u,W.ownsRow C 139 2 u L.length (pairsCs L)/\v=clipV u/\∀ k,u.ownBlock=some k->k<E
theorem ClipAt.to {C:Nat} {v:Value} {L:List Pair} (h:ClipAt W C v L):ClipTo W C W.heap.size v L:=by
 obtain ⟨u,h1,h2⟩:=h
 exact ⟨u,h1,h2,λ k e=>(h1.lt k e).2⟩
theorem ClipTo.sl {C E:Nat} {v:Value} {L:List Pair} (h:ClipTo W C E v L):∃ A,v=.slice A L.length L.length/\(A=none->L.length=0)/\Sl W 2 (.slice A L.length L.length) L.length (pairsCs L):=by
 obtain ⟨u,h1,h2,_⟩:=h
 exact ClipAt.sl ⟨u,h1,h2⟩
theorem ClipTo.below {C E:Nat} {v:Value} {L:List Pair} (h:ClipTo W C E v L) (hb:Below W.heap.size W W'):ClipTo W' C E v L:=by
 obtain ⟨u,h1,h2⟩:=h
 exact ⟨u,own_below h1 hb,h2⟩
theorem ClipTo.far {C E:Nat} {v:Value} {L:List Pair} (h:ClipTo W C E v L) (hk:Keeps F W W') (hF:∀ k,C<=k->k<E->¬ F k):ClipTo W' C E v L:=by
 obtain ⟨u,h1,h2,h3⟩:=h
 exact ⟨u,own_keeps h1 hk λ k e=>hF k (h1.lt k e).1 (h3 k e),h2,h3⟩
end
end Go.Ev
