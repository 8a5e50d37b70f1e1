/-
  Texts of this claim.
-/
import Derived.Below
import Derived.Lib.Hide
import Derived.Orders
import Derived.RegionTactic
set_option linter.unusedVariables false
set_option linter.unusedSimpArgs false
namespace Go.Ev
theorem lT {α:Type} (l:List α) (i:Nat) (a:α):l.toArray.setIfInBounds i a=(l.set i a).toArray:=List.setIfInBounds_toArray l i a
theorem l0 {α:Type} (a b:α) (l:List α):(a :: l).set 0 b=b :: l:=rfl
theorem lS {α:Type} (a b:α) (l:List α) (n:Nat):(a :: l).set (n+1) b=a :: l.set n b:=rfl
section
variable {P:Program} {ops:Array Oper} {Q:Exit->Act->World->Prop} {md:Region.Mode} {d:Option Tmp} {op:Op} {t:TypeId} {ps:String} {af:Array Edge} {g:Option (Tmp × Bool)} {fuel:Nat} {listed:Array Bool} {a:Act} {w:World} {v:Value}
theorem tk (i:Nat) (hi:ops[i]? = some ⟨d,op,t,ps,af,g⟩) (hc:(Region.noSelect ops && Region.free md ops listed i && (Region.ready md ops listed).contains i)=true)
  (hQ:∀ c a w,Q (.panic c) (a.put d v) w->Q (.panic c) a w) (hw:Region.wanted ⟨d,op,t,ps,af,g⟩ (yielded ops a.tmps)=true) (hy:∀ w,(execOp a.eval ⟨d,op,t,ps,af,g⟩).run P w=.ok (.value v) w)
  (h:wpAny P md ops Q fuel (listed.setIfInBounds i true) (a.put d v) w):wpAny P md ops Q (fuel+1) listed a w:=by
 simp only [Bool.and_eq_true] at hc
 exact wpAny_take hi hc.1.1 hc.1.2 hc.2 hQ (.inl ⟨hw,hy⟩) h
theorem sk (i:Nat) (hi:ops[i]? = some ⟨d,op,t,ps,af,g⟩) (hc:(Region.noSelect ops && Region.free md ops listed i && (Region.ready md ops listed).contains i)=true)
  (hQ:∀ c a w,Q (.panic c) (a.put d undef) w->Q (.panic c) a w) (hw:Region.wanted ⟨d,op,t,ps,af,g⟩ (yielded ops a.tmps)=false)
  (h:wpAny P md ops Q fuel (listed.setIfInBounds i true) (a.put d undef) w):wpAny P md ops Q (fuel+1) listed a w:=by
 simp only [Bool.and_eq_true] at hc
 exact wpAny_take hi hc.1.1 hc.1.2 hc.2 hQ (.inr ⟨hw,rfl⟩) h
theorem rd (i:Nat) (hr:Region.ready md ops listed=[i]) (hi:ops[i]? = some ⟨d,op,t,ps,af,g⟩)
  (h:∀ K':Act->World->Prop,(∀ a w,wpAny P md ops Q fuel (listed.setIfInBounds i true) a w->K' a w)->if Region.wanted ⟨d,op,t,ps,af,g⟩ (yielded ops a.tmps)=true then Oper.wp P ⟨d,op,t,ps,af,g⟩ a w K' Q else K' (a.put d undef) w) :
  wpAny P md ops Q (fuel+1) listed a w:=wpAny_ready hr (by simp) (AllReady.cons hi h AllReady.nil)
end
open Go.RowKit
theorem Hdz {p:Prop} (h:p):Hid p:=Lib.hid h
theorem nmz {α:Sort _} (a:α):∃ x,a=x:=⟨a,rfl⟩
theorem Anz {a b:Prop} (h:a) (k:b):a/\b:=⟨h,k⟩
theorem lAz:(∀ (a:Act) (t:Tmp) (v:Value),a.put (some t) v={ a with tmps:=a.tmps.setIfInBounds t v })/\(∀ (a:Act) (v:Value),a.put none v=a) ∧
  (∀ (α:Type) (l:List α) (i:Nat) (a:α),l.toArray.setIfInBounds i a=(l.set i a).toArray)/\(∀ (α:Type) (a b:α) (l:List α),(a :: l).set 0 b=b :: l) ∧
  (∀ (α:Type) (a b:α) (l:List α) (n:Nat),(a :: l).set (n+1) b=a :: l.set n b):=
 ⟨λ _ _ _=>rfl,λ _ _=>rfl,λ _ l i a=>List.setIfInBounds_toArray l i a,λ _ _ _ _=>rfl,λ _ _ _ _ _=>rfl⟩
section
variable {P:Program} {ops:Array Oper} {Q:Exit->Act->World->Prop} {md:Region.Mode} {d:Option Tmp} {op:Op} {t:TypeId} {ps:String} {af:Array Edge} {g:Option (Tmp × Bool)} {fuel:Nat} {listed:Array Bool} {a:Act} {w:World} {id:Nat}
theorem wRz (h:wpAny P .any ops Q ops.size (Array.replicate ops.size false) a (World.drew w)) (hm:P.follows .mixedOrders=true:=by kernel_rfl):(Code.region id ops true).wp P Q a w:=wp_region_any hm h
theorem wDz (h:Q .normal a w) (hr:Region.ready md ops listed=[]:=by kernel_rfl):wpAny P md ops Q fuel listed a w:=wpAny_done hr h fuel
theorem rZz (i:Nat) (h:∀ K':Act->World->Prop,(∀ a w,wpAny P md ops Q fuel (listed.setIfInBounds i true) a w->K' a w)->if Region.wanted ⟨d,op,t,ps,af,g⟩ (yielded ops a.tmps)=true then Oper.wp P ⟨d,op,t,ps,af,g⟩ a w K' Q else K' (a.put d undef) w)
  (hi:ops[i]? = some ⟨d,op,t,ps,af,g⟩:=by rfl) (hr:Region.ready md ops listed=[i]:=by kernel_rfl):wpAny P md ops Q (fuel+1) listed a w:=rd i hr hi h
theorem aCz {i:Nat} {rs:List Nat} (h:∀ K':Act->World->Prop,(∀ a w,wpAny P md ops Q fuel (listed.setIfInBounds i true) a w->K' a w)->if Region.wanted ⟨d,op,t,ps,af,g⟩ (yielded ops a.tmps)=true then Oper.wp P ⟨d,op,t,ps,af,g⟩ a w K' Q else K' (a.put d undef) w)
  (hs:AllReady P md ops Q fuel listed a w rs) (hi:ops[i]? = some ⟨d,op,t,ps,af,g⟩:=by rfl):AllReady P md ops Q fuel listed a w (i :: rs):=AllReady.cons hi h hs
end
end Go.Ev
