/-
  Texts of this claim.
-/
import Derived.Test.YtmfoiaaehkandaaGreatDoorMBGvMin
import Derived.Deep.RegionHeld3
import Derived.Laws.MakeOwn
import Derived.Outline
import Derived.Test.YtmfoiaaehkandaaGreatDoorProg
import Derived.WalkKit
set_option linter.unusedVariables false
set_option linter.unusedSimpArgs false
set_option maxHeartbeats 1000000
set_option maxRecDepth 100000
namespace Go.Ev
open Go.Proofs Go.RowKit
def TrueB (w:World) (e:Ending) (w':World):Prop:=e=.returned (.bool true)/\Below w.heap.size w w'
def rowB0 (P:Program) (t:TypeId) (n:Nat):Bool:=(match P.underlying t with | some d=>d.isRow | none=>false) && ((P.info? t).map (·.size)==some n)
def fixArr (v n j:Nat):Array Value:=((List.range n).map λ k=>Value.int .u8 (if k<j then ((v / 2 ^ (8*k) % 256:Nat):Int) else 0)).toArray
theorem bytes_fix (W:World) (b k n:Nat) (c:Nat) (h:∀ j,j<n->∃ x:UInt8,W.cell? ⟨b,k+j,none⟩=some (.int .u8 x.toNat)) :
  ∃ t:ByteArray,t.size=n/\(convert 159 9 (.slice (some ⟨b,k,none⟩) n c)).run Tryz.prog W=.ok (.string t) W:=by
 rw [run_convert_bytes_string W _ _ 5 _ _ _ Tryz.underlying159 Tryz.underlying5 Tryz.underlying9]
 have h':∀ j,∃ x:UInt8,j<n->W.cell? ⟨b,k+j,none⟩=some (.int .u8 x.toNat):=λ j=>by
  by_cases hj:j<n
  ·obtain ⟨x,hx⟩:=h j hj;exact ⟨x,λ _=>hx⟩
  ·exact ⟨0,λ e=>absurd e hj⟩
 obtain ⟨f,hf⟩:=Classical.axiomOfChoice h'
 have hl:=run_loadCells_list (P:=Tryz.prog) (w:=W) ⟨b,k,none⟩ ((((List.range n).map λ j=>((f j).toNat:Int))).map (Value.int .u8)) (λ j v hj=>by
  rw [List.map_map,List.getElem?_map,Option.map_eq_some_iff] at hj
  obtain ⟨i,hi,rfl⟩:=hj
  obtain ⟨h1,h2⟩:=List.getElem?_eq_some_iff.1 hi
  rw [List.getElem_range] at h2
  subst h2
  rw [Addr.add_lit]
  exact hf _ (by simpa using h1))
 simp only [List.length_map,List.length_range] at hl
 have hr:=run_bytesToString W ⟨b,k,none⟩ n c _ hl
 refine ⟨_,?_,hr⟩
 have hsz:∀ (l:List Int) (r:ByteArray),(l.foldl (λ r n=>r.push (UInt8.ofNat n.toNat)) r).size=r.size+l.length:=by
  intro l
  induction l with
  | nil=>intro r;rfl
  | cons x l ih=>intro r;rw [List.foldl_cons,ih,List.length_cons,ByteArray.size_push];omega
 rw [hsz]
 simp
theorem fix_set (v n j:Nat):(fixArr v n j).setIfInBounds j (Value.int .u8 ((v:Int) / 2 ^ (8*j) % 256))=fixArr v n (j+1):=by
 apply Array.ext'
 unfold fixArr
 rw [Array.toList_setIfInBounds]
 apply List.ext_getElem?
 intro k
 rw [List.getElem?_set]
 by_cases hk:k<n
 ·by_cases hj:j=k
  ·subst hj
   simp [hk]
  ·have e:(k<j+1)↔(k<j):=by omega
   simp [hk,hj,e]
 ·by_cases hj:j=k
  ·subst hj
   simp [hk]
  ·simp [hk,hj]
theorem fix_cell (v n j k:Nat) (hk:k<n):(fixArr v n j)[k]? = some (.int .u8 (UInt8.ofNat (if k<j then v / 2 ^ (8*k) % 256 else 0)).toNat):=by
 rw [UInt8.toNat_ofNat_of_lt' (by split<;>first | exact Nat.mod_lt _ (by decide) | decide)]
 unfold fixArr
 simp [hk]
 split<;>simp
theorem made_fix (v n:Nat):madeCells #[Value.int .u8 0] (n*1)=fixArr v n 0:=by
 apply Array.ext'
 simp [fixArr,madeCells,Nat.mod_one]
theorem fix_any (v n:Nat) (w:World) (hn1:1<=n) (hn7:n<=7) (hv:v<2 ^ (8*n)) :
  Calls Tryz.prog 187 #[.int .i64 v,.int .i64 n] w λ e w'=>(∃ t:ByteArray,e=.returned (.tuple #[.string t,.int .i64 0])/\t.size=n)/\Below w.heap.size w w':=by
 obtain ⟨i0,hi,hz0,hz1,hz2⟩:=info_parts (show (Tryz.prog.info? 5).map (λ i=>(i.zero,i.size,i.bytes))=some (some (.int .u8 0),1,1) by kernel_rfl)
 have hmk:=run_makeSlice (P:=Tryz.prog) w 159 5 i0 (.int .u8 0) Tryz.underlying159 hi hz0 .i64 .i64 (n:Int) n (by omega) (by omega) (by rw [hz1];omega) (by rw [hz2];omega) (by omega)
 rw [hz1] at hmk
 simp only [Int.toNat_natCast] at hmk
 rw [show Value.cells (.int .u8 0)=#[.int .u8 0] from rfl,made_fix v n] at hmk
 go_enter Tryz.func187,Tryz.ntmps187
 go_wp2
 ·rename_i h
  exfalso
  have h0:(v:Int) / 2 ^ (8*n)=0:=by
   have:v / 2 ^ (8*n)=0:=Nat.div_eq_of_lt hv
   rw [<- Int.natCast_zero,<- this]
   simp
  simp [h0] at h
  omega
 ·clear hmk
  go_loopw [29] (λ i wr=>∃ j:Nat,j<=n/\i=.int .i64 (j:Int)/\wr=w.alloc (.cells (fixArr v n j) 5)) (λ i _=>n-(intOf i).toNat)
  case atStart=>exact ⟨0,by omega,rfl,rfl⟩
  case round =>
   obtain ⟨j,hj,rfl,rfl⟩:=hrel
   rcases Nat.lt_or_ge j n with hlt | hge
   ·have hcell:=(World.cell?_alloc_at (w:=w) (fixArr v n j) 5 w.heap.size j rfl).trans (fix_cell v n j j hlt)
    have hfz:(w.alloc (.cells (fixArr v n j) 5)).frozen? ⟨w.heap.size,j,none⟩=false:=World.frozen?_alloc_at _ _ w.heap.size j rfl
    go_wp2
    ·refine ⟨⟨j+1,by omega,rfl,by rw [fix_set]⟩,?_⟩
     simp only [intOf]
     omega
   ·obtain rfl:j=n:=by omega
    obtain ⟨t,ht,hcv⟩:=bytes_fix (w.alloc (.cells (fixArr v j j) 5)) w.heap.size 0 j j (λ k hk=>by
     rw [World.cell?_alloc_at _ _ w.heap.size _ rfl,Nat.zero_add]
     exact ⟨_,fix_cell v j j k hk⟩)
    go_wp2
    go_ret2
    exact ⟨⟨t,rfl,ht⟩,(Below.refl _ _).alloc (Nat.le_refl _) _⟩
theorem push_all:∀ (l:List UInt8) (r:ByteArray),(l.map λ x=>(x.toNat:Int)).foldl (λ r n=>r.push (UInt8.ofNat n.toNat)) r=⟨r.data++l.toArray⟩
 | [],r=>by
  apply ByteArray.ext
  simp
 | x :: l,r=>by
  rw [List.map_cons,List.foldl_cons,push_all l]
  apply ByteArray.ext
  have hx:UInt8.ofNat (x.toNat:Int).toNat=x:=by
   rw [Int.toNat_natCast]
   exact UInt8.ofNat_toNat
  show (r.data.push (UInt8.ofNat (x.toNat:Int).toNat))++l.toArray=r.data++(x :: l).toArray
  rw [hx]
  apply Array.ext'
  simp
theorem bytes_exact (W:World) (b k n c:Nat) (f:Nat->UInt8) (h:∀ j,j<n->W.cell? ⟨b,k+j,none⟩=some (.int .u8 (f j).toNat)) :
  (convert 159 9 (.slice (some ⟨b,k,none⟩) n c)).run Tryz.prog W=.ok (.string ⟨((List.range n).map f).toArray⟩) W:=by
 rw [run_convert_bytes_string W _ _ 5 _ _ _ Tryz.underlying159 Tryz.underlying5 Tryz.underlying9]
 have hl:=run_loadCells_list (P:=Tryz.prog) (w:=W) ⟨b,k,none⟩ ((((List.range n).map f).map λ x=>(x.toNat:Int)).map (Value.int .u8)) (λ j v hj=>by
  rw [List.map_map,List.map_map,List.getElem?_map,Option.map_eq_some_iff] at hj
  obtain ⟨i,hi,rfl⟩:=hj
  obtain ⟨h1,h2⟩:=List.getElem?_eq_some_iff.1 hi
  rw [List.getElem_range] at h2
  subst h2
  rw [Addr.add_lit]
  exact h _ (by simpa using h1))
 simp only [List.length_map,List.length_range] at hl
 have hr:=run_bytesToString W ⟨b,k,none⟩ n c _ hl
 rw [hr,push_all]
 congr 2
 apply ByteArray.ext
 apply Array.ext'
 simp
def leBytes (v n:Nat):List UInt8:=(List.range n).map λ k=>UInt8.ofNat (v / 2 ^ (8*k) % 256)
theorem fix_exact (v n:Nat) (w:World) (hn1:1<=n) (hn7:n<=7) (hv:v<2 ^ (8*n)) :
  Calls Tryz.prog 187 #[.int .i64 v,.int .i64 n] w λ e w'=>e=.returned (.tuple #[.string ⟨(leBytes v n).toArray⟩,.int .i64 0])/\Below w.heap.size w w':=by
 obtain ⟨i0,hi,hz0,hz1,hz2⟩:=info_parts (show (Tryz.prog.info? 5).map (λ i=>(i.zero,i.size,i.bytes))=some (some (.int .u8 0),1,1) by kernel_rfl)
 have hmk:=run_makeSlice (P:=Tryz.prog) w 159 5 i0 (.int .u8 0) Tryz.underlying159 hi hz0 .i64 .i64 (n:Int) n (by omega) (by omega) (by rw [hz1];omega) (by rw [hz2];omega) (by omega)
 rw [hz1] at hmk
 simp only [Int.toNat_natCast] at hmk
 rw [show Value.cells (.int .u8 0)=#[.int .u8 0] from rfl,made_fix v n] at hmk
 go_enter Tryz.func187,Tryz.ntmps187
 go_wp2
 ·rename_i h
  exfalso
  have h0:(v:Int) / 2 ^ (8*n)=0:=by
   have:v / 2 ^ (8*n)=0:=Nat.div_eq_of_lt hv
   rw [<- Int.natCast_zero,<- this]
   simp
  simp [h0] at h
  omega
 ·clear hmk
  go_loopw [29] (λ i wr=>∃ j:Nat,j<=n/\i=.int .i64 (j:Int)/\wr=w.alloc (.cells (fixArr v n j) 5)) (λ i _=>n-(intOf i).toNat)
  case atStart=>exact ⟨0,by omega,rfl,rfl⟩
  case round =>
   obtain ⟨j,hj,rfl,rfl⟩:=hrel
   rcases Nat.lt_or_ge j n with hlt | hge
   ·have hcell:=(World.cell?_alloc_at (w:=w) (fixArr v n j) 5 w.heap.size j rfl).trans (fix_cell v n j j hlt)
    have hfz:(w.alloc (.cells (fixArr v n j) 5)).frozen? ⟨w.heap.size,j,none⟩=false:=World.frozen?_alloc_at _ _ w.heap.size j rfl
    go_wp2
    ·refine ⟨⟨j+1,by omega,rfl,by rw [fix_set]⟩,?_⟩
     simp only [intOf]
     omega
   ·obtain rfl:j=n:=by omega
    have hcv:=bytes_exact (w.alloc (.cells (fixArr v j j) 5)) w.heap.size 0 j j (λ k=>UInt8.ofNat (if k<j then v / 2 ^ (8*k) % 256 else 0)) (λ k hk=>by
     rw [World.cell?_alloc_at _ _ w.heap.size _ rfl,Nat.zero_add]
     exact fix_cell v j j k hk)
    rw [show ((List.range j).map λ k=>UInt8.ofNat (if k<j then v / 2 ^ (8*k) % 256 else 0))=leBytes v j from List.map_congr_left λ k hk=>by rw [if_pos (by simpa using hk)]] at hcv
    go_wp2
    go_ret2
    exact ⟨rfl,(Below.refl _ _).alloc (Nat.le_refl _) _⟩
end Go.Ev
