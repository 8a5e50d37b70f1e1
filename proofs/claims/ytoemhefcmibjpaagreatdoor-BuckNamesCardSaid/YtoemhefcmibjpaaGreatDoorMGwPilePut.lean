/-
  append of a slice that reads as cells, nil or not, onto a row of one's own. Numbers that change places. A pile's numbers: how many; which is less; two change places; one more; one less. The methods of a pile's numbers, through an interface. A heap of numbers: one more, and the least one taken, as far as what is in it. A heap of numbers: what goes down in it. A number is put onto a pile; one is taken. A number is put onto a heap; one is taken from it. Onto a heap, and from it; a pile's methods. Numbers are put onto a pile.
-/
import Derived.Test.YtoemhefcmibjpaaGreatDoorMGvGet
import Derived.Laws.AppendOwnNone
import Derived.Test.YtoemhefcmibjpaaGreatDoorMEvInsert
import Derived.Test.YtoemhefcmibjpaaGreatDoorMEvBytes
import Derived.Test.YtoemhefcmibjpaaGreatDoorMGwReader
import Derived.Deep.LoopGhost
import Derived.Deep.DeepMust
set_option linter.unusedVariables false
set_option linter.unusedSimpArgs false
namespace Go.Ev
open Go.RowKit
theorem addr_add (b o j : Nat) : (⟨b, o, none⟩ : Addr).add j = ⟨b, o + j, none⟩ := by cases j <;> simp [Addr.add]
theorem wpList_append_sl {P : Program} {w : World} {ops : Array Oper} {rest : List Oper} {o : Oper} {a : Act} {Q : Exit → Act → World → Prop} (hgd : o.guard = none) (s x : Operand) (t : TypeId)
  (ho : o.op = .call { callee := .builtin .append, args := #[s, x], argTypes := #[t, t] })
  (base : Nat) (e : TypeId) (i : TypeInfo) (z : Value) (size bytes : Nat) (ht : P.underlying t = some (.slice e)) (hi : P.info? e = some i) (hz : i.zero = some z)
  (hsize : i.size = size) (hby : i.bytes = bytes) (hzs : z.cells.size = size) (hsz : 0 < size)
  (v : Value) (n : Nat) (xs : List Value) (hs : a.eval s = v) (hown : w.ownsRow base e size v n xs)
  (A : Option Addr) (m c : Nat) (news : List Value) (hx : a.eval x = .slice A m c) (hsl : Sl w size (.slice A m c) m news) (hA : A = none → c = 0) (h1 : ∀ u ∈ news, u.oneCell' = true)
  (h63 : n + m ≤ maxLen) (hbytes : (n + m) * bytes ≤ 140737488355328) (hbase : base ≤ w.heap.size)
  (h : ∀ v' w', w'.ownsRow base e size v' (n + m) (xs ++ news) → w.grownBy w' v.ownBlock → wpList P ops Q rest (a.put o.dst v') w') : wpList P ops Q (o :: rest) a w := by
 obtain ⟨A', c', e0, h0, h2, h3⟩ := hsl
 cases e0
 cases A with
 | none =>
  have hm : m = 0 := by
   by_cases hp : 0 < m
   ·obtain ⟨_, _, he, _⟩ := h3 hp; cases he
   ·omega
  subst hm
  have hc := hA rfl
  subst hc
  have hn : news = [] := List.eq_nil_of_length_eq_zero (by simpa using h2)
  subst hn
  refine wpList_append_own_none hgd s x t ho base e i size ht hi v n xs hs hown hx (h v w ?_ ⟨rfl, rfl, rfl, Nat.le_refl _, fun _ _ _ => rfl⟩)
  simpa using hown
 | some ad =>
  refine wpList_append_own w hgd s x t ho base e i z size bytes ht hi hz hsize hby hzs hsz v n xs hs hown ad m c news hx h2 (fun j u hu => ?_) h1 h63 hbytes hbase fun v' w' h4 h5 _ => h v' w' h4 h5
  have hj := (List.getElem?_eq_some_iff.1 hu).1
  have hm : 0 < m := by
   cases m with
   | zero => rw [h2] at hj; simp at hj
   | succ m => omega
  obtain ⟨b, o', he, _, h6⟩ := h3 hm
  cases he
  rw [addr_add]
  exact h6 j u hu
theorem append_where {P : Program} {w w' : World} {base : Nat} {t ty e : TypeId} {i : TypeInfo} {z : Value} {size bytes : Nat} (ht : P.underlying t = some (.slice e)) (hi : P.info? e = some i) (hz : i.zero = some z)
  (hsize : i.size = size) (hby : i.bytes = bytes) (hsz : 0 < size) {v v' : Value} {n : Nat} {xs : List Value} (hown : w.ownsRow base e size v n xs)
  {a : Addr} {m c : Nat} {news : List Value} (hl : news.length = m * size) (hnews : ∀ j u, news[j]? = some u → w.cell? (a.add j) = some u) (h1 : ∀ u ∈ news, u.oneCell' = true)
  (h63 : n + m ≤ maxLen) (hbytes : (n + m) * bytes ≤ 140737488355328) (hr : (Builtin.append_ #[t, t] ty #[v, .slice (some a) m c]).run P w = .ok v' w') :
  ∀ k, v'.ownBlock = some k → v.ownBlock = some k ∨ w.heap.size ≤ k := by
 subst hsize hby
 unfold maxLen at h63
 rcases hown.2 with ⟨rfl, rfl⟩ | ⟨g, cap, cur, rfl, hbg, hg, hnc, hcm, hcs, htake⟩
 ·by_cases hm : m = 0
  ·subst hm
   have : (Builtin.append_ #[t, t] ty #[.slice none 0 0, .slice (some a) 0 c]).run P w = .ok (.slice none 0 0) w := by
    simp [Builtin.append_, run_underlying ht, sizeOf, typeInfo, hi, Builtin.lenOf, Builtin.firstCells, loadCells, loadCellsFrom]
   rw [this] at hr
   cases hr
   intro k hk
   cases hk
  ·rw [run_append_nil (P := P) w t ty e i z ht hi hz a m c news hl hnews (by omega) (by omega) (by have hb := hbytes; simp only [Nat.zero_add] at hb; omega)] at hr
   cases hr
   intro k hk
   simp only [Value.ownBlock, Option.some.injEq] at hk
   omega
 ·by_cases hroom : n + m ≤ cap
  ·rw [run_append_room (P := P) w t ty e i ht hi g n cap cur hg a m c news hl hnews h1 hroom (by rw [hl, hcs, ← Nat.add_mul]; exact Nat.mul_le_mul_right _ hroom)] at hr
   cases hr
   intro k hk
   exact .inl hk
  ·rw [run_append_grow (P := P) w t ty e i z ht hi hz ⟨g, 0, none⟩ n cap xs hown.1 (hown.cells (g := g) rfl) a m c news hl hnews (by omega) (by omega) (growslice_fits (by omega) hbytes)] at hr
   cases hr
   intro k hk
   simp only [Value.ownBlock, Option.some.injEq] at hk
   omega
theorem wp_append_at {P : Program} {w : World} {o : Oper} {a : Act} {K : Act → World → Prop} {Q : Exit → Act → World → Prop} (s x : Operand) (t : TypeId)
  (ho : o.op = .call { callee := .builtin .append, args := #[s, x], argTypes := #[t, t] })
  (base : Nat) (e : TypeId) (i : TypeInfo) (z : Value) (size bytes : Nat) (ht : P.underlying t = some (.slice e)) (hi : P.info? e = some i) (hz : i.zero = some z)
  (hsize : i.size = size) (hby : i.bytes = bytes) (hzs : z.cells.size = size) (hsz : 0 < size)
  (v : Value) (n : Nat) (xs : List Value) (hs : a.eval s = v) (hown : w.ownsRow base e size v n xs)
  (ad : Addr) (m c : Nat) (news : List Value) (hx : a.eval x = .slice (some ad) m c) (hl : news.length = m * size) (hnews : ∀ j u, news[j]? = some u → w.cell? (ad.add j) = some u) (h1 : ∀ u ∈ news, u.oneCell' = true)
  (h63 : n + m ≤ maxLen) (hbytes : (n + m) * bytes ≤ 140737488355328) (hbase : base ≤ w.heap.size)
  (h : ∀ v' w', w'.ownsRow base e size v' (n + m) (xs ++ news) → w.grownBy w' v.ownBlock → (∀ k, v'.ownBlock = some k → v.ownBlock = some k ∨ w.heap.size ≤ k) → K (a.put o.dst v') w') : o.wp P a w K Q := by
 obtain ⟨v', w', hr, h2, h3, h4⟩ := run_append_own (P := P) w base t o.type e i z size bytes ht hi hz hsize hby hzs hsz v n xs hown ad m c news hl hnews h1 h63 hbytes hbase
 have h5 := append_where ht hi hz hsize hby hsz hown hl hnews h1 h63 hbytes hr
 unfold Oper.wp execOp
 simp only [ho, resolve, invoke, builtin, Sem.run_bind, Sem.run_pure, Result.andThen_ok, List.map_toArray, List.map_cons, List.map_nil, hs, hx, hr]
 exact h v' w' h2 h3 h5
theorem wpList_append_at {P : Program} {w : World} {ops : Array Oper} {rest : List Oper} {o : Oper} {a : Act} {Q : Exit → Act → World → Prop} (hgd : o.guard = none) (s x : Operand) (t : TypeId)
  (ho : o.op = .call { callee := .builtin .append, args := #[s, x], argTypes := #[t, t] })
  (base : Nat) (e : TypeId) (i : TypeInfo) (z : Value) (size bytes : Nat) (ht : P.underlying t = some (.slice e)) (hi : P.info? e = some i) (hz : i.zero = some z)
  (hsize : i.size = size) (hby : i.bytes = bytes) (hzs : z.cells.size = size) (hsz : 0 < size)
  (v : Value) (n : Nat) (xs : List Value) (hs : a.eval s = v) (hown : w.ownsRow base e size v n xs)
  (ad : Addr) (m c : Nat) (news : List Value) (hx : a.eval x = .slice (some ad) m c) (hl : news.length = m * size) (hnews : ∀ j u, news[j]? = some u → w.cell? (ad.add j) = some u) (h1 : ∀ u ∈ news, u.oneCell' = true)
  (h63 : n + m ≤ maxLen) (hbytes : (n + m) * bytes ≤ 140737488355328) (hbase : base ≤ w.heap.size)
  (h : ∀ v' w', w'.ownsRow base e size v' (n + m) (xs ++ news) → w.grownBy w' v.ownBlock → (∀ k, v'.ownBlock = some k → v.ownBlock = some k ∨ w.heap.size ≤ k) → wpList P ops Q rest (a.put o.dst v') w') : wpList P ops Q (o :: rest) a w :=
 wpList_plain hgd fun _ hK => wp_append_at s x t ho base e i z size bytes ht hi hz hsize hby hzs hsz v n xs hs hown ad m c news hx hl hnews h1 h63 hbytes hbase fun v' w' h2 h3 h4 => hK _ _ (h v' w' h2 h3 h4)
end Go.Ev

namespace Go.Ev
theorem if_on {p : Prop} [Decidable p] {a b : Prop} (h : p) (ha : a) : if p then a else b := by rw [if_pos h]; exact ha
def swapL (l : List Int) (i j : Nat) : List Int := (l.set i (l.getD j 0)).set j (l.getD i 0)
theorem swapL_at {l : List Int} {i j k : Nat} (hi : i < l.length) (hj : j < l.length) : (swapL l i j)[k]? = if k = j then l[i]? else if k = i then l[j]? else l[k]? := by
 unfold swapL
 rw [List.getElem?_set]
 by_cases h : j = k
 ·subst h
  rw [if_pos rfl, if_pos (by simpa using hj), if_pos rfl, List.getElem?_eq_getElem hi]
  simp [List.getD_eq_getElem?_getD, hi]
 ·rw [if_neg h, if_neg (fun e => h e.symm), List.getElem?_set]
  by_cases h2 : i = k
  ·subst h2
   rw [if_pos rfl, if_pos hi, if_pos rfl, List.getElem?_eq_getElem hj]
   simp [List.getD_eq_getElem?_getD, hj]
  ·rw [if_neg h2, if_neg (fun e => h2 e.symm)]
theorem swapL_perm {l : List Int} {i j : Nat} (hi : i < l.length) (hj : j < l.length) : (swapL l i j).Perm l := by
 have h := Array.swap_perm (xs := l.toArray) (i := i) (j := j) (by simpa using hi) (by simpa using hj)
 have e : (l.toArray.swap i j (by simpa using hi) (by simpa using hj)).toList = swapL l i j := by
  apply List.ext_getElem?
  intro k
  rw [swapL_at hi hj]
  simp only [Array.toList_swap, List.getElem?_set]
  by_cases h1 : j = k
  ·subst h1
   by_cases h3 : i = j
   ·subst h3; simp [hi]
   ·simp [hi, hj, h3]
  ·by_cases h2 : i = k
   ·subst h2; simp [h1, hi, hj]; intro e; exact absurd e.symm h1
   ·rw [if_neg h1, if_neg h2, if_neg (fun e => h1 e.symm), if_neg (fun e => h2 e.symm)]
 have := h.toList
 rw [e] at this
 exact this
def intsV (l : List Int) : List Value := l.map (Value.int .i64)
theorem intsV_len (l : List Int) : (intsV l).length = l.length := by simp [intsV]
theorem intsV_at (l : List Int) (k : Nat) : (intsV l)[k]? = (l[k]?).map (Value.int .i64) := by simp [intsV]
theorem intsV_set (l : List Int) (k : Nat) (x : Int) : (intsV l).set k (.int .i64 x) = intsV (l.set k x) := by simp [intsV, List.map_set]
theorem intsV_snoc (l : List Int) (x : Int) : intsV (l ++ [x]) = intsV l ++ [.int .i64 x] := by simp [intsV]
end Go.Ev

set_option linter.unusedVariables false
set_option linter.unusedSimpArgs false
namespace Go.Ev
open Go.Proofs Go.RowKit
theorem lenN_any (A : Option Addr) (n c : Nat) (w : World) : Calls Tryz.prog 246 #[.slice A n c] w fun e w' => e = .returned (.int .i64 n) ∧ w' = w := by
 go_enter Tryz.func246, Tryz.ntmps246
 go_wp2
 go_ret
 exact ⟨rfl, rfl⟩
theorem lessN_any (g n c i j : Nat) (x y : Int) (w : World) (hx : w.cell? ⟨g, i, none⟩ = some (.int .i64 x)) (hy : w.cell? ⟨g, j, none⟩ = some (.int .i64 y)) (hi : i < n) (hj : j < n) (hn : n ≤ 1000000) :
  Calls Tryz.prog 247 #[.slice (some ⟨g, 0, none⟩) n c, .int .i64 i, .int .i64 j] w fun e w' => e = .returned (.bool (decide (x < y))) ∧ w' = w.drew := by
 have hi' : (i : Int) < (n : Int) := by omega
 have hj' : (j : Int) < (n : Int) := by omega
 go_enter Tryz.func247, Tryz.ntmps247
 go_wp2
 refine wp_region_any (by kernel_rfl) ?_
 change wpAny _ _ _ _ _ _ _ (World.drew _)
 try simp only [Act.put, lT, l0, lS]
 refine tA 0 ?_; try simp only [Act.put, lT, l0, lS]
 refine tA 1 ?_; try simp only [Act.put, lT, l0, lS]
 refine tA 2 ?_; try simp only [Act.put, lT, l0, lS]
 refine tA 4 ?_; try simp only [Act.put, lT, l0, lS]
 refine tA 5 ?_; try simp only [Act.put, lT, l0, lS]
 refine tA 6 ?_; try simp only [Act.put, lT, l0, lS]
 refine wpAny_ready (rs := [3, 7]) (by kernel_rfl) (by simp) (AllReady.cons (o := { dst := _, op := _, type := _, pos := _, after := _, guard := _ }) rfl (fun K hK => ?_) (AllReady.cons (o := { dst := _, op := _, type := _, pos := _, after := _, guard := _ }) rfl (fun K hK => ?_) AllReady.nil))
 ·go_simp
  refine hK _ _ ?_
  clear hK K
  refine rd 7 (by kernel_rfl) rfl (fun K hK => ?_); go_simp; refine hK _ _ ?_; clear hK K
  refine rd 8 (by kernel_rfl) rfl (fun K hK => ?_); go_simp; refine hK _ _ ?_; clear hK K
  refine rd 9 (by kernel_rfl) rfl (fun K hK => ?_); go_simp; refine hK _ _ ?_; clear hK K
  refine wpAny_done (by kernel_rfl) ?_ _
  go_wp2
  go_ret
  exact ⟨by simp, rfl⟩
 ·go_simp
  refine hK _ _ ?_
  clear hK K
  refine rd 3 (by kernel_rfl) rfl (fun K hK => ?_); go_simp; refine hK _ _ ?_; clear hK K
  refine rd 8 (by kernel_rfl) rfl (fun K hK => ?_); go_simp; refine hK _ _ ?_; clear hK K
  refine rd 9 (by kernel_rfl) rfl (fun K hK => ?_); go_simp; refine hK _ _ ?_; clear hK K
  refine wpAny_done (by kernel_rfl) ?_ _
  go_wp2
  go_ret
  exact ⟨by simp, rfl⟩
theorem swapN_any (g n c i j : Nat) (x y : Int) (w : World) (hx : w.cell? ⟨g, i, none⟩ = some (.int .i64 x)) (hy : w.cell? ⟨g, j, none⟩ = some (.int .i64 y)) (hi : i < n) (hj : j < n) (hn : n ≤ 1000000)
  (fx : w.frozen? ⟨g, i, none⟩ = false) (fy : w.frozen? ⟨g, j, none⟩ = false) :
  Calls Tryz.prog 248 #[.slice (some ⟨g, 0, none⟩) n c, .int .i64 i, .int .i64 j] w fun e w' => e = .returned (.tuple #[]) ∧ w' = ((w.setCell ⟨g, i, none⟩ (.int .i64 y)).setCell ⟨g, j, none⟩ (.int .i64 x)).drew := by
 have hi' : (i : Int) < (n : Int) := by omega
 have hj' : (j : Int) < (n : Int) := by omega
 obtain ⟨v', hy'⟩ := cell?_setCell_some (w := w) (p := ⟨g, i, none⟩) (x := Value.int .i64 y) (q := ⟨g, j, none⟩) (v := .int .i64 y) hy
 go_enter Tryz.func248, Tryz.ntmps248
 go_wp2
 refine wp_region_any (by kernel_rfl) ?_
 change wpAny _ _ _ _ _ _ _ (World.drew _)
 try simp only [Act.put, lT, l0, lS]
 refine tA 0 ?_; try simp only [Act.put, lT, l0, lS]
 refine tA 1 ?_; try simp only [Act.put, lT, l0, lS]
 refine tA 2 ?_; try simp only [Act.put, lT, l0, lS]
 refine tA 3 ?_; try simp only [Act.put, lT, l0, lS]
 refine tA 4 ?_; try simp only [Act.put, lT, l0, lS]
 refine tA 5 ?_; try simp only [Act.put, lT, l0, lS]
 refine tA 6 ?_; try simp only [Act.put, lT, l0, lS]
 refine tA 8 ?_; try simp only [Act.put, lT, l0, lS]
 refine tA 9 ?_; try simp only [Act.put, lT, l0, lS]
 refine tA 10 ?_; try simp only [Act.put, lT, l0, lS]
 refine wpAny_ready (rs := [7, 11]) (by kernel_rfl) (by simp) (AllReady.cons (o := { dst := _, op := _, type := _, pos := _, after := _, guard := _ }) rfl (fun K hK => ?_) (AllReady.cons (o := { dst := _, op := _, type := _, pos := _, after := _, guard := _ }) rfl (fun K hK => ?_) AllReady.nil))
 ·go_simp
  refine hK _ _ ?_
  clear hK K
  refine rd 11 (by kernel_rfl) rfl (fun K hK => ?_); go_simp; refine hK _ _ ?_; clear hK K
  refine rd 12 (by kernel_rfl) rfl (fun K hK => ?_); go_simp; refine hK _ _ ?_; clear hK K
  refine rd 13 (by kernel_rfl) rfl (fun K hK => ?_); go_simp; refine hK _ _ ?_; clear hK K
  refine rd 14 (by kernel_rfl) rfl (fun K hK => ?_); go_simp; refine hK _ _ ?_; clear hK K
  refine rd 15 (by kernel_rfl) rfl (fun K hK => ?_); go_simp; refine hK _ _ ?_; clear hK K
  refine wpAny_done (by kernel_rfl) ?_ _
  refine bodyPost_end (results_none rfl _ _ _) rfl ?_
  exact ⟨rfl, rfl⟩
 ·go_simp
  refine hK _ _ ?_
  clear hK K
  refine rd 7 (by kernel_rfl) rfl (fun K hK => ?_); go_simp; refine hK _ _ ?_; clear hK K
  refine rd 12 (by kernel_rfl) rfl (fun K hK => ?_); go_simp; refine hK _ _ ?_; clear hK K
  refine rd 13 (by kernel_rfl) rfl (fun K hK => ?_); go_simp; refine hK _ _ ?_; clear hK K
  refine rd 14 (by kernel_rfl) rfl (fun K hK => ?_); go_simp; refine hK _ _ ?_; clear hK K
  refine rd 15 (by kernel_rfl) rfl (fun K hK => ?_); go_simp; refine hK _ _ ?_; clear hK K
  refine wpAny_done (by kernel_rfl) ?_ _
  refine bodyPost_end (results_none rfl _ _ _) rfl ?_
  exact ⟨rfl, rfl⟩
end Go.Ev

set_option linter.unusedVariables false
set_option linter.unusedSimpArgs false
namespace Go.Ev
open Go.Proofs Go.RowKit
theorem load_nums (b : Nat) (v : Value) (w : World) (h : w.cell? ⟨b, 0, none⟩ = some v) : (loadVar 128 ⟨b, 0, none⟩).run Tryz.prog w = .ok v w := by
 simp [loadVar, Tryz.isAgg128, h, go_sem]
theorem run_wrap {P : Program} (ts : Array TypeId) (t : TypeId) (a : Addr) (x y : String) (w : World) : (Builtin.ssaWrapNilChk_ ts t #[.pointer (some a), strVal x, strVal y]).run P w = .ok (.pointer (some a)) w := rfl
theorem method_val {P : Program} {k : Nat} {t e : TypeId} {b : Nat} {name : String} {w : World} {i : TypeInfo} {m : Method} {f : FuncId} {v : Value} (hi : P.info? t = some i) (hm : i.methods.find? (·.name == name) = some m) (hp : m.path = #[]) (hf : m.func = some (f, false))
  (hu : P.underlying t = some (.pointer e)) (hl : (loadVar e ⟨b, 0, none⟩).run P w = .ok v w) : (method (k + 1) t (.pointer (some ⟨b, 0, none⟩)) name).run P w = .ok (f, v) w := by
 unfold method
 simp only [typeInfo, Sem.run_bind]
 simp [hi, hm, hp, hf, follow, receiverAt, run_underlying hu, Place.get, run_wrap, asAddr, go_sem]
 refine (congrArg (fun r => Result.andThen r (fun a w' => Result.ok (f, a) w')) (?_ : _ = Result.ok v w)).trans rfl
 simpa [loadVar, go_sem] using hl
theorem method_of {P : Program} {k : Nat} {t e : TypeId} {b : Nat} {name : String} {w : World} {f : FuncId} {v : Value} (h : (P.info? t).bind (fun i => (i.methods.find? (·.name == name)).map (fun m => (m.path, m.func))) = some (#[], some (f, false)))
  (hu : P.underlying t = some (.pointer e)) (hl : (loadVar e ⟨b, 0, none⟩).run P w = .ok v w) : (method (k + 1) t (.pointer (some ⟨b, 0, none⟩)) name).run P w = .ok (f, v) w := by
 cases hi : P.info? t with
 | none => simp [hi] at h
 | some i =>
  cases hm : i.methods.find? (·.name == name) with
  | none => simp [hi, hm] at h
  | some m =>
   simp only [hi, Option.bind_some, hm, Option.map_some, Option.some.injEq, Prod.mk.injEq] at h
   exact method_val hi hm h.1 h.2 hu hl
theorem m_less (b : Nat) (v : Value) (w : World) (h : w.cell? ⟨b, 0, none⟩ = some v) : (method 441 206 (.pointer (some ⟨b, 0, none⟩)) "Less").run Tryz.prog w = .ok (247, v) w :=
 method_of (by kernel_rfl) Tryz.underlying206 (load_nums b v w h)
theorem m_swap (b : Nat) (v : Value) (w : World) (h : w.cell? ⟨b, 0, none⟩ = some v) : (method 441 206 (.pointer (some ⟨b, 0, none⟩)) "Swap").run Tryz.prog w = .ok (248, v) w :=
 method_of (by kernel_rfl) Tryz.underlying206 (load_nums b v w h)
theorem m_len (b : Nat) (v : Value) (w : World) (h : w.cell? ⟨b, 0, none⟩ = some v) : (method 441 206 (.pointer (some ⟨b, 0, none⟩)) "Len").run Tryz.prog w = .ok (246, v) w :=
 method_of (by kernel_rfl) Tryz.underlying206 (load_nums b v w h)
theorem m_push (b : Nat) (w : World) : (method 441 206 (.pointer (some ⟨b, 0, none⟩)) "Push").run Tryz.prog w = .ok (251, .pointer (some ⟨b, 0, none⟩)) w := by kernel_rfl
theorem m_pop (b : Nat) (w : World) : (method 441 206 (.pointer (some ⟨b, 0, none⟩)) "Pop").run Tryz.prog w = .ok (250, .pointer (some ⟨b, 0, none⟩)) w := by kernel_rfl
end Go.Ev

set_option linter.unusedVariables false
set_option linter.unusedSimpArgs false
namespace Go.Ev
open Go.Proofs Go.RowKit
abbrev rowV (g n c : Nat) : Value := .slice (some ⟨g, 0, none⟩) n c
def Perms (g n c : Nat) (xs : List Int) (w : World) (keep : Nat) (wr : World) : Prop := ∃ ys : List Int, ys.Perm xs ∧ (∀ k, keep ≤ k → ys[k]? = xs[k]?) ∧ wr.ownsRow 0 3 1 (rowV g n c) n (intsV ys) ∧ Keeps (fun k => k = g) w wr
set_option maxHeartbeats 1000000 in
set_option maxRecDepth 100000 in
theorem up_any (b g n c j : Nat) (xs : List Int) (w : World) (hc : w.cell? ⟨b, 0, none⟩ = some (rowV g n c)) (hbg : b ≠ g) (hbl : b < w.heap.size) (hown : w.ownsRow 0 3 1 (rowV g n c) n (intsV xs)) (hj : j < n) (hn : n ≤ 1000000) :
  Calls Tryz.prog 184 #[.iface 206 (.pointer (some ⟨b, 0, none⟩)), .int .i64 j] w fun e w' => e = .returned (.tuple #[]) ∧ Perms g n c xs w n w' := by
 go_enter Tryz.func184, Tryz.ntmps184
 go_wp2
 go_loopg [1] j (fun gk s1 wr => ∃ j' : Nat, s1 = .int .i64 j' ∧ j' ≤ gk ∧ j' < n ∧ Perms g n c xs w n wr)
 case atStart => exact ⟨j, rfl, Nat.le_refl _, hj, xs, List.Perm.refl _, fun _ _ => rfl, hown, Keeps.refl _ _⟩
 case round =>
  obtain ⟨j', rfl, hg, hjn, ys, hp, hke, ho, hk⟩ := hrel
  have hz := hk.size
  have hc2 : wr.cell? ⟨b, 0, none⟩ = some (rowV g n c) := (hk.cell (p := ⟨b, 0, none⟩) hbl hbg).trans hc
  by_cases h0 : j' = 0
  ·subst h0
   go_wp2
   refine bodyPost_end (results_none rfl _ _ _) rfl ?_
   exact ⟨rfl, ys, hp, hke, ho, hk⟩
  ·obtain ⟨i, hi⟩ : ∃ i, i = (j' - 1) / 2 := ⟨_, rfl⟩
   have hi2 : ((j' : Int) - 1) / 2 = (i : Int) := by omega
   have hlt : i < j' := by omega
   have hj1 : (1 : Int) ≤ (j' : Int) := by omega
   have hne : ((i : Int) == (j' : Int)) = false := by simp; omega
   clear hi
   have hyl : ys.length = n := by have := ho.1; rw [intsV_len] at this; omega
   have hil : i < ys.length := by omega
   have hjl : j' < ys.length := by omega
   have hcx : wr.cell? ⟨g, j', none⟩ = some (.int .i64 ys[j']) := by rw [ho.cellAt j' (by omega), intsV_at, List.getElem?_eq_getElem hjl]; rfl
   have hcy : wr.cell? ⟨g, i, none⟩ = some (.int .i64 ys[i]) := by rw [ho.cellAt i (by omega), intsV_at, List.getElem?_eq_getElem hil]; rfl
   have fx := ho.frozenAt j'
   have fy := ho.frozenAt i
   have hml := m_less b _ wr hc2
   have hms := m_swap b _ wr.drew hc2
   have hL := Lib.hid (lessN_any g n c j' i ys[j'] ys[i] wr hcx hcy hjn (by omega) hn)
   have hS := Lib.hid (swapN_any g n c i j' ys[i] ys[j'] wr.drew hcy hcx (by omega) hjn hn fy fx)
   have hyp := Lib.hid (swapL_perm hil hjl)
   have ho1 := (ho.drew.stored i (.int .i64 ys[j'])).1
   have ho2 := (ho1.stored j' (.int .i64 ys[i])).1
   rw [intsV_set, intsV_set] at ho2
   have he : (ys.set i ys[j']).set j' ys[i] = swapL ys i j' := by simp [swapL, List.getD_eq_getElem?_getD, hil, hjl]
   rw [he] at ho2
   have HO := Lib.hid ho2
   have hkk : Hid (∀ k, n ≤ k → (swapL ys i j')[k]? = xs[k]?) := fun k hkn => by
    rw [swapL_at hil hjl, if_neg (by omega), if_neg (by omega)]
    exact hke k hkn
   have hK2 : Keeps (fun k => k = g) w (((wr.drew.setCell ⟨g, i, none⟩ (.int .i64 ys[j'])).setCell ⟨g, j', none⟩ (.int .i64 ys[i])).drew) := ((hk.drew.setCell (p := ⟨g, i, none⟩) (fun _ => rfl) _).setCell (p := ⟨g, j', none⟩) (fun _ => rfl) _).drew
   have HP := Lib.hid hp
   have HKE := Lib.hid hke
   clear ho1 ho2 he hyl hcx hcy fx fy hp hke
   generalize ys[j'] = x at *
   generalize ys[i] = y at *
   clear hjl hil
   generalize hq : decide (x < y) = q at hL
   clear hq
   cases q with
   | true =>
    go_wp2_with (first
     | (go_at_call 247; go_must (refine hL.out.mono ?_); rintro e w1 ⟨rfl, rfl⟩)
     | (go_at_call 248; go_must (refine hS.out.mono ?_); rintro e w2 ⟨rfl, rfl⟩))
    go_roundg i
    case measure => omega
    case rel => exact ⟨i, rfl, Nat.le_refl _, by omega, swapL ys i j', hyp.out.trans HP.out, hkk.out, HO.out.drew, hK2⟩
   | false =>
    go_wp2_with (first
     | (go_at_call 247; go_must (refine hL.out.mono ?_); rintro e w1 ⟨rfl, rfl⟩))
    refine bodyPost_end (results_none rfl _ _ _) rfl ?_
    exact ⟨rfl, ys, HP.out, HKE.out, ho.drew, hk.drew⟩
end Go.Ev

set_option linter.unusedVariables false
set_option linter.unusedSimpArgs false
namespace Go.Ev
open Go.Proofs Go.RowKit
theorem row_at {W : World} {g n c : Nat} {ys : List Int} (ho : W.ownsRow 0 3 1 (rowV g n c) n (intsV ys)) {k : Nat} (hk : k < n) : ∃ x, ys[k]? = some x ∧ W.cell? ⟨g, k, none⟩ = some (.int .i64 x) ∧ W.frozen? ⟨g, k, none⟩ = false := by
 have hyl : ys.length = n := by have := ho.1; rw [intsV_len] at this; omega
 have hkl : k < ys.length := by omega
 exact ⟨ys[k], List.getElem?_eq_getElem hkl, by rw [ho.cellAt k (by omega), intsV_at, List.getElem?_eq_getElem hkl]; rfl, ho.frozenAt k⟩
theorem swapped {w wr : World} {g n c i j keep : Nat} {xs ys : List Int} {x y : Int} (hp : ys.Perm xs) (hke : ∀ k, keep ≤ k → ys[k]? = xs[k]?) (ho : wr.ownsRow 0 3 1 (rowV g n c) n (intsV ys)) (hk : Keeps (fun k => k = g) w wr)
  (hx : ys[i]? = some x) (hy : ys[j]? = some y) (hi : i < keep) (hj : j < keep) : Perms g n c xs w keep (((wr.setCell ⟨g, i, none⟩ (.int .i64 y)).setCell ⟨g, j, none⟩ (.int .i64 x)).drew) := by
 have hil := (List.getElem?_eq_some_iff.1 hx).1
 have hjl := (List.getElem?_eq_some_iff.1 hy).1
 refine ⟨swapL ys i j, (swapL_perm hil hjl).trans hp, fun k hkn => ?_, ?_, ((hk.setCell (p := ⟨g, i, none⟩) (fun _ => rfl) _).setCell (p := ⟨g, j, none⟩) (fun _ => rfl) _).drew⟩
 ·rw [swapL_at hil hjl, if_neg (by omega), if_neg (by omega)]
  exact hke k hkn
 ·have ho1 := (ho.stored i (.int .i64 y)).1
  have ho2 := (ho1.stored j (.int .i64 x)).1
  rw [intsV_set, intsV_set] at ho2
  have he : (ys.set i y).set j x = swapL ys i j := by simp [swapL, List.getD_eq_getElem?_getD, hx, hy]
  rw [he] at ho2
  exact ho2.drew
set_option maxHeartbeats 1000000 in
set_option maxRecDepth 100000 in
theorem down_any (b g n c i0 m : Nat) (xs : List Int) (w : World) (hc : w.cell? ⟨b, 0, none⟩ = some (rowV g n c)) (hbg : b ≠ g) (hbl : b < w.heap.size) (hown : w.ownsRow 0 3 1 (rowV g n c) n (intsV xs)) (hm : m ≤ n) (hn : n ≤ 1000000) (hi0 : i0 ≤ n) :
  Calls Tryz.prog 162 #[.iface 206 (.pointer (some ⟨b, 0, none⟩)), .int .i64 i0, .int .i64 m] w fun e w' => (∃ q : Bool, e = .returned (.bool q)) ∧ Perms g n c xs w m w' := by
 go_enter Tryz.func162, Tryz.ntmps162
 go_wp2
 go_loopg [7, 8, 9, 10] (n - i0) (fun gk s7 s8 s9 s10 wr => ∃ i : Nat, s7 = .int .i64 i ∧ n - i ≤ gk ∧ i ≤ n ∧ Perms g n c xs w m wr)
 case atStart => exact ⟨i0, rfl, Nat.le_refl _, hi0, xs, List.Perm.refl _, fun _ _ => rfl, hown, Keeps.refl _ _⟩
 case round =>
  obtain ⟨i, rfl, hg, hin, ys, hp, hke, ho, hk⟩ := hrel
  have hz := hk.size
  have hc2 : wr.cell? ⟨b, 0, none⟩ = some (rowV g n c) := (hk.cell (p := ⟨b, 0, none⟩) hbl hbg).trans hc
  by_cases h1 : m ≤ 2 * i + 1
  ·have h1' : (m : Int) ≤ 2 * (i : Int) + 1 := by omega
   have HP := Lib.hid hp
   have HKE := Lib.hid hke
   clear hp hke
   go_wp2
   go_ret
   exact ⟨⟨_, rfl⟩, ys, HP.out, HKE.out, ho, hk⟩
  ·obtain ⟨j1, hj1a, hj1b⟩ : ∃ j1, j1 ≤ 2 * i + 1 ∧ 2 * i + 1 ≤ j1 := ⟨_, Nat.le_refl _, Nat.le_refl _⟩
   obtain ⟨j2, hj2a, hj2b⟩ : ∃ j2, j2 ≤ 2 * i + 2 ∧ 2 * i + 2 ≤ j2 := ⟨_, Nat.le_refl _, Nat.le_refl _⟩
   have h1' : ¬ (m : Int) ≤ (j1 : Int) := by omega
   obtain ⟨x, hx, cx, fx⟩ := row_at ho (show i < n by omega)
   obtain ⟨y1, hy1, cy1, fy1⟩ := row_at ho (show j1 < n by omega)
   have hml0 := m_less b _ wr hc2
   have hml1 := m_less b _ wr.drew hc2
   have hms1 := m_swap b _ wr.drew hc2
   have hms2 := m_swap b _ wr.drew.drew hc2
   have HP := Lib.hid hp
   have HKE := Lib.hid hke
   have HX := Lib.hid hx
   have HY1 := Lib.hid hy1
   clear hp hke hx hy1
   have e1 : 2 * (i : Int) + 1 = (j1 : Int) := by omega
   have e2 : (j1 : Int) + 1 = (j2 : Int) := by omega
   by_cases h2 : j2 < m
   ·have h2' : (j2 : Int) < (m : Int) := by omega
    obtain ⟨y2, hy2, cy2, fy2⟩ := row_at ho (show j2 < n by omega)
    have HY2 := Lib.hid hy2
    clear hy2
    have hL := lessN_any g n c j2 j1 y2 y1 wr cy2 cy1 (by omega) (by omega) hn
    generalize hq : decide (y2 < y1) = q at hL
    have HL := Lib.hid hL
    clear hq hL
    cases q with
    | true =>
     have hL2 := lessN_any g n c j2 i y2 x wr.drew cy2 cx (by omega) (by omega) hn
     generalize hq2 : decide (y2 < x) = q2 at hL2
     have HL2 := Lib.hid hL2
     have HS := Lib.hid (swapN_any g n c i j2 x y2 wr.drew.drew cx cy2 (by omega) (by omega) hn fx fy2)
     have HR := Lib.hid (swapped (c := c) HP.out HKE.out (wr := wr.drew.drew) ho (hk.drew.drew) HX.out HY2.out (show i < m by omega) (show j2 < m by omega))
     clear hq2 hL2
     cases q2 with
     | true =>
      go_wp2_with (fail)
      go_must (refine HL.out.mono ?_)
      rintro e w1 ⟨rfl, rfl⟩
      go_wp2_with (fail)
      go_must (refine HL2.out.mono ?_)
      rintro e w1 ⟨rfl, rfl⟩
      go_wp2_with (fail)
      go_must (refine HS.out.mono ?_)
      rintro e w2 ⟨rfl, rfl⟩
      go_wp2_with (fail)
      go_roundg (n - j2)
      case measure => omega
      case rel => exact ⟨j2, rfl, Nat.le_refl _, by omega, HR.out⟩
     | false =>
      go_wp2_with (fail)
      go_must (refine HL.out.mono ?_)
      rintro e w1 ⟨rfl, rfl⟩
      go_wp2_with (fail)
      go_must (refine HL2.out.mono ?_)
      rintro e w1 ⟨rfl, rfl⟩
      go_wp2_with (fail)
      go_ret
      exact ⟨⟨_, rfl⟩, ys, HP.out, HKE.out, ho, hk.drew.drew⟩
    | false =>
     have hL2 := lessN_any g n c j1 i y1 x wr.drew cy1 cx (by omega) (by omega) hn
     generalize hq2 : decide (y1 < x) = q2 at hL2
     have HL2 := Lib.hid hL2
     have HS := Lib.hid (swapN_any g n c i j1 x y1 wr.drew.drew cx cy1 (by omega) (by omega) hn fx fy1)
     have HR := Lib.hid (swapped (c := c) HP.out HKE.out (wr := wr.drew.drew) ho (hk.drew.drew) HX.out HY1.out (show i < m by omega) (show j1 < m by omega))
     clear hq2 hL2
     cases q2 with
     | true =>
      go_wp2_with (fail)
      go_must (refine HL.out.mono ?_)
      rintro e w1 ⟨rfl, rfl⟩
      go_wp2_with (fail)
      go_must (refine HL2.out.mono ?_)
      rintro e w1 ⟨rfl, rfl⟩
      go_wp2_with (fail)
      go_must (refine HS.out.mono ?_)
      rintro e w2 ⟨rfl, rfl⟩
      go_wp2_with (fail)
      go_roundg (n - j1)
      case measure => omega
      case rel => exact ⟨j1, rfl, Nat.le_refl _, by omega, HR.out⟩
     | false =>
      go_wp2_with (fail)
      go_must (refine HL.out.mono ?_)
      rintro e w1 ⟨rfl, rfl⟩
      go_wp2_with (fail)
      go_must (refine HL2.out.mono ?_)
      rintro e w1 ⟨rfl, rfl⟩
      go_wp2_with (fail)
      go_ret
      exact ⟨⟨_, rfl⟩, ys, HP.out, HKE.out, ho, hk.drew.drew⟩
   ·have h2' : ¬ (j2 : Int) < (m : Int) := by omega
    have hL2 := lessN_any g n c j1 i y1 x wr cy1 cx (by omega) (by omega) hn
    generalize hq2 : decide (y1 < x) = q2 at hL2
    have HL2 := Lib.hid hL2
    have HS := Lib.hid (swapN_any g n c i j1 x y1 wr.drew cx cy1 (by omega) (by omega) hn fx fy1)
    have HR := Lib.hid (swapped (c := c) HP.out HKE.out (wr := wr.drew) ho (hk.drew) HX.out HY1.out (show i < m by omega) (show j1 < m by omega))
    clear hq2 hL2
    cases q2 with
    | true =>
     go_wp2_with (fail)
     go_must (refine HL2.out.mono ?_)
     rintro e w1 ⟨rfl, rfl⟩
     go_wp2_with (fail)
     go_must (refine HS.out.mono ?_)
     rintro e w2 ⟨rfl, rfl⟩
     go_wp2_with (fail)
     go_roundg (n - j1)
     case measure => omega
     case rel => exact ⟨j1, rfl, Nat.le_refl _, by omega, HR.out⟩
    | false =>
     go_wp2_with (fail)
     go_must (refine HL2.out.mono ?_)
     rintro e w1 ⟨rfl, rfl⟩
     go_wp2_with (fail)
     go_ret
     exact ⟨⟨_, rfl⟩, ys, HP.out, HKE.out, ho, hk.drew⟩
end Go.Ev

set_option linter.unusedVariables false
set_option linter.unusedSimpArgs false
namespace Go.Ev
open Go.Proofs Go.RowKit
theorem infoInt : (Tryz.prog.info? 3).map (fun i => (i.zero, i.size, i.bytes)) = some (some (.int .i64 0), 1, 8) := by kernel_rfl
def Pl (w : World) (b : Nat) (v : Value) (xs : List Int) : Prop := w.cell? ⟨b, 0, none⟩ = some v ∧ w.frozen? ⟨b, 0, none⟩ = false ∧ b < w.heap.size ∧ w.ownsRow 0 3 1 v xs.length (intsV xs) ∧ v.ownBlock ≠ some b
def PlS (b : Nat) (v : Value) (k : Nat) : Prop := k = b ∨ v.ownBlock = some k
theorem row_new1 (w : World) (u : Value) (T : TypeId) (B : Nat) (hB : B = w.heap.size) : ∀ j v, [u][j]? = some v → ((w.alloc (.cells #[u] T)).drew).cell? ((⟨B, 0, none⟩ : Addr).add j) = some v := by
 intro j v h
 subst hB
 rw [addr_add]
 cases j with
 | zero => cases h; exact (Blk.new w T #[u]).cell 0
 | succ j => simp at h
theorem push_end {w w1 : World} {b : Nat} {v v' : Value} {xs : List Int} {x : Int} {o : Obj} (hbl : b < w.heap.size) (hne : v.ownBlock ≠ some b) (hown : w.ownsRow 0 3 1 v xs.length (intsV xs)) (hown1 : w1.ownsRow 0 3 1 v' (xs.length + 1) (intsV xs ++ [.int .i64 x]))
  (hgrow : (w.alloc o).drew.grownBy w1 v.ownBlock) (hc : w1.cell? ⟨b, 0, none⟩ = some v) (hf : w1.frozen? ⟨b, 0, none⟩ = false) (hat : ∀ k, v'.ownBlock = some k → v.ownBlock = some k ∨ (w.alloc o).drew.heap.size ≤ k) :
  Pl (w1.setCell ⟨b, 0, none⟩ v') b v' (xs ++ [x]) ∧ Keeps (PlS b v) w (w1.setCell ⟨b, 0, none⟩ v') ∧ (∀ k, v'.ownBlock = some k → v.ownBlock = some k ∨ w.heap.size ≤ k) := by
 have hK1 : Keeps (PlS b v) w w1 := (((Keeps.refl _ w).alloc o).drew).grown hgrow (fun k hk _ => .inr hk)
 have hv' : ∀ k, v'.ownBlock = some k → v.ownBlock = some k ∨ w.heap.size ≤ k := fun k hk => (hat k hk).imp id fun h => by
  have : (w.alloc o).drew.heap.size = w.heap.size + 1 := by show (w.alloc o).heap.size = _; simp
  omega
 have hne' : v'.ownBlock ≠ some b := fun hk => by
  rcases hv' b hk with h | h
  ·exact hne h
  ·omega
 refine ⟨⟨?_, ?_, ?_, ?_, hne'⟩, hK1.setCell (p := ⟨b, 0, none⟩) (fun _ => .inl rfl) _, hv'⟩
 ·exact World.cell?_setCell_same _ _ _ hc
 ·rw [World.frozen?_setCell]; exact hf
 ·have := hK1.size; simp [World.setCell]; omega
 ·rw [List.length_append, intsV_snoc]
  exact own_keeps hown1 ((Keeps.refl (fun k => k = b) w1).setCell (p := ⟨b, 0, none⟩) (fun _ => rfl) _) (fun k hk e => hne' (e ▸ hk))
set_option maxHeartbeats 1000000 in
set_option maxRecDepth 100000 in
theorem pushN_any (b : Nat) (v : Value) (xs : List Int) (x : Int) (w : World) (h : Pl w b v xs) (hn : xs.length ≤ 900000) :
  Calls Tryz.prog 251 #[.pointer (some ⟨b, 0, none⟩), .iface 3 (.int .i64 x)] w fun e w' => e = .returned (.tuple #[]) ∧ ∃ v', Pl w' b v' (xs ++ [x]) ∧ Keeps (PlS b v) w w' ∧ (∀ k, v'.ownBlock = some k → v.ownBlock = some k ∨ w.heap.size ≤ k) := by
 obtain ⟨i0, hi, hz0, hz1, hz2⟩ := info_parts infoInt
 obtain ⟨hc, hf, hbl, hown, hne⟩ := h
 obtain ⟨A, c, rfl, _⟩ := Sl.of_own hown
 have hta : ∀ w, (Instr.typeAssert (.iface 3 (.int .i64 x)) 20 3 false).run Tryz.prog w = .ok (.int .i64 x) w := fun _ => by kernel_rfl
 have HC : Hid (∀ {o : Obj} (w1 : World), (w.alloc o).drew.grownBy w1 (Value.ownBlock (.slice A xs.length c)) → w1.cell? ⟨b, 0, none⟩ = some (.slice A xs.length c)) := fun {o} w1 hg =>
  (World.cell?_of_block (a := ⟨b, 0, none⟩) (hg.block b (by show b < (w.alloc o).heap.size; simp; omega) (fun e => hne e.symm))).trans ((World.cell?_alloc_past _ _ _ hbl).trans hc)
 have HF : Hid (∀ {o : Obj} (w1 : World), (w.alloc o).drew.grownBy w1 (Value.ownBlock (.slice A xs.length c)) → w1.frozen? ⟨b, 0, none⟩ = false) := fun {o} w1 hg =>
  (World.frozen?_of_block (a := ⟨b, 0, none⟩) (hg.block b (by show b < (w.alloc o).heap.size; simp; omega) (fun e => hne e.symm))).trans ((Below.frozen ((Below.refl w.heap.size w).alloc (Nat.le_refl _) o) (p := ⟨b, 0, none⟩) hbl).trans hf)
 go_enter Tryz.func251, Tryz.ntmps251
 go_wp2
 refine wp_region_any (by kernel_rfl) ?_
 change wpAny _ _ _ _ _ _ _ (World.drew _)
 try simp only [Act.put, lT, l0, lS]
 refine tA 0 ?_; try simp only [Act.put, lT, l0, lS]
 refine tA 1 ?_; try simp only [Act.put, lT, l0, lS]
 refine tA 2 ?_; try simp only [Act.put, lT, l0, lS]
 refine tA 4 ?_; try simp only [Act.put, lT, l0, lS]
 refine tA 5 ?_; try simp only [Act.put, lT, l0, lS]
 refine wpAny_ready (rs := [3, 6]) (by kernel_rfl) (by simp) (AllReady.cons (o := { dst := _, op := _, type := _, pos := _, after := _, guard := _ }) rfl (fun K hK => ?_) (AllReady.cons (o := { dst := _, op := _, type := _, pos := _, after := _, guard := _ }) rfl (fun K hK => ?_) AllReady.nil))
 ·go_simp
  refine hK _ _ ?_
  clear hK K
  refine rd 6 (by kernel_rfl) rfl (fun K hK => ?_); go_simp; refine hK _ _ ?_; clear hK K
  refine rd 7 (by kernel_rfl) rfl (fun K hK => ?_); refine if_on rfl ?_
  go_must (refine wp_append_at _ _ 128 rfl 0 3 i0 _ 1 8 Tryz.underlying128 hi hz0 hz1 hz2 rfl (by decide) _ xs.length (intsV xs) rfl (World.ownsRow.alloc hown _) ⟨w.heap.size, 0, none⟩ 1 1 [.int .i64 x] rfl rfl ?_ (by simp [Value.oneCell']) (by unfold maxLen; omega) (by omega) (Nat.zero_le _) ?_)
  ·exact row_new1 _ _ _ _ rfl
  intro v' w1 hown1 hgrow hat
  obtain ⟨A', c', rfl, _⟩ := Sl.of_own hown1
  have hw1 : w1.cell? ⟨b, 0, none⟩ = some (.slice A xs.length c) := HC.out w1 hgrow
  have hf1 : w1.frozen? ⟨b, 0, none⟩ = false := HF.out w1 hgrow
  have HE := Lib.hid (push_end (x := x) hbl hne hown hown1 hgrow hw1 hf1 hat)
  go_simp
  refine hK _ _ ?_
  clear hK K
  refine rd 8 (by kernel_rfl) rfl (fun K hK => ?_); go_simp; refine hK _ _ ?_; clear hK K
  refine rd 9 (by kernel_rfl) rfl (fun K hK => ?_); go_simp; refine hK _ _ ?_; clear hK K
  refine wpAny_done (by kernel_rfl) ?_ _
  refine bodyPost_end (results_none rfl _ _ _) rfl ?_
  exact ⟨rfl, _, HE.out⟩
 ·go_simp
  refine hK _ _ ?_
  clear hK K
  refine rd 3 (by kernel_rfl) rfl (fun K hK => ?_); go_simp; refine hK _ _ ?_; clear hK K
  refine rd 7 (by kernel_rfl) rfl (fun K hK => ?_); refine if_on rfl ?_
  go_must (refine wp_append_at _ _ 128 rfl 0 3 i0 _ 1 8 Tryz.underlying128 hi hz0 hz1 hz2 rfl (by decide) _ xs.length (intsV xs) rfl (World.ownsRow.alloc hown _) ⟨w.heap.size, 0, none⟩ 1 1 [.int .i64 x] rfl rfl ?_ (by simp [Value.oneCell']) (by unfold maxLen; omega) (by omega) (Nat.zero_le _) ?_)
  ·exact row_new1 _ _ _ _ rfl
  intro v' w1 hown1 hgrow hat
  obtain ⟨A', c', rfl, _⟩ := Sl.of_own hown1
  have hw1 : w1.cell? ⟨b, 0, none⟩ = some (.slice A xs.length c) := HC.out w1 hgrow
  have hf1 : w1.frozen? ⟨b, 0, none⟩ = false := HF.out w1 hgrow
  have HE := Lib.hid (push_end (x := x) hbl hne hown hown1 hgrow hw1 hf1 hat)
  go_simp
  refine hK _ _ ?_
  clear hK K
  refine rd 8 (by kernel_rfl) rfl (fun K hK => ?_); go_simp; refine hK _ _ ?_; clear hK K
  refine rd 9 (by kernel_rfl) rfl (fun K hK => ?_); go_simp; refine hK _ _ ?_; clear hK K
  refine wpAny_done (by kernel_rfl) ?_ _
  refine bodyPost_end (results_none rfl _ _ _) rfl ?_
  exact ⟨rfl, _, HE.out⟩
end Go.Ev

set_option linter.unusedVariables false
set_option linter.unusedSimpArgs false
namespace Go.Ev
open Go.Proofs Go.RowKit
theorem Pl.row {w : World} {b : Nat} {v : Value} {xs : List Int} (h : Pl w b v xs) (hp : 0 < xs.length) : ∃ g c, v = rowV g xs.length c ∧ b ≠ g ∧ g < w.heap.size := by
 obtain ⟨hc, hf, hbl, hown, hne⟩ := h
 rcases hown.2 with ⟨_, h0⟩ | ⟨g, cap, cur, hv, hbb, hheap, _⟩
 ·omega
 ·exact ⟨g, cap, hv, fun e => hne (by rw [hv, e]; rfl), (Array.getElem?_eq_some_iff.1 hheap).1⟩
set_option maxHeartbeats 1000000 in
set_option maxRecDepth 100000 in
theorem popN_any (b g c : Nat) (xs : List Int) (x : Int) (w : World) (h : Pl w b (rowV g (xs.length + 1) c) (xs ++ [x])) (hn : xs.length ≤ 900000) :
  Calls Tryz.prog 250 #[.pointer (some ⟨b, 0, none⟩)] w fun e w' => e = .returned (.iface 3 (.int .i64 x)) ∧ Pl w' b (rowV g xs.length c) xs ∧ Keeps (fun k => k = b) w w' := by
 obtain ⟨hc, hf, hbl, hown, hne⟩ := h
 have hl : (xs ++ [x]).length = xs.length + 1 := by simp
 rw [hl] at hown
 have hcx : w.cell? ⟨g, xs.length, none⟩ = some (.int .i64 x) := by
  rw [hown.cellAt xs.length (by omega), intsV_at]; simp
 have hnc : xs.length + 1 ≤ c := by
  obtain ⟨_, _, e, h1, _⟩ := Sl.of_own hown
  cases e; exact h1
 have hle : xs.length ≤ c := by omega
 have hend : Pl (w.setCell ⟨b, 0, none⟩ (rowV g xs.length c)) b (rowV g xs.length c) xs ∧ Keeps (fun k => k = b) w (w.setCell ⟨b, 0, none⟩ (rowV g xs.length c)) := by
  have hK := (Keeps.refl (fun k => k = b) w).setCell (p := ⟨b, 0, none⟩) (fun _ => rfl) (rowV g xs.length c)
  refine ⟨⟨World.cell?_setCell_same _ _ _ hc, by rw [World.frozen?_setCell]; exact hf, by simpa [World.setCell] using hbl, ?_, hne⟩, hK⟩
  rcases hown.2 with ⟨_, h0⟩ | ⟨g', cap, cur, hv, hbb, hheap, hnc', hcm, hcs, hcx'⟩
  ·omega
  ·simp only [rowV, Value.slice.injEq, Option.some.injEq, Addr.mk.injEq, and_true, true_and] at hv
   obtain ⟨rfl, rfl⟩ := hv
   have hgb : g ≠ b := fun e => hne (by rw [e]; rfl)
   refine own_of ((hK.block g (Array.getElem?_eq_some_iff.1 hheap).1 hgb).trans hheap) hbb (by omega) hcm hcs (by simp [intsV]) fun j hj => ?_
   have := congrArg (fun l => l[j]?) hcx'
   simp only [List.getElem?_take, intsV_snoc] at this
   rw [if_pos (by omega), List.getElem?_append_left (by rw [intsV_len]; omega)] at this
   simpa using this
 have HE := Lib.hid hend
 clear hend hown hne hl
 generalize xs.length = n at *
 go_enter Tryz.func250, Tryz.ntmps250
 go_wp2
 go_ret
 exact ⟨rfl, HE.out⟩
end Go.Ev

set_option linter.unusedVariables false
set_option linter.unusedSimpArgs false
namespace Go.Ev
open Go.Proofs Go.RowKit
def PlK (b : Nat) (v v' : Value) (w w' : World) : Prop := Keeps (PlS b v) w w' ∧ ∀ k, v'.ownBlock = some k → v.ownBlock = some k ∨ w.heap.size ≤ k
theorem PlK.refl (b : Nat) (v : Value) (w : World) : PlK b v v w w := ⟨Keeps.refl _ _, fun _ h => .inl h⟩
theorem PlK.trans {b : Nat} {v v1 v2 : Value} {w w1 w2 : World} (h : PlK b v v1 w w1) (h2 : PlK b v1 v2 w1 w2) : PlK b v v2 w w2 := by
 refine ⟨h.1.trans h2.1 fun i hi hs => ?_, fun k hk => ?_⟩
 ·rcases hs with hs | hs
  ·exact .inl hs
  ·rcases h.2 i hs with h | h
   ·exact .inr h
   ·omega
 ·rcases h2.2 k hk with h' | h'
  ·exact h.2 k h'
  ·have := h.1.size; exact .inr (by omega)
theorem Pl.perms {w w' : World} {b g n c keep : Nat} {xs : List Int} (hl : xs.length = n) (h : Pl w b (rowV g n c) xs) (hp : Perms g n c xs w keep w') : ∃ ys, Pl w' b (rowV g n c) ys ∧ ys.Perm xs ∧ (∀ k, keep ≤ k → ys[k]? = xs[k]?) ∧ PlK b (rowV g n c) (rowV g n c) w w' := by
 obtain ⟨hc, hf, hbl, hown, hne⟩ := h
 obtain ⟨ys, h1, h2, h3, h4⟩ := hp
 have hbg : b ≠ g := fun e => hne (by rw [e]; rfl)
 have hyl : ys.length = n := h1.length_eq.trans hl
 refine ⟨ys, ⟨(h4.cell (p := ⟨b, 0, none⟩) hbl hbg).trans hc, (h4.frozen (p := ⟨b, 0, none⟩) hbl hbg).trans hf, Nat.lt_of_lt_of_le hbl h4.size, by rw [hyl]; exact h3, hne⟩, h1, h2, h4.mono fun i _ hi => .inr (by rw [hi]; rfl), fun k hk => .inl hk⟩
def PushPost (b : Nat) (v : Value) (xs : List Int) (x : Int) (w : World) (e : Ending) (w' : World) : Prop := e = .returned (.tuple #[]) ∧ ∃ v' ys, Pl w' b v' ys ∧ ys.Perm (x :: xs) ∧ PlK b v v' w w'
set_option maxHeartbeats 1000000 in
set_option maxRecDepth 100000 in
theorem hpush_any (b : Nat) (v : Value) (xs : List Int) (x : Int) (w : World) (h : Pl w b v xs) (hn : xs.length ≤ 800000) :
  Calls Tryz.prog 148 #[.iface 206 (.pointer (some ⟨b, 0, none⟩)), .iface 3 (.int .i64 x)] w (PushPost b v xs x w) := by
 have hP := Lib.hid (pushN_any b v xs x w h (by omega))
 have hm1 := m_push b
 have HH := Lib.hid h
 clear h
 go_enter Tryz.func148, Tryz.ntmps148
 go_wp2_with (fail)
 go_must (refine hP.out.mono ?_)
 rintro e w1 ⟨rfl, v1, hp1, hk1, hv1⟩
 obtain ⟨g, c, rfl, hbg, hgl⟩ := hp1.row (by simp)
 have hl : (xs ++ [x]).length = xs.length + 1 := by simp
 rw [hl] at hp1 hv1
 have hml := m_len b _ w1 hp1.1
 have hU := Lib.hid (up_any b g (xs.length + 1) c xs.length (xs ++ [x]) w1 hp1.1 hbg hp1.2.2.1 (by have := hp1.2.2.2.1; rw [hl] at this; exact this) (by omega) (by omega))
 have HP1 := Lib.hid hp1
 clear hp1 hm1 hl
 have hlx := Lib.hid (show (xs ++ [x]).length = xs.length + 1 by simp)
 generalize xs.length = n at *
 go_wp2_with (first
  | (go_at_call 246; go_must (refine (lenN_any _ _ _ _).mono ?_); rintro e w2 ⟨rfl, rfl⟩)
  | (go_at_call 184; go_must (refine hU.out.mono ?_); rintro e w2 ⟨rfl, hperm⟩))
 refine bodyPost_end (results_none rfl _ _ _) rfl ?_
 obtain ⟨ys, q1, q2, q3, q4⟩ := HP1.out.perms hlx.out hperm
 exact ⟨rfl, _, ys, q1, q2.trans (List.perm_append_singleton x xs), PlK.trans ⟨hk1, hv1⟩ q4⟩
def PopPost (b : Nat) (v : Value) (x : Int) (xs : List Int) (r : Value) (w : World) (e : Ending) (w' : World) : Prop := e = .returned r ∧ ∃ v' ys, Pl w' b v' ys ∧ ys.Perm xs ∧ PlK b v v' w w'
theorem last_of {ys xs : List Int} {x : Int} {n : Nat} (h : ys.Perm xs) (hl : xs.length = n + 1) (hk : ys[n]? = some x) : ∃ zs, ys = zs ++ [x] ∧ zs.length = n := by
 have hyl : ys.length = n + 1 := h.length_eq.trans hl
 refine ⟨ys.take n, ?_, by rw [List.length_take]; omega⟩
 have := List.take_append_drop n ys
 rw [← this]
 congr 1
 ·rw [this]
 ·apply List.ext_getElem?
  intro i
  rw [List.getElem?_drop]
  cases i with
  | zero => rw [Nat.add_zero, hk]; rfl
  | succ i => rw [List.getElem?_eq_none (by omega)]; rfl
set_option maxHeartbeats 1000000 in
set_option maxRecDepth 100000 in
theorem hpop_any (b : Nat) (v : Value) (x : Int) (xs : List Int) (w : World) (h : Pl w b v (x :: xs)) (hn : xs.length ≤ 800000) :
  Calls Tryz.prog 164 #[.iface 206 (.pointer (some ⟨b, 0, none⟩))] w (PopPost b v x xs (.iface 3 (.int .i64 x)) w) := by
 obtain ⟨g, c, rfl, hbg, hgl⟩ := h.row (by simp)
 have hl : (x :: xs).length = xs.length + 1 := rfl
 rw [hl] at h
 obtain ⟨hc, hf, hbl, hown, hne⟩ := id h
 rw [hl] at hown
 have hml := m_len b _ w hc
 have hms := m_swap b _ w hc
 have hmp := m_pop b
 obtain ⟨x0, hx0, cx, fx⟩ := row_at hown (show 0 < xs.length + 1 by omega)
 cases hx0
 obtain ⟨y, hy, cy, fy⟩ := row_at hown (show xs.length < xs.length + 1 by omega)
 have hS := Lib.hid (swapN_any g (xs.length + 1) c 0 xs.length x y w cx cy (by omega) (by omega) (by omega) fx fy)
 obtain ⟨ys, q1, q2, q3, q4⟩ := h.perms rfl (swapped (c := c) (keep := xs.length + 1) (List.Perm.refl _) (fun _ _ => rfl) hown (Keeps.refl _ w) (show (x :: xs)[0]? = some x from rfl) hy (by omega) (by omega))
 have hyn : ys[xs.length]? = some x := by
  have h1 := q1.2.2.2.1
  have h2 : (((w.setCell ⟨g, 0, none⟩ (.int .i64 y)).setCell ⟨g, xs.length, none⟩ (.int .i64 x)).drew).cell? ⟨g, xs.length, none⟩ = some (.int .i64 x) := by
   obtain ⟨u, hu⟩ := cell?_setCell_some (w := w) (p := ⟨g, 0, none⟩) (x := Value.int .i64 y) (q := ⟨g, xs.length, none⟩) (v := .int .i64 y) cy
   exact World.cell?_setCell_same _ _ _ hu
  have hyl := q2.length_eq
  rw [show ys.length = xs.length + 1 from hyl] at h1
  rw [h1.cellAt xs.length (by omega), intsV_at] at h2
  cases hq : ys[xs.length]? with
  | none => rw [hq] at h2; cases h2
  | some z => rw [hq] at h2; cases h2; rfl
 have hyl : ys.length = xs.length + 1 := q2.length_eq
 have hD := Lib.hid (fun W (hW : W = (((w.setCell ⟨g, 0, none⟩ (.int .i64 y)).setCell ⟨g, xs.length, none⟩ (.int .i64 x)).drew)) => down_any b g (xs.length + 1) c 0 xs.length ys W (by rw [hW]; exact q1.1) hbg (by rw [hW]; exact q1.2.2.1) (by rw [hW, ← hyl]; have := q1.2.2.2.1; rw [hyl] at this ⊢; exact this) (by omega) (by omega) (by omega))
 have hEnd : Hid (∀ w3, Perms g (xs.length + 1) c ys (((w.setCell ⟨g, 0, none⟩ (.int .i64 y)).setCell ⟨g, xs.length, none⟩ (.int .i64 x)).drew) xs.length w3 →
   Calls Tryz.prog 250 #[.pointer (some ⟨b, 0, none⟩)] w3 (PopPost b (rowV g (xs.length + 1) c) x xs (.iface 3 (.int .i64 x)) w)) := by
  intro w3 hp3
  obtain ⟨ys2, r1, r2, r3, r4⟩ := q1.perms hyl hp3
  obtain ⟨zs, rfl, hzl⟩ := last_of r2 hyl ((r3 _ (Nat.le_refl _)).trans hyn)
  rw [← hzl] at r1 r4
  refine (popN_any b g c zs x w3 r1 (by omega)).mono ?_
  rintro e w4 ⟨he, hp, hk⟩
  refine ⟨he, _, zs, hp, ?_, ?_⟩
  ·have h1 : (zs ++ [x]).Perm (x :: xs) := r2.trans q2
   exact List.Perm.cons_inv ((List.perm_append_singleton x zs).symm.trans h1)
  ·have h5 : PlK b (rowV g (zs.length + 1) c) (rowV g zs.length c) w3 w4 := ⟨hk.mono fun _ _ e => .inl e, fun k hk => .inl hk⟩
   rw [hzl] at r4 h5 ⊢
   exact (q4.trans r4).trans h5
 clear hyn hyl q1 q2 q3 q4 hy hown hne h
 go_enter Tryz.func164, Tryz.ntmps164
 go_wp2_with (first
  | (go_at_call 246; go_must (refine (lenN_any _ _ _ _).mono ?_); rintro e w2 ⟨rfl, rfl⟩)
  | (go_at_call 248; go_must (refine hS.out.mono ?_); rintro e w2 ⟨rfl, rfl⟩))
 go_must (refine (hD.out _ rfl).mono ?_)
 rintro e w3 ⟨⟨q, rfl⟩, hp3⟩
 go_wp2_with (fail)
 go_must (refine (hEnd.out _ hp3).mono ?_)
 rintro e w4 ⟨rfl, hrest⟩
 go_wp2_with (fail)
 go_ret
 exact ⟨rfl, hrest⟩
theorem pileLen_any (b : Nat) (v : Value) (xs : List Int) (w : World) (h : Pl w b v xs) (hn : xs.length ≤ 800000) :
  Calls Tryz.prog 163 #[.pointer (some ⟨b, 0, none⟩)] w fun e w' => e = .returned (.int .i64 xs.length) ∧ w' = w := by
 obtain ⟨hc, hf, hbl, hown, hne⟩ := h
 obtain ⟨A, c, rfl, _⟩ := Sl.of_own hown
 go_enter Tryz.func163, Tryz.ntmps163
 go_wp2
 go_ret
 exact ⟨rfl, rfl⟩
def firstV : List Int → Value
 | [] => .tuple #[.int .i64 0, .bool false]
 | x :: _ => .tuple #[.int .i64 x, .bool true]
set_option maxHeartbeats 1000000 in
theorem pileFirst_any (b : Nat) (v : Value) (xs : List Int) (w : World) (h : Pl w b v xs) (hn : xs.length ≤ 800000) :
  Calls Tryz.prog 120 #[.pointer (some ⟨b, 0, none⟩)] w fun e w' => e = .returned (firstV xs) ∧ w' = w := by
 have hL := Lib.hid (pileLen_any b v xs w h hn)
 cases xs with
 | nil =>
  go_enter Tryz.func120, Tryz.ntmps120
  go_wp2_with (fail)
  go_must (refine hL.out.mono ?_)
  rintro e w1 ⟨rfl, rfl⟩
  go_wp2_with (fail)
  go_ret2
  exact ⟨rfl, rfl⟩
 | cons x xs =>
  obtain ⟨g, c, rfl, hbg, hgl⟩ := h.row (by simp)
  obtain ⟨hc, hf, hbl, hown, hne⟩ := h
  obtain ⟨x0, hx0, cx, fx⟩ := row_at (n := (x :: xs).length) hown (show 0 < (x :: xs).length by simp)
  cases hx0
  have hpos : ((((x :: xs).length : Nat) : Int) == 0) = false := by simp <;> omega
  have hpos2 : (0 : Int) < (((x :: xs).length : Nat) : Int) := by simp <;> omega
  have hpos3 : 0 < (x :: xs).length := by simp
  clear hown
  have HF := Lib.hid (show firstV (x :: xs) = .tuple #[.int .i64 x, .bool true] from rfl)
  rw [HF.out]
  generalize (x :: xs).length = n at *
  go_enter Tryz.func120, Tryz.ntmps120
  go_wp2_with (fail)
  go_must (refine hL.out.mono ?_)
  rintro e w1 ⟨rfl, rfl⟩
  go_wp2_with (fail)
  go_ret2
  exact ⟨rfl, rfl⟩
def TakePost (b : Nat) (v : Value) (xs : List Int) (w : World) (e : Ending) (w' : World) : Prop := e = .returned (firstV xs) ∧ ∃ v' ys, Pl w' b v' ys ∧ ys.Perm xs.tail ∧ PlK b v v' w w'
set_option maxHeartbeats 1000000 in
theorem pileTake_any (b : Nat) (v : Value) (xs : List Int) (w : World) (h : Pl w b v xs) (hn : xs.length ≤ 800000) :
  Calls Tryz.prog 122 #[.pointer (some ⟨b, 0, none⟩)] w (TakePost b v xs w) := by
 have hL := Lib.hid (pileLen_any b v xs w h hn)
 cases xs with
 | nil =>
  have HH := Lib.hid h
  clear h
  go_enter Tryz.func122, Tryz.ntmps122
  go_wp2_with (fail)
  go_must (refine hL.out.mono ?_)
  rintro e w1 ⟨rfl, rfl⟩
  go_wp2_with (fail)
  go_ret2
  exact ⟨rfl, v, [], HH.out, List.Perm.refl _, PlK.refl _ _ _⟩
 | cons x xs =>
  have hP := Lib.hid (hpop_any b v x xs w h (by simp at hn; omega))
  have hta : ∀ w, (Instr.typeAssert (.iface 3 (.int .i64 x)) 20 3 false).run Tryz.prog w = .ok (.int .i64 x) w := fun _ => by kernel_rfl
  have hpos : ((((x :: xs).length : Nat) : Int) == 0) = false := by simp <;> omega
  clear h
  generalize (x :: xs).length = n at *
  go_enter Tryz.func122, Tryz.ntmps122
  go_wp2_with (fail)
  go_must (refine hL.out.mono ?_)
  rintro e w1 ⟨rfl, rfl⟩
  go_wp2_with (fail)
  go_must (refine hP.out.mono ?_)
  rintro e w2 ⟨rfl, hrest⟩
  go_wp2_with (fail)
  go_ret2
  exact ⟨rfl, hrest⟩
end Go.Ev

set_option linter.unusedVariables false
set_option linter.unusedSimpArgs false
namespace Go.Ev
open Go.Proofs Go.RowKit
def PutNPost (b : Nat) (v : Value) (l xs : List Int) (w : World) (e : Ending) (w' : World) : Prop := e = .returned (.tuple #[]) ∧ ∃ v' ys, Pl w' b v' ys ∧ ys.Perm (l ++ xs) ∧ PlK b v v' w w'
set_option maxHeartbeats 1000000 in
set_option maxRecDepth 100000 in
theorem pilePut_any (b : Nat) (v : Value) (xs l : List Int) (A : Option Addr) (m d : Nat) (w : World) (h : Pl w b v xs) (hl : Sl w 1 (.slice A m d) m (intsV l)) (hA : ∀ a, A = some a → ¬ PlS b v a.block) (hn : xs.length + m ≤ 800000) :
  Calls Tryz.prog 109 #[.pointer (some ⟨b, 0, none⟩), .slice A m d] w (PutNPost b v l xs w) := by
 have hlm : l.length = m := by obtain ⟨_, _, e, _, h1, _⟩ := hl; rw [intsV_len] at h1; cases e; omega
 subst hlm
 have HL := Lib.hid hl
 have HA := Lib.hid hA
 clear hl hA
 go_enter Tryz.func109, Tryz.ntmps109
 go_wp2
 go_loopg [10] l.length (fun gk s10 wr => ∃ k : Nat, k ≤ l.length ∧ l.length - k ≤ gk ∧ s10 = .int .i64 k ∧ ∃ v' ys, Pl wr b v' ys ∧ ys.Perm (l.take k ++ xs) ∧ PlK b v v' w wr)
 case atStart => exact ⟨0, by omega, by omega, rfl, v, xs, h, by simp, PlK.refl _ _ _⟩
 case round =>
  obtain ⟨k, hk, hgk, rfl, v', ys, hp, hperm, hkept⟩ := hrel
  have hz := hkept.1.size
  by_cases hlt : k < l.length
  ·obtain ⟨_, _, e0, h0, h1, h2⟩ := HL.out
   cases e0
   obtain ⟨blk, off, rfl, hbl, hcell⟩ := h2 (by omega)
   have c0 := hcell k (.int .i64 l[k]) (by rw [intsV_at, List.getElem?_eq_getElem hlt]; rfl)
   have c1 : wr.cell? ⟨blk, off + k, none⟩ = some (.int .i64 l[k]) := (hkept.1.cell (p := ⟨blk, off + k, none⟩) hbl (HA.out ⟨blk, off, none⟩ rfl)).trans c0
   have hyl : ys.length = k + xs.length := by rw [hperm.length_eq, List.length_append, List.length_take]; omega
   have hP := Lib.hid (hpush_any b v' ys l[k] wr hp (by omega))
   have hpe : Hid (∀ zs : List Int, zs.Perm (l[k] :: ys) → zs.Perm (l.take (k + 1) ++ xs)) := fun zs hz => by
    refine hz.trans ((hperm.cons _).trans ?_)
    rw [List.take_succ_eq_append_getElem hlt, List.append_assoc]
    exact List.perm_middle.symm
   have hp2 := hp.2.2.1
   have HPl := Lib.hid hp
   have hPm := Lib.hid hperm
   clear hp hperm hcell h2 h1 c0 hyl h
   generalize l[k] = x at *
   go_wp2_with (fail)
   go_must (refine hP.out.mono ?_)
   rintro e w1 ⟨rfl, v2, zs, hp3, hpm3, hk3⟩
   go_wp2_with (fail)
   go_roundg (l.length - (k + 1))
   case measure => omega
   case rel => exact ⟨k + 1, by omega, by omega, by go_num, v2, zs, hp3, hpe.out zs hpm3, hkept.trans hk3⟩
  ·obtain rfl : k = l.length := by omega
   rw [List.take_length] at hperm
   have hPm := Lib.hid hperm
   have HPl := Lib.hid hp
   clear hperm hp h
   go_wp2
   refine bodyPost_end (results_none rfl _ _ _) rfl ?_
   exact ⟨rfl, v', ys, HPl.out, hPm.out, hkept⟩
end Go.Ev
