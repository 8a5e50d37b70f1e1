/-
  Parts of slices. append of a slice that reads as cells, nil or not, onto a row of one's own. Numbers that change places. A pile's numbers: how many; which is less; two change places; one more; one less. What is read from bytes, whatever they are, is short.
-/
import Derived.Test.YtgfmhppkmogdhaaGreatDoorMBEvInsert
import Derived.Test.YtgfmhppkmogdhaaGreatDoorMBGvRise
import Derived.Laws.AppendOwnNone
import Derived.Test.YtgfmhppkmogdhaaGreatDoorMBGvAny2
import Derived.Test.YtgfmhppkmogdhaaGreatDoorMBEvBytes
import Derived.Test.YtgfmhppkmogdhaaGreatDoorMBGwReader
set_option linter.unusedVariables false
set_option linter.unusedSimpArgs false
namespace Go.Ev
open Go.RowKit

theorem Sl.take {w : World} {z n c : Nat} {A : Option Addr} {xs : List Value} (h : Sl w z (.slice A n c) n xs) {i : Nat} (hi : i ≤ n) : Sl w z (.slice A i c) i (xs.take (i * z)) := by
  obtain ⟨A', c', e, h0, h1, h2⟩ := h
  cases e
  have hm : i * z ≤ n * z := Nat.mul_le_mul_right _ hi
  refine ⟨A, c, rfl, by omega, by rw [List.length_take]; omega, fun hp => ?_⟩
  obtain ⟨b, o, h3, h4, h5⟩ := h2 (by omega)
  refine ⟨b, o, h3, h4, fun j u hu => h5 j u ?_⟩
  rw [List.getElem?_take] at hu
  split at hu
  · exact hu
  · cases hu

theorem Sl.drop {w : World} {z n c b o : Nat} {xs : List Value} (h : Sl w z (.slice (some ⟨b, o, none⟩) n c) n xs) {i : Nat} (hi : i ≤ n) : Sl w z (.slice (some ⟨b, o + i * z, none⟩) (n - i) (c - i)) (n - i) (xs.drop (i * z)) := by
  obtain ⟨A', c', e, h0, h1, h2⟩ := h
  cases e
  have hm : i * z ≤ n * z := Nat.mul_le_mul_right _ hi
  refine ⟨_, _, rfl, by omega, by rw [List.length_drop, h1, Nat.sub_mul], fun hp => ?_⟩
  obtain ⟨b', o', h3, h4, h5⟩ := h2 (by omega)
  cases h3
  refine ⟨_, _, rfl, h4, fun j u hu => ?_⟩
  rw [List.getElem?_drop] at hu
  have := h5 _ u hu
  rwa [← Nat.add_assoc] at this

theorem bestFrom_step (cost : Nat → Nat) {n k best : Nat} (h : k < n) : bestFrom cost (n - k) k best = bestFrom cost (n - (k + 1)) (k + 1) (if best = 0 ∨ cost k < cost best then k else best) := by
  obtain ⟨m, hm⟩ : ∃ m, n - k = m + 1 := ⟨n - k - 1, by omega⟩
  rw [hm, show n - (k + 1) = m by omega, bestFrom]

theorem bestFrom_end (cost : Nat → Nat) (n best : Nat) : bestFrom cost (n - n) n best = best := by
  rw [Nat.sub_self, bestFrom]
end Go.Ev

namespace Go.Ev
open Go.RowKit

theorem addr_add (b o j : Nat) : (⟨b, o, none⟩ : Addr).add j = ⟨b, o + j, none⟩ := by cases j <;> simp [Addr.add]

theorem wpList_append_sl {P : Program} {w : World} {ops : Array Oper} {rest : List Oper} {o : Oper} {a : Act} {Q : Exit → Act → World → Prop} (hgd : o.guard = none) (s x : Operand) (t : TypeId)
    (ho : o.op = .call { callee := .builtin .append, args := #[s, x], argTypes := #[t, t] })
    (base : Nat) (e : TypeId) (i : TypeInfo) (z : Value) (size bytes : Nat) (ht : P.underlying t = some (.slice e)) (hi : P.info? e = some i) (hz : i.zero = some z)
    (hsize : i.size = size) (hby : i.bytes = bytes) (hzs : z.cells.size = size) (hsz : 0 < size)
    (v : Value) (n : Nat) (xs : List Value) (hs : a.eval s = v) (hown : w.ownsRow base e size v n xs)
    (A : Option Addr) (m c : Nat) (news : List Value) (hx : a.eval x = .slice A m c) (hsl : Sl w size (.slice A m c) m news) (hA : A = none → c = 0) (h1 : ∀ u ∈ news, u.oneCell' = true)
    (h63 : n + m ≤ maxLen) (hbytes : (n + m) * bytes ≤ 140737488355328) (hbase : base ≤ w.heap.size)
    (h : ∀ v' w', w'.ownsRow base e size v' (n + m) (xs ++ news) → w.grownBy w' v.ownBlock → wpList P ops Q rest (a.put o.dst v') w') : wpList P ops Q (o :: rest) a w := by
  obtain ⟨A', c', e0, h0, h2, h3⟩ := hsl
  cases e0
  cases A with
  | none =>
    have hm : m = 0 := by
      by_cases hp : 0 < m
      · obtain ⟨_, _, he, _⟩ := h3 hp; cases he
      · omega
    subst hm
    have hc := hA rfl
    subst hc
    have hn : news = [] := List.eq_nil_of_length_eq_zero (by simpa using h2)
    subst hn
    refine wpList_append_own_none hgd s x t ho base e i size ht hi v n xs hs hown hx (h v w ?_ ⟨rfl, rfl, rfl, Nat.le_refl _, fun _ _ _ => rfl⟩)
    simpa using hown
  | some ad =>
    refine wpList_append_own w hgd s x t ho base e i z size bytes ht hi hz hsize hby hzs hsz v n xs hs hown ad m c news hx h2 (fun j u hu => ?_) h1 h63 hbytes hbase fun v' w' h4 h5 _ => h v' w' h4 h5
    have hj := (List.getElem?_eq_some_iff.1 hu).1
    have hm : 0 < m := by
      cases m with
      | zero => rw [h2] at hj; simp at hj
      | succ m => omega
    obtain ⟨b, o', he, _, h6⟩ := h3 hm
    cases he
    rw [addr_add]
    exact h6 j u hu

/-- Where the row lies behind an append: where it lay, or anew. -/
theorem append_where {P : Program} {w w' : World} {base : Nat} {t ty e : TypeId} {i : TypeInfo} {z : Value} {size bytes : Nat} (ht : P.underlying t = some (.slice e)) (hi : P.info? e = some i) (hz : i.zero = some z)
    (hsize : i.size = size) (hby : i.bytes = bytes) (hsz : 0 < size) {v v' : Value} {n : Nat} {xs : List Value} (hown : w.ownsRow base e size v n xs)
    {a : Addr} {m c : Nat} {news : List Value} (hl : news.length = m * size) (hnews : ∀ j u, news[j]? = some u → w.cell? (a.add j) = some u) (h1 : ∀ u ∈ news, u.oneCell' = true)
    (h63 : n + m ≤ maxLen) (hbytes : (n + m) * bytes ≤ 140737488355328) (hr : (Builtin.append_ #[t, t] ty #[v, .slice (some a) m c]).run P w = .ok v' w') :
    ∀ k, v'.ownBlock = some k → v.ownBlock = some k ∨ w.heap.size ≤ k := by
  subst hsize hby
  unfold maxLen at h63
  rcases hown.2 with ⟨rfl, rfl⟩ | ⟨g, cap, cur, rfl, hbg, hg, hnc, hcm, hcs, htake⟩
  · by_cases hm : m = 0
    · subst hm
      have : (Builtin.append_ #[t, t] ty #[.slice none 0 0, .slice (some a) 0 c]).run P w = .ok (.slice none 0 0) w := by
        simp [Builtin.append_, run_underlying ht, sizeOf, typeInfo, hi, Builtin.lenOf, Builtin.firstCells, loadCells, loadCellsFrom]
      rw [this] at hr
      cases hr
      intro k hk
      cases hk
    · rw [run_append_nil (P := P) w t ty e i z ht hi hz a m c news hl hnews (by omega) (by omega) (by have hb := hbytes; simp only [Nat.zero_add] at hb; omega)] at hr
      cases hr
      intro k hk
      simp only [Value.ownBlock, Option.some.injEq] at hk
      omega
  · by_cases hroom : n + m ≤ cap
    · rw [run_append_room (P := P) w t ty e i ht hi g n cap cur hg a m c news hl hnews h1 hroom (by rw [hl, hcs, ← Nat.add_mul]; exact Nat.mul_le_mul_right _ hroom)] at hr
      cases hr
      intro k hk
      exact .inl hk
    · rw [run_append_grow (P := P) w t ty e i z ht hi hz ⟨g, 0, none⟩ n cap xs hown.1 (hown.cells (g := g) rfl) a m c news hl hnews (by omega) (by omega) (growslice_fits (by omega) hbytes)] at hr
      cases hr
      intro k hk
      simp only [Value.ownBlock, Option.some.injEq] at hk
      omega

theorem wp_append_at {P : Program} {w : World} {o : Oper} {a : Act} {K : Act → World → Prop} {Q : Exit → Act → World → Prop} (s x : Operand) (t : TypeId)
    (ho : o.op = .call { callee := .builtin .append, args := #[s, x], argTypes := #[t, t] })
    (base : Nat) (e : TypeId) (i : TypeInfo) (z : Value) (size bytes : Nat) (ht : P.underlying t = some (.slice e)) (hi : P.info? e = some i) (hz : i.zero = some z)
    (hsize : i.size = size) (hby : i.bytes = bytes) (hzs : z.cells.size = size) (hsz : 0 < size)
    (v : Value) (n : Nat) (xs : List Value) (hs : a.eval s = v) (hown : w.ownsRow base e size v n xs)
    (ad : Addr) (m c : Nat) (news : List Value) (hx : a.eval x = .slice (some ad) m c) (hl : news.length = m * size) (hnews : ∀ j u, news[j]? = some u → w.cell? (ad.add j) = some u) (h1 : ∀ u ∈ news, u.oneCell' = true)
    (h63 : n + m ≤ maxLen) (hbytes : (n + m) * bytes ≤ 140737488355328) (hbase : base ≤ w.heap.size)
    (h : ∀ v' w', w'.ownsRow base e size v' (n + m) (xs ++ news) → w.grownBy w' v.ownBlock → (∀ k, v'.ownBlock = some k → v.ownBlock = some k ∨ w.heap.size ≤ k) → K (a.put o.dst v') w') : o.wp P a w K Q := by
  obtain ⟨v', w', hr, h2, h3, h4⟩ := run_append_own (P := P) w base t o.type e i z size bytes ht hi hz hsize hby hzs hsz v n xs hown ad m c news hl hnews h1 h63 hbytes hbase
  have h5 := append_where ht hi hz hsize hby hsz hown hl hnews h1 h63 hbytes hr
  unfold Oper.wp execOp
  simp only [ho, resolve, invoke, builtin, Sem.run_bind, Sem.run_pure, Result.andThen_ok, List.map_toArray, List.map_cons, List.map_nil, hs, hx, hr]
  exact h v' w' h2 h3 h5

theorem wpList_append_at {P : Program} {w : World} {ops : Array Oper} {rest : List Oper} {o : Oper} {a : Act} {Q : Exit → Act → World → Prop} (hgd : o.guard = none) (s x : Operand) (t : TypeId)
    (ho : o.op = .call { callee := .builtin .append, args := #[s, x], argTypes := #[t, t] })
    (base : Nat) (e : TypeId) (i : TypeInfo) (z : Value) (size bytes : Nat) (ht : P.underlying t = some (.slice e)) (hi : P.info? e = some i) (hz : i.zero = some z)
    (hsize : i.size = size) (hby : i.bytes = bytes) (hzs : z.cells.size = size) (hsz : 0 < size)
    (v : Value) (n : Nat) (xs : List Value) (hs : a.eval s = v) (hown : w.ownsRow base e size v n xs)
    (ad : Addr) (m c : Nat) (news : List Value) (hx : a.eval x = .slice (some ad) m c) (hl : news.length = m * size) (hnews : ∀ j u, news[j]? = some u → w.cell? (ad.add j) = some u) (h1 : ∀ u ∈ news, u.oneCell' = true)
    (h63 : n + m ≤ maxLen) (hbytes : (n + m) * bytes ≤ 140737488355328) (hbase : base ≤ w.heap.size)
    (h : ∀ v' w', w'.ownsRow base e size v' (n + m) (xs ++ news) → w.grownBy w' v.ownBlock → (∀ k, v'.ownBlock = some k → v.ownBlock = some k ∨ w.heap.size ≤ k) → wpList P ops Q rest (a.put o.dst v') w') : wpList P ops Q (o :: rest) a w :=
  wpList_plain hgd fun _ hK => wp_append_at s x t ho base e i z size bytes ht hi hz hsize hby hzs hsz v n xs hs hown ad m c news hx hl hnews h1 h63 hbytes hbase fun v' w' h2 h3 h4 => hK _ _ (h v' w' h2 h3 h4)
end Go.Ev

namespace Go.Ev

theorem if_on {p : Prop} [Decidable p] {a b : Prop} (h : p) (ha : a) : if p then a else b := by rw [if_pos h]; exact ha

def swapL (l : List Int) (i j : Nat) : List Int := (l.set i (l.getD j 0)).set j (l.getD i 0)

theorem swapL_len (l : List Int) (i j : Nat) : (swapL l i j).length = l.length := by simp [swapL]

theorem swapL_at {l : List Int} {i j k : Nat} (hi : i < l.length) (hj : j < l.length) : (swapL l i j)[k]? = if k = j then l[i]? else if k = i then l[j]? else l[k]? := by
  unfold swapL
  rw [List.getElem?_set]
  by_cases h : j = k
  · subst h
    rw [if_pos rfl, if_pos (by simpa using hj), if_pos rfl, List.getElem?_eq_getElem hi]
    simp [List.getD_eq_getElem?_getD, hi]
  · rw [if_neg h, if_neg (fun e => h e.symm), List.getElem?_set]
    by_cases h2 : i = k
    · subst h2
      rw [if_pos rfl, if_pos hi, if_pos rfl, List.getElem?_eq_getElem hj]
      simp [List.getD_eq_getElem?_getD, hj]
    · rw [if_neg h2, if_neg (fun e => h2 e.symm)]

theorem swapL_perm {l : List Int} {i j : Nat} (hi : i < l.length) (hj : j < l.length) : (swapL l i j).Perm l := by
  have h := Array.swap_perm (xs := l.toArray) (i := i) (j := j) (by simpa using hi) (by simpa using hj)
  have e : (l.toArray.swap i j (by simpa using hi) (by simpa using hj)).toList = swapL l i j := by
    apply List.ext_getElem?
    intro k
    rw [swapL_at hi hj]
    simp only [Array.toList_swap, List.getElem?_set]
    by_cases h1 : j = k
    · subst h1
      by_cases h3 : i = j
      · subst h3; simp [hi]
      · simp [hi, hj, h3]
    · by_cases h2 : i = k
      · subst h2; simp [h1, hi, hj]; intro e; exact absurd e.symm h1
      · rw [if_neg h1, if_neg h2, if_neg (fun e => h1 e.symm), if_neg (fun e => h2 e.symm)]
  have := h.toList
  rw [e] at this
  exact this

def intsV (l : List Int) : List Value := l.map (Value.int .i64)
theorem intsV_len (l : List Int) : (intsV l).length = l.length := by simp [intsV]
theorem intsV_at (l : List Int) (k : Nat) : (intsV l)[k]? = (l[k]?).map (Value.int .i64) := by simp [intsV]
theorem intsV_set (l : List Int) (k : Nat) (x : Int) : (intsV l).set k (.int .i64 x) = intsV (l.set k x) := by simp [intsV, List.map_set]
theorem intsV_snoc (l : List Int) (x : Int) : intsV (l ++ [x]) = intsV l ++ [.int .i64 x] := by simp [intsV]
theorem intsV_append (a b : List Int) : intsV (a ++ b) = intsV a ++ intsV b := by simp [intsV]
theorem intsV_one (l : List Int) : ∀ u ∈ intsV l, u.oneCell' = true := by
  intro u h
  simp only [intsV, List.mem_map] at h
  obtain ⟨x, _, rfl⟩ := h
  rfl
end Go.Ev

set_option linter.unusedVariables false
set_option linter.unusedSimpArgs false
namespace Go.Ev
open Go.Proofs Go.RowKit

/-- A row of numbers of one's own. -/
def Nums (w : World) (v : Value) (l : List Int) : Prop := w.ownsRow 0 3 1 v l.length (intsV l)

theorem lenN_any (A : Option Addr) (n c : Nat) (w : World) : Calls Tryz.prog 334 #[.slice A n c] w fun e w' => e = .returned (.int .i64 n) ∧ w' = w := by
  go_enter Tryz.func334, Tryz.ntmps334
  go_wp2
  go_ret
  exact ⟨rfl, rfl⟩

theorem lessN_any (g n c i j : Nat) (x y : Int) (w : World) (hx : w.cell? ⟨g, i, none⟩ = some (.int .i64 x)) (hy : w.cell? ⟨g, j, none⟩ = some (.int .i64 y)) (hi : i < n) (hj : j < n) (hn : n ≤ 1000000) :
    Calls Tryz.prog 335 #[.slice (some ⟨g, 0, none⟩) n c, .int .i64 i, .int .i64 j] w fun e w' => e = .returned (.bool (decide (x < y))) ∧ w' = w.drew := by
  have hi' : (i : Int) < (n : Int) := by omega
  have hj' : (j : Int) < (n : Int) := by omega
  go_enter Tryz.func335, Tryz.ntmps335
  go_wp2
  refine wp_region_any (by kernel_rfl) ?_
  change wpAny _ _ _ _ _ _ _ (World.drew _)
  try simp only [Act.put, lT, l0, lS]
  refine tA 0 ?_; try simp only [Act.put, lT, l0, lS]
  refine tA 1 ?_; try simp only [Act.put, lT, l0, lS]
  refine tA 2 ?_; try simp only [Act.put, lT, l0, lS]
  refine tA 4 ?_; try simp only [Act.put, lT, l0, lS]
  refine tA 5 ?_; try simp only [Act.put, lT, l0, lS]
  refine tA 6 ?_; try simp only [Act.put, lT, l0, lS]
  refine wpAny_ready (rs := [3, 7]) (by kernel_rfl) (by simp) (AllReady.cons (o := { dst := _, op := _, type := _, pos := _, after := _, guard := _ }) rfl (fun K hK => ?_) (AllReady.cons (o := { dst := _, op := _, type := _, pos := _, after := _, guard := _ }) rfl (fun K hK => ?_) AllReady.nil))
  · go_simp
    refine hK _ _ ?_
    clear hK K
    refine rd 7 (by kernel_rfl) rfl (fun K hK => ?_); go_simp; refine hK _ _ ?_; clear hK K
    refine rd 8 (by kernel_rfl) rfl (fun K hK => ?_); go_simp; refine hK _ _ ?_; clear hK K
    refine rd 9 (by kernel_rfl) rfl (fun K hK => ?_); go_simp; refine hK _ _ ?_; clear hK K
    refine wpAny_done (by kernel_rfl) ?_ _
    go_wp2
    go_ret
    exact ⟨by simp, rfl⟩
  · go_simp
    refine hK _ _ ?_
    clear hK K
    refine rd 3 (by kernel_rfl) rfl (fun K hK => ?_); go_simp; refine hK _ _ ?_; clear hK K
    refine rd 8 (by kernel_rfl) rfl (fun K hK => ?_); go_simp; refine hK _ _ ?_; clear hK K
    refine rd 9 (by kernel_rfl) rfl (fun K hK => ?_); go_simp; refine hK _ _ ?_; clear hK K
    refine wpAny_done (by kernel_rfl) ?_ _
    go_wp2
    go_ret
    exact ⟨by simp, rfl⟩

theorem swapN_any (g n c i j : Nat) (x y : Int) (w : World) (hx : w.cell? ⟨g, i, none⟩ = some (.int .i64 x)) (hy : w.cell? ⟨g, j, none⟩ = some (.int .i64 y)) (hi : i < n) (hj : j < n) (hn : n ≤ 1000000)
    (fx : w.frozen? ⟨g, i, none⟩ = false) (fy : w.frozen? ⟨g, j, none⟩ = false) :
    Calls Tryz.prog 336 #[.slice (some ⟨g, 0, none⟩) n c, .int .i64 i, .int .i64 j] w fun e w' => e = .returned (.tuple #[]) ∧ w' = ((w.setCell ⟨g, i, none⟩ (.int .i64 y)).setCell ⟨g, j, none⟩ (.int .i64 x)).drew := by
  have hi' : (i : Int) < (n : Int) := by omega
  have hj' : (j : Int) < (n : Int) := by omega
  obtain ⟨v', hy'⟩ := cell?_setCell_some (w := w) (p := ⟨g, i, none⟩) (x := Value.int .i64 y) (q := ⟨g, j, none⟩) (v := .int .i64 y) hy
  go_enter Tryz.func336, Tryz.ntmps336
  go_wp2
  refine wp_region_any (by kernel_rfl) ?_
  change wpAny _ _ _ _ _ _ _ (World.drew _)
  try simp only [Act.put, lT, l0, lS]
  refine tA 0 ?_; try simp only [Act.put, lT, l0, lS]
  refine tA 1 ?_; try simp only [Act.put, lT, l0, lS]
  refine tA 2 ?_; try simp only [Act.put, lT, l0, lS]
  refine tA 3 ?_; try simp only [Act.put, lT, l0, lS]
  refine tA 4 ?_; try simp only [Act.put, lT, l0, lS]
  refine tA 5 ?_; try simp only [Act.put, lT, l0, lS]
  refine tA 6 ?_; try simp only [Act.put, lT, l0, lS]
  refine tA 8 ?_; try simp only [Act.put, lT, l0, lS]
  refine tA 9 ?_; try simp only [Act.put, lT, l0, lS]
  refine tA 10 ?_; try simp only [Act.put, lT, l0, lS]
  refine wpAny_ready (rs := [7, 11]) (by kernel_rfl) (by simp) (AllReady.cons (o := { dst := _, op := _, type := _, pos := _, after := _, guard := _ }) rfl (fun K hK => ?_) (AllReady.cons (o := { dst := _, op := _, type := _, pos := _, after := _, guard := _ }) rfl (fun K hK => ?_) AllReady.nil))
  · go_simp
    refine hK _ _ ?_
    clear hK K
    refine rd 11 (by kernel_rfl) rfl (fun K hK => ?_); go_simp; refine hK _ _ ?_; clear hK K
    refine rd 12 (by kernel_rfl) rfl (fun K hK => ?_); go_simp; refine hK _ _ ?_; clear hK K
    refine rd 13 (by kernel_rfl) rfl (fun K hK => ?_); go_simp; refine hK _ _ ?_; clear hK K
    refine rd 14 (by kernel_rfl) rfl (fun K hK => ?_); go_simp; refine hK _ _ ?_; clear hK K
    refine rd 15 (by kernel_rfl) rfl (fun K hK => ?_); go_simp; refine hK _ _ ?_; clear hK K
    refine wpAny_done (by kernel_rfl) ?_ _
    refine bodyPost_end (results_none rfl _ _ _) rfl ?_
    exact ⟨rfl, rfl⟩
  · go_simp
    refine hK _ _ ?_
    clear hK K
    refine rd 7 (by kernel_rfl) rfl (fun K hK => ?_); go_simp; refine hK _ _ ?_; clear hK K
    refine rd 12 (by kernel_rfl) rfl (fun K hK => ?_); go_simp; refine hK _ _ ?_; clear hK K
    refine rd 13 (by kernel_rfl) rfl (fun K hK => ?_); go_simp; refine hK _ _ ?_; clear hK K
    refine rd 14 (by kernel_rfl) rfl (fun K hK => ?_); go_simp; refine hK _ _ ?_; clear hK K
    refine rd 15 (by kernel_rfl) rfl (fun K hK => ?_); go_simp; refine hK _ _ ?_; clear hK K
    refine wpAny_done (by kernel_rfl) ?_ _
    refine bodyPost_end (results_none rfl _ _ _) rfl ?_
    exact ⟨rfl, rfl⟩
end Go.Ev

namespace Go.Ev
open Go.Lib

theorem i64_zero : I64 0 := ⟨by decide, by decide⟩
theorem unzig_i64 {n : Nat} (h : n < 18446744073709551616) : I64 (unzigzag n) := by
  unfold unzigzag I64
  split <;> omega

theorem numP_i64 : ∀ (b : Bytes) (i acc : Nat), i ≤ 9 → acc < 2 ^ (7 * i) → I64 (numP i acc b).1
  | [], _, _, _, _ => i64_zero
  | c :: r, i, acc, hi, ha => by
    have hc : c.toNat < 256 := c.toNat_lt
    have e6 : (2 : Nat) ^ (7 * (i + 1)) = 128 * 2 ^ (7 * i) := by rw [Nat.mul_add, Nat.pow_add]; simp [Nat.mul_comm]
    unfold numP
    split
    · exact i64_zero
    · rename_i h9
      split
      · rename_i h128
        have hi8 : i ≠ 9 := fun h => h9 ⟨h, by omega⟩
        have hl : c.toNat % 128 * 2 ^ (7 * i) ≤ 127 * 2 ^ (7 * i) := Nat.mul_le_mul_right _ (by omega)
        exact numP_i64 r (i + 1) _ (by omega) (by rw [e6]; omega)
      · rename_i h128
        split
        · exact i64_zero
        · apply unzig_i64
          by_cases hi9 : i = 9
          · subst hi9
            have e : (2 : Nat) ^ (7 * 9) = 9223372036854775808 := by decide
            rw [e] at ha ⊢
            have : c.toNat ≤ 1 := by
              apply Decidable.byContradiction
              intro h2
              exact h9 ⟨rfl, by omega⟩
            omega
          · have hl : c.toNat * 2 ^ (7 * i) ≤ 127 * 2 ^ (7 * i) := Nat.mul_le_mul_right _ (by omega)
            have hp : (2 : Nat) ^ (7 * i) ≤ 2 ^ 56 := Nat.pow_le_pow_right (by decide) (by omega)
            have e : (2 : Nat) ^ 56 = 72057594037927936 := by decide
            rw [e] at hp
            omega

theorem Rd.var_i64 (r : Rd) : I64 r.var.1 := by
  unfold Rd.var
  split
  · exact i64_zero
  · split
    · exact i64_zero
    · exact numP_i64 _ 0 0 (by omega) (by decide)

theorem Rd.text_len (r : Rd) {m : Nat} : (r.text m).1.length ≤ m := by
  unfold Rd.text
  split
  · simp
  · rename_i h
    obtain ⟨_, h2, h3, h4⟩ := Rd.count_ok (Decidable.not_not.1 h)
    split
    · simp
    · rw [List.length_take, h2]
      omega

/-- An item that is short. -/
def Item.short (x : Item) : Prop := x.key.length ≤ 40 ∧ x.val.length ≤ 60 ∧ I64 x.over ∧ I64 x.size

theorem Rd.item_ok (r : Rd) : r.item.1.short := by
  unfold Rd.item Item.short
  have h1 : (r.text 40).1.length ≤ 40 := r.text_len (m := 40)
  dsimp only
  split
  · exact ⟨h1, by simp, Rd.var_i64 _, Rd.var_i64 _⟩
  · exact ⟨h1, Rd.text_len _ (m := 60), i64_zero, i64_zero⟩

theorem Item.lay_short {x : Item} (h : x.short) : x.lay.length ≤ 121 := by
  obtain ⟨h1, h2, h3, h4⟩ := h
  have k1 := (varB_len (x.key.length : Int) ⟨by omega, by omega⟩).2
  have k2 := (varB_len (x.val.length : Int) ⟨by omega, by omega⟩).2
  have k3 := (varB_len x.over h3).2
  have k4 := (varB_len x.size h4).2
  have k5 : (boolB (x.over != 0)).length = 1 := by unfold boolB; split <;> rfl
  unfold Item.lay textB
  split <;> simp only [List.length_append] <;> omega

theorem layI_short : ∀ {l : List Item}, (∀ x ∈ l, x.short) → (layI l).length ≤ 121 * l.length
  | [], _ => by simp [layI]
  | x :: l, h => by
    have h1 := Item.lay_short (h x (List.mem_cons_self ..))
    have h2 := layI_short fun y hy => h y (List.mem_cons_of_mem _ hy)
    simp only [layI, List.length_append, List.length_cons]
    omega
theorem layI_snoc (l : List Item) (x : Item) : layI (l ++ [x]) = layI l ++ x.lay := by simp [layI_append, layI]

/-- One step of the reading. -/
theorem Rd.items_step {r : Rd} (h : r.e = 0 ∧ r.b ≠ []) : r.items = (r.item.1 :: r.item.2.items.1, r.item.2.items.2) := by
  rw [Rd.items, dif_pos h]
  by_cases h2 : r.item.2.e = 0
  · rw [dif_pos h2]
  · rw [dif_neg h2]
    have : r.item.2.items = ([], r.item.2) := by
      rw [Rd.items, dif_neg (fun hc => h2 hc.1)]
    rw [this]
theorem Rd.items_end {r : Rd} (h : ¬ (r.e = 0 ∧ r.b ≠ [])) : r.items = ([], r) := by rw [Rd.items, dif_neg h]
end Go.Ev
