/-
  The keys of a map, sorted, and collected where there is at most one: what the library's contracts give, for the evaluator.
-/
import Derived.Test.YtdopajkecfomdaaGreatDoorEvPrim
import Derived.Test.YtdopajkecfomdaaGreatDoorEvCtl4
import Derived.Lib.SlKeysI
import Derived.Laws.AppendOwn
namespace Go.Ev
open Go.RowKit (Below)
open Go.MapKept (Stamped)

section
variable {B : World} {Fm : Nat → Option Obj} {σ : Sig} {D : Nat → Prop} {s : St} {w : World}

/-- Nothing that lay there has changed: the memory stands for the world behind, too. -/
theorem Good.belowW (g : Good B Fm σ D s w) {w' : World} (h : Below w.heap.size w w') : Good B Fm σ D s w' :=
  ⟨h.os.trans g.os, h.tape.trans g.tape, h.output.trans g.output, Nat.le_trans g.most h.size, g.lim, g.below, fun b o h1 h2 => by
    obtain ⟨k1, ob, k2, k3⟩ := g.heap b o h1 h2
    exact ⟨k1, ob, by rw [h.block _ (g.size b k1)]; exact k2, k3⟩, g.inj, fun b hb => Nat.lt_of_lt_of_le (g.size b hb) h.size, fun i o hi => by
    have h1 := g.frame i o hi
    rw [h.block i (Array.getElem?_eq_some_iff.1 h1).1]; exact h1, g.apart⟩

/-- A block that has come behind those that were there. -/
theorem Good.place (g : Good B Fm σ D s w) {w' : World} (hbw : Below w.heap.size w w') {o : AO} {ob : Obj} {n b gb : Nat} {s' : St} (h : s.new o = some (b, s')) (hge : w.heap.size ≤ gb) (hob : w'.heap[gb]? = some ob)
    (hr : ORel (upd σ s.nx ⟨gb, n⟩) (plus D s.nx) ⟨gb, n⟩ o ob) : Good B Fm (upd σ s.nx ⟨gb, n⟩) (plus D s.nx) s' w' := by
  obtain ⟨ht, rfl, rfl⟩ := new_of h
  have hext : Ext σ D (upd σ s.nx ⟨gb, n⟩) (plus D s.nx) := ext_upd g.fresh
  have hold : ∀ c, D c → c ≠ s.nx := fun c hc e => g.fresh (e ▸ hc)
  have hal : ∀ c, alive ⟨s.h.set depth s.nx o, s.nx + 1⟩ c → c = s.nx ∨ (c ≠ s.nx ∧ alive s c) := by
    rintro c ⟨q, hq, hne⟩
    rw [get_new ht] at hq
    by_cases hc : c = s.nx
    · exact .inl hc
    · rw [if_neg hc] at hq
      exact .inr ⟨hc, q, hq, hne⟩
  have hin : ∀ c, alive s c → D c := fun c ⟨q, hq, hne⟩ => (g.heap c q hq hne).1
  have hgb : gb < w'.heap.size := (Array.getElem?_eq_some_iff.1 hob).1
  refine ⟨hbw.os.trans g.os, hbw.tape.trans g.tape, hbw.output.trans g.output, Nat.le_trans g.most hbw.size, ht, ?_, ?_, ?_, ?_, ?_, ?_⟩
  · rintro c (hc | rfl)
    · have := g.below c hc; simp only; omega
    · simp only; omega
  · intro c q hq hne
    rw [get_new ht] at hq
    by_cases hc : c = s.nx
    · subst hc
      rw [if_pos rfl] at hq
      cases hq
      refine ⟨.inr rfl, ob, ?_, ?_⟩
      · rw [upd_same]; exact hob
      · rw [upd_same]; exact hr
    · rw [if_neg hc] at hq
      obtain ⟨hd, ob', h1, h2⟩ := g.heap c q hq hne
      rw [upd_other _ _ hc]
      exact ⟨.inl hd, ob', by rw [hbw.block _ (g.size c hd)]; exact h1, hext.orel h2⟩
  · intro c d hc hd he
    rcases hal c hc with rfl | ⟨hc1, hc2⟩ <;> rcases hal d hd with rfl | ⟨hd1, hd2⟩
    · rfl
    · rw [upd_same, upd_other _ _ hd1] at he
      have := g.size d (hin d hd2); simp only at he; omega
    · rw [upd_same, upd_other _ _ hc1] at he
      have := g.size c (hin c hc2); simp only at he; omega
    · rw [upd_other _ _ hc1, upd_other _ _ hd1] at he
      exact g.inj c d hc2 hd2 he
  · rintro c (hc | rfl)
    · rw [upd_other _ _ (hold c hc)]
      exact Nat.lt_of_lt_of_le (g.size c hc) hbw.size
    · rw [upd_same]; exact hgb
  · intro i q hq
    have h1 := g.frame i q hq
    have hlt : i < w.heap.size := (Array.getElem?_eq_some_iff.1 h1).1
    rw [hbw.block i hlt]; exact h1
  · intro c hc
    rcases hal c hc with rfl | ⟨hc1, hc2⟩
    · rw [upd_same]
      cases hq : Fm gb with
      | none => rfl
      | some q =>
        have := (Array.getElem?_eq_some_iff.1 (g.frame _ q hq)).1
        omega
    · rw [upd_other _ _ hc1]; exact g.apart c hc2

/-! ### Plain lists -/

theorem insSort_perm (x : Int) : ∀ l : List Int, (insSort x l).Perm (x :: l)
  | [] => .refl _
  | y :: r => by
    have e : insSort x (y :: r) = ifB (ltA y x) (y :: insSort x r) (x :: y :: r) := rfl
    rw [e]
    cases ltA y x with
    | true => exact ((insSort_perm x r).cons y).trans (.swap x y r)
    | false => exact .refl _

theorem sortI_perm : ∀ l : List Int, (sortI l).Perm l
  | [] => .refl _
  | x :: l => (insSort_perm x (sortI l)).trans ((sortI_perm l).cons x)

theorem strictFrom_of : ∀ {l : List Int} {x : Int}, strictFrom l x = true → (x :: l).Pairwise (· < ·)
  | [], x, _ => List.pairwise_singleton _ _
  | y :: l, x, h => by
    have e : strictFrom (y :: l) x = (ltA x y && strictFrom l y) := rfl
    rw [e, Bool.and_eq_true, ltA_eq, decide_eq_true_eq] at h
    have k := strictFrom_of h.2
    refine List.pairwise_cons.2 ⟨fun z hz => ?_, k⟩
    rcases List.mem_cons.1 hz with rfl | hz
    · exact h.1
    · have := (List.pairwise_cons.1 k).1 z hz
      omega

theorem strictA_of {l : List Int} (h : strictA l = true) : l.Pairwise (· < ·) := by
  cases l with
  | nil => exact .nil
  | cons x l => exact strictFrom_of h

/-- A list that is sorted strictly is the sorted one of what it was made of. -/
theorem sorted_is {l : List Int} (h : strictA (sortI l) = true) : l.mergeSort leI = sortI l ∧ l.Nodup := by
  have k := strictA_of h
  refine ⟨?_, ?_⟩
  · rw [mergeSort_of_perm_i (sortI_perm l).symm]
    refine List.mergeSort_of_pairwise (k.imp fun {a b} hab => ?_)
    simp only [leI, decide_eq_true_eq]
    omega
  · have : (sortI l).Nodup := k.imp fun {a b} hab => by omega
    exact (sortI_perm l).nodup_iff.1 this

theorem intKeysA_of : ∀ {es : List (AV × AV × Nat)} {l : List Int}, intKeysA es = some l → es.map (·.1) = l.map fun n => AV.int .i64 n
  | [], l, h => by cases h; rfl
  | e :: es, l, h => by
    have e1 : intKeysA (e :: es) = (match e.1 with | .int .i64 n => oB (intKeysA es) fun l => some (n :: l) | _ => none) := rfl
    rw [e1] at h
    split at h
    · rename_i n hn
      (have ⟨r, h1, hNew⟩ := oB_of h; replace h := hNew; clear hNew)
      cases h
      simp [intKeysA_of h1, hn]
    · cases h

theorem stampsA_of {clock : Nat} : ∀ {es : List (AV × AV × Nat)} {lo : Nat}, stampsA clock es lo = true → (∀ e ∈ es, lo ≤ e.2.2 ∧ e.2.2 < clock) ∧ (es.map (·.2.2)).Pairwise (· < ·)
  | [], lo, _ => ⟨by simp, .nil⟩
  | e :: es, lo, h => by
    have e1 : stampsA clock (e :: es) lo = (Nat.ble lo e.2.2 && (Nat.blt e.2.2 clock && stampsA clock es (Nat.succ e.2.2))) := rfl
    rw [e1] at h
    simp only [Bool.and_eq_true, nble, nblt, decide_eq_true_eq] at h
    obtain ⟨h1, h2, h3⟩ := h
    obtain ⟨k1, k2⟩ := stampsA_of h3
    refine ⟨fun x hx => ?_, ?_⟩
    · rcases List.mem_cons.1 hx with rfl | hx
      · exact ⟨h1, h2⟩
      · have := k1 x hx
        exact ⟨by omega, this.2⟩
    · rw [List.map_cons]
      refine List.pairwise_cons.2 ⟨fun z hz => ?_, k2⟩
      obtain ⟨x, hx, rfl⟩ := List.mem_map.1 hz
      have := k1 x hx
      omega

theorem wfI_of {n : Int} (h : wfI n = true) : -9223372036854775808 ≤ n ∧ n ≤ 9223372036854775807 := by
  cases n with
  | ofNat n => simp only [wfI, nblt, decide_eq_true_eq] at h; refine ⟨?_, ?_⟩ <;> (show _ ≤ _) <;> (rw [show Int.ofNat n = (n : Int) from rfl]; omega)
  | negSucc n => simp only [wfI, nblt, decide_eq_true_eq] at h; exact ⟨by omega, by omega⟩

/-! ### The contracts -/

/-- A map's block with just these numbers as keys. -/
def KeysAt (w : World) (b : Nat) (l : List Int) : Prop :=
  ∃ es clock, w.heap[b]? = some (.map es clock) ∧ Stamped es clock ∧ es.toList.map (·.key) = l.map (Value.int .i64) ∧ l.Nodup ∧ (∀ n ∈ l, -9223372036854775808 ≤ n ∧ n ≤ 9223372036854775807) ∧ l.length ≤ 1000000

/-- What an iterator over a map's keys has captured. -/
def Captured (w : World) (Bm : Nat) (l : List Int) : Prop :=
  Bm < w.heap.size ∧ ((w.cell? ⟨Bm, 0, none⟩ = some (.map none) ∧ l = []) ∨ ∃ b, w.cell? ⟨Bm, 0, none⟩ = some (.map (some b)) ∧ KeysAt w b l)

/-- What slices.Sorted and slices.Collect do with such iterators. -/
structure KeysLaw (K : Ids) : Prop where
  sorted : ∀ g ∈ K.its, ∀ (w : World) (Bm : Nat) (l : List Int), Captured w Bm l →
    CallsIn Fence.wide 0 PP K.sorted #[.func (.func g) #[] #[.pointer (some ⟨Bm, 0, none⟩)]] w fun e w' => ∃ v, e = .returned v ∧ w'.ownsRow w.heap.size K.intT 1 v l.length ((l.mergeSort leI).map encZ) ∧ (v = .slice none 0 0 ↔ l = []) ∧ Below w.heap.size w w'
  collect : ∀ g ∈ K.its, ∀ (w : World) (Bm : Nat) (l : List Int), Captured w Bm l → l.length ≤ 1 →
    CallsIn Fence.wide 0 PP K.collect #[.func (.func g) #[] #[.pointer (some ⟨Bm, 0, none⟩)]] w fun e w' => ∃ v, e = .returned v ∧ w'.ownsRow w.heap.size K.intT 1 v l.length (l.map encZ) ∧ (v = .slice none 0 0 ↔ l = []) ∧ Below w.heap.size w w'

theorem memN_mem {f : Nat} : ∀ {l : List Nat}, memN f l = true → f ∈ l
  | [], h => by cases h
  | a :: l, h => by
    replace h : ifB (Nat.beq f a) true (memN f l) = true := h
    cases e : Nat.beq f a with
    | true => simp [Nat.eq_of_beq_eq_true e]
    | false => rw [e, ifB_false] at h; simp [memN_mem h]

theorem allL_mem {α : Type} {p : α → Bool} {l : List α} (h : allL p l = true) : ∀ x ∈ l, p x = true := by
  rw [allL_eq, List.all_eq_true] at h
  exact h

theorem keysOfA_of {its : List FuncId} {args : List AV} {l : List Int} (h : keysOfA its s args = some l) (g : Good B Fm σ D s w) :
    (∃ f ∈ its, ∃ Bm, (concL σ args).toArray = #[.func (.func f) #[] #[.pointer (some ⟨Bm, 0, none⟩)]] ∧ Captured w Bm l) ∧ l.mergeSort leI = sortI l := by
  unfold keysOfA at h
  split at h
  · rename_i f b
    (have ⟨h0, hNew⟩ := gd_of h; replace h := hNew; clear hNew)
    (have ⟨r, h1, hNew⟩ := oB_of h; replace h := hNew; clear hNew)
    have hf := memN_mem h0
    obtain ⟨hd, c, fr, q1, q2⟩ := g.row h1
    have hlt : (σ b).b < w.heap.size := (Array.getElem?_eq_some_iff.1 q1).1
    have harg : (concL σ [AV.fn f [] [.ptr b 0]]).toArray = #[.func (.func f) #[] #[.pointer (some ⟨(σ b).b, 0, none⟩)]] := by simp [concL, conc]
    split at h
    · rename_i m hc
      (have ⟨q, h2, hNew⟩ := oB_of h; replace h := hNew; clear hNew)
      (have ⟨l', h3, hNew⟩ := oB_of h; replace h := hNew; clear hNew)
      (have ⟨h4, hNew⟩ := gd_of h; replace h := hNew; clear hNew)
      cases h
      simp only [Bool.and_eq_true, nble, decide_eq_true_eq, lenL_eq] at h4
      obtain ⟨k1, k2, k3, k4⟩ := h4
      obtain ⟨p1, p2⟩ := sorted_is k3
      obtain ⟨c1, _⟩ := g.cell h1 (i := 0) (v := .mp m) (by rw [hc]; rfl)
      refine ⟨⟨f, hf, (σ b).b, harg, hlt, .inr ⟨(σ m).b, c1, ?_⟩⟩, p1⟩
      obtain ⟨hd', ob, r1, r2⟩ := g.heap m _ (mapAt_of h2) (by simp)
      cases ob <;> simp only [ORel] at r2
      rename_i ces ck
      obtain ⟨rfl, r3, _⟩ := r2
      obtain ⟨s1, s2⟩ := stampsA_of k1
      have hkeys := intKeysA_of h3
      have hk : ces.toList.map (·.key) = l.map (Value.int .i64) := by
        have := congrArg (List.map (conc σ)) hkeys
        rw [List.map_map, List.map_map] at this
        rw [r3, List.map_map]
        refine Eq.trans (Eq.trans ?_ this) ?_
        · exact List.map_congr_left fun e _ => rfl
        · exact List.map_congr_left fun e _ => by simp [conc]
      refine ⟨ces, _, r1, (Go.MapKept.stamped_iff _ _).2 ⟨fun x hx => ?_, ?_, ?_⟩, hk, p2, fun n hn => wfI_of (allL_mem k2 n hn), k4⟩
      · rw [r3] at hx
        obtain ⟨e, he, rfl⟩ := List.mem_map.1 hx
        exact (s1 e he).2
      · rw [r3, List.map_map]
        have : (q.1.map ((·.born) ∘ entry σ)) = q.1.map (·.2.2) := List.map_congr_left fun e _ => rfl
        rw [this]
        exact s2.imp fun {a b} hab => by omega
      · have : (ces.toList.map (·.key)).Pairwise (· ≠ ·) := by
          rw [hk]
          exact List.pairwise_map.2 (p2.imp fun {a b} hab => by simpa using hab)
        exact List.pairwise_map.1 this
    · rename_i hc
      cases h
      obtain ⟨c1, _⟩ := g.cell h1 (i := 0) (v := .nilm) (by rw [hc]; rfl)
      exact ⟨⟨f, hf, (σ b).b, harg, hlt, .inl ⟨c1, rfl⟩⟩, by simp [sortI]⟩
    · cases h
  · cases h

theorem intCells_eq : ∀ l : List Int, intCells l = l.map fun n => AV.int .i64 n
  | [] => rfl
  | x :: l => by
    show AV.int .i64 x :: intCells l = _
    rw [intCells_eq l]; rfl

/-- A row that the library made. -/
theorem rowOf_of {e : TypeId} {l : List Int} {p : AV × St} (h : rowOf s e l = some p) (g : Good B Fm σ D s w) {v : Value} {w' : World} (hb : Below w.heap.size w w') (ho : w'.ownsRow w.heap.size e 1 v l.length (l.map encZ)) (hn : v = .slice none 0 0 ↔ l = []) :
    Ret B Fm σ D p (.returned v) w' := by
  cases l with
  | nil =>
    cases h
    rw [hn.2 rfl]
    exact ⟨σ, D, by simp [conc], g.belowW hb, Ext.refl _ _, by simp [On]⟩
  | cons x r =>
    replace h : (oB (s.new (.cells ⟨intCells (x :: r), e, true, 0, false⟩)) fun p => some (AV.sl p.1 0 (lenL (x :: r)) (.op 1), p.2)) = some p := h
    (have ⟨q, h1, hNew⟩ := oB_of h; replace h := hNew; clear hNew)
    cases h
    obtain ⟨nb, s'⟩ := q
    obtain ⟨ht, hnb, hs'⟩ := new_of h1
    obtain ⟨hlen, hv | ⟨gb, cap, cur, rfl, hge, hgb, hc1, hc2, hc3, hc4⟩⟩ := ho
    · exact absurd (hn.1 hv.1) (by simp)
    · have hpre : ∀ (i : Nat) (u : AV), (intCells (x :: r))[i]? = some u → cur[i]? = some (conc (upd σ s.nx ⟨gb, cur.size⟩) u) := by
        intro i u hi
        rw [intCells_eq, List.getElem?_map, Option.map_eq_some_iff] at hi
        obtain ⟨n, hn1, rfl⟩ := hi
        have h2 : ((x :: r).map encZ)[i]? = some (encZ n) := by rw [List.getElem?_map, hn1]; rfl
        rw [← hc4, List.getElem?_take] at h2
        split at h2
        · rw [Array.getElem?_toList] at h2
          rw [h2]; simp [conc, encZ]
        · cases h2
      have hlen' : (intCells (x :: r)).length = (x :: r).length := by rw [intCells_eq, List.length_map]
      have hgood := g.place hb (n := cur.size) h1 hge hgb ⟨rfl, rfl, by simp only; rw [hlen']; omega, (fun h => by cases h), hpre, by
        rw [intCells_eq, onL_iff]; intro u hu; obtain ⟨n, _, rfl⟩ := List.mem_map.1 hu; simp [On], (fun i _ _ h => by simp at h), fun _ => .inl rfl⟩
      refine ⟨_, _, ?_, hgood, ext_upd g.fresh, by simp only [On, hnb]; exact .inr rfl⟩
      simp only [conc, capOf, hnb, upd_same, lenL_eq, hc3, Nat.mul_one, Nat.sub_zero, Nat.div_one]

theorem sortedA_of {K : Ids} (hK : KeysLaw K) {args : List AV} {l : List Int} {p : AV × St} (h : keysOfA K.its s args = some l) (hp : rowOf s K.intT (sortI l) = some p) (g : Good B Fm σ D s w) :
    CallsIn Fence.wide 0 PP K.sorted (concL σ args).toArray w (Ret B Fm σ D p) := by
  obtain ⟨⟨f, hf, Bm, ha, hc⟩, hs⟩ := keysOfA_of h g
  rw [ha]
  refine (hK.sorted f hf w Bm l hc).mono fun e w' ⟨v, h1, h2, h3, h4⟩ => ?_
  subst h1
  rw [hs] at h2
  have hl : l.length = (sortI l).length := (sortI_perm l).length_eq.symm
  rw [hl] at h2
  refine rowOf_of hp g h4 h2 (h3.trans ⟨fun e => by rw [e]; rfl, fun e => ?_⟩)
  have := hl
  rw [e] at this
  exact List.length_eq_zero_iff.1 this

theorem atMost1_of {l r : List Int} (h : atMost1 l = some r) : r = l ∧ l.length ≤ 1 := by
  cases l with
  | nil => cases h; simp
  | cons x l =>
    cases l with
    | nil => cases h; simp
    | cons y l => cases h

theorem collectA_of {K : Ids} (hK : KeysLaw K) {args : List AV} {l r : List Int} {p : AV × St} (h : keysOfA K.its s args = some l) (h1 : atMost1 l = some r) (hp : rowOf s K.intT r = some p) (g : Good B Fm σ D s w) :
    CallsIn Fence.wide 0 PP K.collect (concL σ args).toArray w (Ret B Fm σ D p) := by
  obtain ⟨⟨f, hf, Bm, ha, hc⟩, _⟩ := keysOfA_of h g
  obtain ⟨rfl, hl⟩ := atMost1_of h1
  rw [ha]
  refine (hK.collect f hf w Bm r hc hl).mono fun e w' ⟨v, h1, h2, h3, h4⟩ => ?_
  subst h1
  exact rowOf_of hp g h4 h2 h3

end
end Go.Ev
