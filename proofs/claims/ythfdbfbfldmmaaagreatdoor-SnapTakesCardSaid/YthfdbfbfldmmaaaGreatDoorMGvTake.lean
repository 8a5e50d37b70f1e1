/-
  Words that the walks share: what a call comes to that leaves all that was there. Steps in a drawn region, in short words. Words for memory: what is kept outside of some blocks; a block known whole; a slice that reads as cells. Rows of cells written in part. Numbers, texts and readers of bytes, as plain functions on lists of bytes: what package num lays is read as it was. Texts in their order, byte by byte; pairs that rise. Items of a leaf and children of a branch, as plain data: what they are laid as, how it is read, which are right. A tree of pages, as a relation between what the pages hold and the pairs that they are. Where a key stands among items, and below which child; items with one more, or one less; the best part in two. Parts of slices. append of a slice that reads as cells, nil or not, onto a row of one's own. append of a slice that reads as cells, nil or not, onto a row of one's own: as one operation of a drawn region. A slice that may be nil is appended to a row; where the row lies behind it. Code that sends, receives or selects without waiting, walked beside code that does not. A load that no other operation of a drawn region turns is taken first.
-/
import Derived.Test.YthfdbfbfldmmaaaGreatDoorProg
import Derived.WalkKit
import Derived.Outline
import Derived.Lib.Hide
import Derived.Deep.RegionHeld3
import Derived.RegionTactic
import Derived.Below
import Derived.Laws.OwnMore
import Derived.Deep.Draws
import Derived.Laws.IdiomCopy
import Derived.Lib.Varint
import Derived.Lib.VarintDec
import Derived.Lib.Zigzag
import GoSem.Op.String
import Derived.Laws.AppendOwnNone
import Derived.Conc.LoneSelect
import Derived.Tactics
set_option linter.unusedVariables false
set_option linter.unusedSimpArgs false
set_option linter.unusedVariables false
set_option linter.unusedSimpArgs false
namespace Go.Ev
open Go.Proofs Go.RowKit
def TrueB (w : World) (e : Ending) (w' : World) : Prop := e = .returned (.bool true) ∧ Below w.heap.size w w'
theorem bel_then {w a c : World} (h : Below w.heap.size w a) (k : Below a.heap.size a c) : Below w.heap.size w c := h.trans (k.mono h.size)
theorem bel_alloc {w a : World} (h : Below w.heap.size w a) (o : Obj) : Below w.heap.size w (a.alloc o) := h.alloc h.size o
theorem bcell {W w1 : World} (hb : Below W.heap.size W w1) : (∀ b o, b < W.heap.size → w1.cell? ⟨b, o, none⟩ = W.cell? ⟨b, o, none⟩) ∧ (∀ b o, b < W.heap.size → w1.frozen? ⟨b, o, none⟩ = W.frozen? ⟨b, o, none⟩) :=
  ⟨fun b o h => hb.cell (p := ⟨b, o, none⟩) h, fun b o h => hb.frozen (p := ⟨b, o, none⟩) h⟩
end Go.Ev

namespace Go.Ev
theorem lT {α : Type} (l : List α) (i : Nat) (a : α) : l.toArray.setIfInBounds i a = (l.set i a).toArray := List.setIfInBounds_toArray l i a
theorem l0 {α : Type} (a b : α) (l : List α) : (a :: l).set 0 b = b :: l := rfl
theorem lS {α : Type} (a b : α) (l : List α) (n : Nat) : (a :: l).set (n + 1) b = a :: l.set n b := rfl
section
variable {P : Program} {ops : Array Oper} {Q : Exit → Act → World → Prop} {md : Region.Mode} {d : Option Tmp} {op : Op} {t : TypeId} {ps : String} {af : Array Edge} {g : Option (Tmp × Bool)} {fuel : Nat} {listed : Array Bool} {a : Act} {w : World} {v : Value}
theorem tk (i : Nat) (hi : ops[i]? = some ⟨d, op, t, ps, af, g⟩) (hc : (Region.noSelect ops && Region.free md ops listed i && (Region.ready md ops listed).contains i) = true)
    (hQ : ∀ c a w, Q (.panic c) (a.put d v) w → Q (.panic c) a w) (hw : Region.wanted ⟨d, op, t, ps, af, g⟩ (yielded ops a.tmps) = true) (hy : ∀ w, (execOp a.eval ⟨d, op, t, ps, af, g⟩).run P w = .ok (.value v) w)
    (h : wpAny P md ops Q fuel (listed.setIfInBounds i true) (a.put d v) w) : wpAny P md ops Q (fuel + 1) listed a w := by
  simp only [Bool.and_eq_true] at hc
  exact wpAny_take hi hc.1.1 hc.1.2 hc.2 hQ (.inl ⟨hw, hy⟩) h
theorem sk (i : Nat) (hi : ops[i]? = some ⟨d, op, t, ps, af, g⟩) (hc : (Region.noSelect ops && Region.free md ops listed i && (Region.ready md ops listed).contains i) = true)
    (hQ : ∀ c a w, Q (.panic c) (a.put d undef) w → Q (.panic c) a w) (hw : Region.wanted ⟨d, op, t, ps, af, g⟩ (yielded ops a.tmps) = false)
    (h : wpAny P md ops Q fuel (listed.setIfInBounds i true) (a.put d undef) w) : wpAny P md ops Q (fuel + 1) listed a w := by
  simp only [Bool.and_eq_true] at hc
  exact wpAny_take hi hc.1.1 hc.1.2 hc.2 hQ (.inr ⟨hw, rfl⟩) h
theorem rd (i : Nat) (hr : Region.ready md ops listed = [i]) (hi : ops[i]? = some ⟨d, op, t, ps, af, g⟩)
    (h : ∀ K' : Act → World → Prop, (∀ a w, wpAny P md ops Q fuel (listed.setIfInBounds i true) a w → K' a w) → if Region.wanted ⟨d, op, t, ps, af, g⟩ (yielded ops a.tmps) = true then Oper.wp P ⟨d, op, t, ps, af, g⟩ a w K' Q else K' (a.put d undef) w) :
    wpAny P md ops Q (fuel + 1) listed a w := wpAny_ready hr (by simp) (AllReady.cons hi h AllReady.nil)
end
end Go.Ev

namespace Go.Ev
open Go.RowKit
structure Keeps (S : Nat → Prop) (w w' : World) : Prop where
  os : w'.os = w.os
  tape : w'.tape = w.tape
  output : w'.output = w.output
  size : w.heap.size ≤ w'.heap.size
  block : ∀ k, k < w.heap.size → ¬ S k → w'.heap[k]? = w.heap[k]?
section
variable {S S' : Nat → Prop} {w a c w' : World}
theorem Keeps.refl (S : Nat → Prop) (w : World) : Keeps S w w := ⟨rfl, rfl, rfl, Nat.le_refl _, fun _ _ _ => rfl⟩
theorem Keeps.trans (h : Keeps S w a) (k : Keeps S' a c) (hs : ∀ i, i < w.heap.size → S' i → S i) : Keeps S w c :=
  ⟨k.os.trans h.os, k.tape.trans h.tape, k.output.trans h.output, Nat.le_trans h.size k.size, fun i hi hn => (k.block i (Nat.lt_of_lt_of_le hi h.size) fun hh => hn (hs i hi hh)).trans (h.block i hi hn)⟩
theorem Keeps.mono (h : Keeps S w a) (hs : ∀ i, i < w.heap.size → S i → S' i) : Keeps S' w a := ⟨h.os, h.tape, h.output, h.size, fun i hi hn => h.block i hi fun hh => hn (hs i hi hh)⟩
theorem Keeps.of_below (h : Below w.heap.size w a) : Keeps S w a := ⟨h.os, h.tape, h.output, h.size, fun i hi _ => h.block i hi⟩
theorem Keeps.below {B : Nat} (h : Keeps S w a) (hB : B ≤ w.heap.size) (hs : ∀ i, i < B → ¬ S i) : Below B w a := ⟨h.os, h.tape, h.output, h.size, fun i hi => h.block i (Nat.lt_of_lt_of_le hi hB) (hs i hi)⟩
theorem Keeps.drew (h : Keeps S w a) : Keeps S w a.drew := ⟨h.os, h.tape, h.output, h.size, h.block⟩
theorem Keeps.alloc (h : Keeps S w a) (o : Obj) : Keeps S w (a.alloc o) :=
  ⟨h.os, h.tape, h.output, Nat.le_trans h.size (by simp), fun i hi hn => (Below.heap_alloc a o i (Nat.lt_of_lt_of_le hi h.size)).trans (h.block i hi hn)⟩
theorem Keeps.setCell (h : Keeps S w a) {p : Addr} (hp : p.block < w.heap.size → S p.block) (u : Value) : Keeps S w (a.setCell p u) :=
  ⟨h.os, h.tape, h.output, by simpa [World.setCell] using h.size, fun i hi hn => (Below.heap_setCell a p u i (by rintro rfl; exact hn (hp hi))).trans (h.block i hi hn)⟩
theorem Keeps.grown (h : Keeps S w a) {row : Option Nat} (hg : a.grownBy c row) (hr : ∀ k, row = some k → k < w.heap.size → S k) : Keeps S w c :=
  h.trans (S' := fun k => row = some k) ⟨hg.os, hg.tape, hg.output, hg.size, fun k hk hn => hg.block k hk fun e => hn e.symm⟩ fun i hi e => hr i e hi
theorem Keeps.cell (h : Keeps S w a) {p : Addr} (hp : p.block < w.heap.size) (hn : ¬ S p.block) : a.cell? p = w.cell? p := World.cell?_of_block (h.block p.block hp hn)
theorem Keeps.frozen (h : Keeps S w a) {p : Addr} (hp : p.block < w.heap.size) (hn : ¬ S p.block) : a.frozen? p = w.frozen? p := World.frozen?_of_block (h.block p.block hp hn)
def Blk (w : World) (g : Nat) (t : TypeId) (cs : Array Value) : Prop := w.heap[g]? = some (.cells cs t (0, 0))
variable {g : Nat} {t : TypeId} {cs : Array Value}
theorem Blk.lt (h : Blk w g t cs) : g < w.heap.size := (Array.getElem?_eq_some_iff.1 h).1
theorem Blk.cell (h : Blk w g t cs) (i : Nat) : w.cell? ⟨g, i, none⟩ = cs[i]? := cell_of_row w g i cs t (0, 0) h
theorem Blk.frozen (h : Blk w g t cs) (i : Nat) : w.frozen? ⟨g, i, none⟩ = false := by
  unfold Blk at h
  simp [World.frozen?, h]
theorem Blk.new (w : World) (t : TypeId) (cs : Array Value) : Blk (w.alloc (.cells cs t)) w.heap.size t cs := heap_alloc_new w _
theorem Blk.drew (h : Blk w g t cs) : Blk w.drew g t cs := h
theorem Blk.alloc (h : Blk w g t cs) (o : Obj) : Blk (w.alloc o) g t cs := (Below.heap_alloc w o g h.lt).trans h
theorem Blk.set (h : Blk w g t cs) (i : Nat) (u : Value) : Blk (w.setCell ⟨g, i, none⟩ u) g t (cs.setIfInBounds i u) := by
  unfold Blk at h ⊢
  simp [World.setCell, Array.getElem?_modify, h]
theorem Blk.far (h : Blk w g t cs) {p : Addr} (hp : g ≠ p.block) (u : Value) : Blk (w.setCell p u) g t cs := (Below.heap_setCell w p u g hp).trans h
theorem Blk.keeps (h : Blk w g t cs) (hk : Keeps S w a) (hg : ¬ S g) : Blk a g t cs := (hk.block g h.lt hg).trans h
theorem Blk.below {B : Nat} (h : Blk w g t cs) (hb : Below B w a) (hg : g < B) : Blk a g t cs := (hb.block g hg).trans h
theorem Blk.below' (h : Blk w g t cs) (hb : Below w.heap.size w a) : Blk a g t cs := h.below hb h.lt
theorem Blk.eq {t' : TypeId} {cs' : Array Value} (h : Blk w g t cs) (h' : Blk w g t' cs') : t = t' ∧ cs = cs' := by
  unfold Blk at h h'
  rw [h] at h'
  simpa [and_comm] using h'
def Sl (w : World) (z : Nat) (v : Value) (n : Nat) (cs : List Value) : Prop :=
  ∃ A c, v = .slice A n c ∧ n ≤ c ∧ cs.length = n * z ∧ (0 < n → ∃ b o, A = some ⟨b, o, none⟩ ∧ b < w.heap.size ∧ ∀ j u, cs[j]? = some u → w.cell? ⟨b, o + j, none⟩ = some u)
variable {z n : Nat} {v : Value} {xs : List Value}
theorem Sl.nil (w : World) (z c : Nat) (A : Option Addr) : Sl w z (.slice A 0 c) 0 [] := ⟨A, c, rfl, Nat.zero_le _, by simp, fun h => absurd h (by omega)⟩
theorem Sl.keeps (h : Sl w z v n xs) (hk : Keeps S w a) (hs : ∀ A m c b o, v = .slice A m c → A = some ⟨b, o, none⟩ → ¬ S b) : Sl a z v n xs := by
  obtain ⟨A, c, rfl, h0, h1, h2⟩ := h
  refine ⟨A, c, rfl, h0, h1, fun hn => ?_⟩
  obtain ⟨b, o, rfl, h4, h5⟩ := h2 hn
  exact ⟨b, o, rfl, Nat.lt_of_lt_of_le h4 hk.size, fun j u hu => (hk.cell (p := ⟨b, o + j, none⟩) h4 (hs _ _ _ b o rfl rfl)).trans (h5 j u hu)⟩
theorem Sl.below (h : Sl w z v n xs) (hb : Below w.heap.size w a) : Sl a z v n xs := h.keeps (S := fun _ => False) (Keeps.of_below hb) fun _ _ _ _ _ _ _ h => h
theorem Sl.alloc (h : Sl w z v n xs) (o : Obj) : Sl (w.alloc o) z v n xs := h.below ((Below.refl _ _).alloc (Nat.le_refl _) o)
theorem Sl.drew (h : Sl w z v n xs) : Sl w.drew z v n xs := h
theorem own_keeps {base : Nat} {e : TypeId} (h : w.ownsRow base e z v n xs) (hk : Keeps S w a) (hS : ∀ k, v.ownBlock = some k → ¬ S k) : a.ownsRow base e z v n xs := by
  refine ⟨h.1, ?_⟩
  rcases h.2 with hn | ⟨g, cap, cur, rfl, hb, hg, rest⟩
  · exact .inl hn
  · exact .inr ⟨g, cap, cur, rfl, hb, (hk.block g (Array.getElem?_eq_some_iff.1 hg).1 (hS g rfl)).trans hg, rest⟩
theorem own_ne {base : Nat} {e : TypeId} (h : w.ownsRow base e z v n xs) (hb : Blk w g t cs) (ht : t ≠ e) : ∀ k, v.ownBlock = some k → k ≠ g := by
  rintro k hk rfl
  rcases h.2 with ⟨rfl, _⟩ | ⟨g', cap, cur, rfl, _, hg, _⟩
  · cases hk
  · simp only [Value.ownBlock, Option.some.injEq] at hk
    subst hk
    unfold Blk at hb
    rw [hb] at hg
    simp only [Option.some.injEq, Obj.cells.injEq] at hg
    exact ht hg.2.1
theorem Sl.of_own {base : Nat} {e : TypeId} (h : w.ownsRow base e z v n xs) : Sl w z v n xs := by
  obtain ⟨h1, ⟨rfl, rfl⟩ | ⟨g, cap, cur, rfl, hb, hh, hn, hm, hs, hx⟩⟩ := h
  · have : xs = [] := List.eq_nil_of_length_eq_zero (by simpa using h1)
    subst this
    exact Sl.nil ..
  · refine ⟨_, _, rfl, hn, h1, fun _ => ⟨g, 0, rfl, (Array.getElem?_eq_some_iff.1 hh).1, fun j u hu => ?_⟩⟩
    rw [Nat.zero_add, cell_of_row w g j cur e (0, 0) hh, ← hx] at *
    rw [List.getElem?_take] at hu
    split at hu
    · simpa using hu
    · cases hu
end
end Go.Ev

namespace Go.Ev
open Go.RowKit
theorem Keeps.setCells {S : Nat → Prop} {w a : World} (h : Keeps S w a) {b : Nat} (hb : b < w.heap.size → S b) : ∀ (vs : List Value) (o : Nat), Keeps S w (a.setCells b o vs)
  | [], _ => h
  | v :: vs, o => Keeps.setCells (a := a.setCell ⟨b, o, none⟩ v) (h.setCell (p := ⟨b, o, none⟩) hb v) hb vs (o + 1)
end Go.Ev

namespace Go.Ev
open Go.Lib
abbrev Bytes := List UInt8
end Go.Ev

namespace Go.Ev
abbrev lessB (a b : List UInt8) : Bool := Op.bytesLess a b
abbrev Pair := List UInt8 × List UInt8
end Go.Ev

namespace Go.Ev
open Go.Lib
structure Item where
  key : Bytes
  val : Bytes
  over : Int
  size : Int
deriving DecidableEq, Inhabited
structure Child where
  key : Bytes
  page : Int
deriving DecidableEq, Inhabited
def inB (n least most : Int) : Bool := decide (least ≤ n) && decide (n ≤ most)
def Item.right (x : Item) : Bool :=
  inB x.key.length 1 40 &&
  if x.over = 0 then decide (x.size = 0) && decide (x.val.length ≤ 60)
  else inB x.over 1 4294967295 && inB x.size 61 2000 && x.val.isEmpty
def Child.fit (x : Child) : Bool := decide (2 ≤ x.page) && decide (x.page ≤ 4294967295) && decide (x.key.length ≤ 40)
end Go.Ev

namespace Go.Ev
structure Pg where
  kind : Int
  next : Int
  body : Bytes
deriving DecidableEq, Inhabited
abbrev Store := Int → Option Pg
end Go.Ev

namespace Go.Ev
def ahead (k : Bytes) : List Item → Nat
  | [] => 0
  | x :: l => if lessB x.key k then ahead k l + 1 else 0
def below (k : Bytes) : List Child → Nat
  | [] => 0
  | c :: l => if lessB k c.key then 0 else below k l + 1
end Go.Ev

namespace Go.Ev
open Go.RowKit
theorem Sl.take {w : World} {z n c : Nat} {A : Option Addr} {xs : List Value} (h : Sl w z (.slice A n c) n xs) {i : Nat} (hi : i ≤ n) : Sl w z (.slice A i c) i (xs.take (i * z)) := by
  obtain ⟨A', c', e, h0, h1, h2⟩ := h
  cases e
  have hm : i * z ≤ n * z := Nat.mul_le_mul_right _ hi
  refine ⟨A, c, rfl, by omega, by rw [List.length_take]; omega, fun hp => ?_⟩
  obtain ⟨b, o, h3, h4, h5⟩ := h2 (by omega)
  refine ⟨b, o, h3, h4, fun j u hu => h5 j u ?_⟩
  rw [List.getElem?_take] at hu
  split at hu
  · exact hu
  · cases hu
theorem Sl.drop {w : World} {z n c b o : Nat} {xs : List Value} (h : Sl w z (.slice (some ⟨b, o, none⟩) n c) n xs) {i : Nat} (hi : i ≤ n) : Sl w z (.slice (some ⟨b, o + i * z, none⟩) (n - i) (c - i)) (n - i) (xs.drop (i * z)) := by
  obtain ⟨A', c', e, h0, h1, h2⟩ := h
  cases e
  have hm : i * z ≤ n * z := Nat.mul_le_mul_right _ hi
  refine ⟨_, _, rfl, by omega, by rw [List.length_drop, h1, Nat.sub_mul], fun hp => ?_⟩
  obtain ⟨b', o', h3, h4, h5⟩ := h2 (by omega)
  cases h3
  refine ⟨_, _, rfl, h4, fun j u hu => ?_⟩
  rw [List.getElem?_drop] at hu
  have := h5 _ u hu
  rwa [← Nat.add_assoc] at this
end Go.Ev

namespace Go.Ev
open Go.RowKit
theorem addr_add (b o j : Nat) : (⟨b, o, none⟩ : Addr).add j = ⟨b, o + j, none⟩ := by cases j <;> simp [Addr.add]
theorem wpList_append_sl {P : Program} {w : World} {ops : Array Oper} {rest : List Oper} {o : Oper} {a : Act} {Q : Exit → Act → World → Prop} (hgd : o.guard = none) (s x : Operand) (t : TypeId)
    (ho : o.op = .call { callee := .builtin .append, args := #[s, x], argTypes := #[t, t] })
    (base : Nat) (e : TypeId) (i : TypeInfo) (z : Value) (size bytes : Nat) (ht : P.underlying t = some (.slice e)) (hi : P.info? e = some i) (hz : i.zero = some z)
    (hsize : i.size = size) (hby : i.bytes = bytes) (hzs : z.cells.size = size) (hsz : 0 < size)
    (v : Value) (n : Nat) (xs : List Value) (hs : a.eval s = v) (hown : w.ownsRow base e size v n xs)
    (A : Option Addr) (m c : Nat) (news : List Value) (hx : a.eval x = .slice A m c) (hsl : Sl w size (.slice A m c) m news) (hA : A = none → c = 0) (h1 : ∀ u ∈ news, u.oneCell' = true)
    (h63 : n + m ≤ maxLen) (hbytes : (n + m) * bytes ≤ 140737488355328) (hbase : base ≤ w.heap.size)
    (h : ∀ v' w', w'.ownsRow base e size v' (n + m) (xs ++ news) → w.grownBy w' v.ownBlock → wpList P ops Q rest (a.put o.dst v') w') : wpList P ops Q (o :: rest) a w := by
  obtain ⟨A', c', e0, h0, h2, h3⟩ := hsl
  cases e0
  cases A with
  | none =>
    have hm : m = 0 := by
      by_cases hp : 0 < m
      · obtain ⟨_, _, he, _⟩ := h3 hp; cases he
      · omega
    subst hm
    have hc := hA rfl
    subst hc
    have hn : news = [] := List.eq_nil_of_length_eq_zero (by simpa using h2)
    subst hn
    refine wpList_append_own_none hgd s x t ho base e i size ht hi v n xs hs hown hx (h v w ?_ ⟨rfl, rfl, rfl, Nat.le_refl _, fun _ _ _ => rfl⟩)
    simpa using hown
  | some ad =>
    refine wpList_append_own w hgd s x t ho base e i z size bytes ht hi hz hsize hby hzs hsz v n xs hs hown ad m c news hx h2 (fun j u hu => ?_) h1 h63 hbytes hbase fun v' w' h4 h5 _ => h v' w' h4 h5
    have hj := (List.getElem?_eq_some_iff.1 hu).1
    have hm : 0 < m := by
      cases m with
      | zero => rw [h2] at hj; simp at hj
      | succ m => omega
    obtain ⟨b, o', he, _, h6⟩ := h3 hm
    cases he
    rw [addr_add]
    exact h6 j u hu
theorem append_where {P : Program} {w w' : World} {base : Nat} {t ty e : TypeId} {i : TypeInfo} {z : Value} {size bytes : Nat} (ht : P.underlying t = some (.slice e)) (hi : P.info? e = some i) (hz : i.zero = some z)
    (hsize : i.size = size) (hby : i.bytes = bytes) (hsz : 0 < size) {v v' : Value} {n : Nat} {xs : List Value} (hown : w.ownsRow base e size v n xs)
    {a : Addr} {m c : Nat} {news : List Value} (hl : news.length = m * size) (hnews : ∀ j u, news[j]? = some u → w.cell? (a.add j) = some u) (h1 : ∀ u ∈ news, u.oneCell' = true)
    (h63 : n + m ≤ maxLen) (hbytes : (n + m) * bytes ≤ 140737488355328) (hr : (Builtin.append_ #[t, t] ty #[v, .slice (some a) m c]).run P w = .ok v' w') :
    ∀ k, v'.ownBlock = some k → v.ownBlock = some k ∨ w.heap.size ≤ k := by
  subst hsize hby
  unfold maxLen at h63
  rcases hown.2 with ⟨rfl, rfl⟩ | ⟨g, cap, cur, rfl, hbg, hg, hnc, hcm, hcs, htake⟩
  · by_cases hm : m = 0
    · subst hm
      have : (Builtin.append_ #[t, t] ty #[.slice none 0 0, .slice (some a) 0 c]).run P w = .ok (.slice none 0 0) w := by
        simp [Builtin.append_, run_underlying ht, sizeOf, typeInfo, hi, Builtin.lenOf, Builtin.firstCells, loadCells, loadCellsFrom]
      rw [this] at hr
      cases hr
      intro k hk
      cases hk
    · rw [run_append_nil (P := P) w t ty e i z ht hi hz a m c news hl hnews (by omega) (by omega) (by have hb := hbytes; simp only [Nat.zero_add] at hb; omega)] at hr
      cases hr
      intro k hk
      simp only [Value.ownBlock, Option.some.injEq] at hk
      omega
  · by_cases hroom : n + m ≤ cap
    · rw [run_append_room (P := P) w t ty e i ht hi g n cap cur hg a m c news hl hnews h1 hroom (by rw [hl, hcs, ← Nat.add_mul]; exact Nat.mul_le_mul_right _ hroom)] at hr
      cases hr
      intro k hk
      exact .inl hk
    · rw [run_append_grow (P := P) w t ty e i z ht hi hz ⟨g, 0, none⟩ n cap xs hown.1 (hown.cells (g := g) rfl) a m c news hl hnews (by omega) (by omega) (growslice_fits (by omega) hbytes)] at hr
      cases hr
      intro k hk
      simp only [Value.ownBlock, Option.some.injEq] at hk
      omega
theorem wp_append_at {P : Program} {w : World} {o : Oper} {a : Act} {K : Act → World → Prop} {Q : Exit → Act → World → Prop} (s x : Operand) (t : TypeId)
    (ho : o.op = .call { callee := .builtin .append, args := #[s, x], argTypes := #[t, t] })
    (base : Nat) (e : TypeId) (i : TypeInfo) (z : Value) (size bytes : Nat) (ht : P.underlying t = some (.slice e)) (hi : P.info? e = some i) (hz : i.zero = some z)
    (hsize : i.size = size) (hby : i.bytes = bytes) (hzs : z.cells.size = size) (hsz : 0 < size)
    (v : Value) (n : Nat) (xs : List Value) (hs : a.eval s = v) (hown : w.ownsRow base e size v n xs)
    (ad : Addr) (m c : Nat) (news : List Value) (hx : a.eval x = .slice (some ad) m c) (hl : news.length = m * size) (hnews : ∀ j u, news[j]? = some u → w.cell? (ad.add j) = some u) (h1 : ∀ u ∈ news, u.oneCell' = true)
    (h63 : n + m ≤ maxLen) (hbytes : (n + m) * bytes ≤ 140737488355328) (hbase : base ≤ w.heap.size)
    (h : ∀ v' w', w'.ownsRow base e size v' (n + m) (xs ++ news) → w.grownBy w' v.ownBlock → (∀ k, v'.ownBlock = some k → v.ownBlock = some k ∨ w.heap.size ≤ k) → K (a.put o.dst v') w') : o.wp P a w K Q := by
  obtain ⟨v', w', hr, h2, h3, h4⟩ := run_append_own (P := P) w base t o.type e i z size bytes ht hi hz hsize hby hzs hsz v n xs hown ad m c news hl hnews h1 h63 hbytes hbase
  have h5 := append_where ht hi hz hsize hby hsz hown hl hnews h1 h63 hbytes hr
  unfold Oper.wp execOp
  simp only [ho, resolve, invoke, builtin, Sem.run_bind, Sem.run_pure, Result.andThen_ok, List.map_toArray, List.map_cons, List.map_nil, hs, hx, hr]
  exact h v' w' h2 h3 h5
theorem wpList_append_at {P : Program} {w : World} {ops : Array Oper} {rest : List Oper} {o : Oper} {a : Act} {Q : Exit → Act → World → Prop} (hgd : o.guard = none) (s x : Operand) (t : TypeId)
    (ho : o.op = .call { callee := .builtin .append, args := #[s, x], argTypes := #[t, t] })
    (base : Nat) (e : TypeId) (i : TypeInfo) (z : Value) (size bytes : Nat) (ht : P.underlying t = some (.slice e)) (hi : P.info? e = some i) (hz : i.zero = some z)
    (hsize : i.size = size) (hby : i.bytes = bytes) (hzs : z.cells.size = size) (hsz : 0 < size)
    (v : Value) (n : Nat) (xs : List Value) (hs : a.eval s = v) (hown : w.ownsRow base e size v n xs)
    (ad : Addr) (m c : Nat) (news : List Value) (hx : a.eval x = .slice (some ad) m c) (hl : news.length = m * size) (hnews : ∀ j u, news[j]? = some u → w.cell? (ad.add j) = some u) (h1 : ∀ u ∈ news, u.oneCell' = true)
    (h63 : n + m ≤ maxLen) (hbytes : (n + m) * bytes ≤ 140737488355328) (hbase : base ≤ w.heap.size)
    (h : ∀ v' w', w'.ownsRow base e size v' (n + m) (xs ++ news) → w.grownBy w' v.ownBlock → (∀ k, v'.ownBlock = some k → v.ownBlock = some k ∨ w.heap.size ≤ k) → wpList P ops Q rest (a.put o.dst v') w') : wpList P ops Q (o :: rest) a w :=
  wpList_plain hgd fun _ hK => wp_append_at s x t ho base e i z size bytes ht hi hz hsize hby hzs hsz v n xs hs hown ad m c news hx hl hnews h1 h63 hbytes hbase fun v' w' h2 h3 h4 => hK _ _ (h v' w' h2 h3 h4)
end Go.Ev

namespace Go.Ev
open Go.RowKit
theorem wp_append_sl {P : Program} {w : World} {o : Oper} {a : Act} {K : Act → World → Prop} {Q : Exit → Act → World → Prop} (s x : Operand) (t : TypeId)
    (ho : o.op = .call { callee := .builtin .append, args := #[s, x], argTypes := #[t, t] })
    (base : Nat) (e : TypeId) (i : TypeInfo) (z : Value) (size bytes : Nat) (ht : P.underlying t = some (.slice e)) (hi : P.info? e = some i) (hz : i.zero = some z)
    (hsize : i.size = size) (hby : i.bytes = bytes) (hzs : z.cells.size = size) (hsz : 0 < size)
    (v : Value) (n : Nat) (xs : List Value) (hs : a.eval s = v) (hown : w.ownsRow base e size v n xs)
    (A : Option Addr) (m c : Nat) (news : List Value) (hx : a.eval x = .slice A m c) (hsl : Sl w size (.slice A m c) m news) (hA : A = none → c = 0) (h1 : ∀ u ∈ news, u.oneCell' = true)
    (h63 : n + m ≤ maxLen) (hbytes : (n + m) * bytes ≤ 140737488355328) (hbase : base ≤ w.heap.size)
    (h : ∀ v' w', w'.ownsRow base e size v' (n + m) (xs ++ news) → w.grownBy w' v.ownBlock → K (a.put o.dst v') w') : o.wp P a w K Q := by
  obtain ⟨A', c', e0, h0, h2, h3⟩ := hsl
  cases e0
  cases A with
  | none =>
    have hm : m = 0 := by
      by_cases hp : 0 < m
      · obtain ⟨_, _, he, _⟩ := h3 hp; cases he
      · omega
    subst hm
    have hc := hA rfl
    subst hc
    have hn : news = [] := List.eq_nil_of_length_eq_zero (by simpa using h2)
    subst hn
    have hrun := run_append_owned_none (P := P) (w := w) base t o.type e i size ht hi v n xs hown
    have hk := h v w (by simpa using hown) ⟨rfl, rfl, rfl, Nat.le_refl _, fun _ _ _ => rfl⟩
    unfold Oper.wp
    simp [execOp, ho, resolve, invoke, builtin, hs, hx, hrun, Result.andThen]
    exact hk
  | some ad =>
    refine wp_append_at s x t ho base e i z size bytes ht hi hz hsize hby hzs hsz v n xs hs hown ad m c news hx h2 (fun j u hu => ?_) h1 h63 hbytes hbase fun v' w' h4 h5 _ => h v' w' h4 h5
    have hj := (List.getElem?_eq_some_iff.1 hu).1
    have hm : 0 < m := by
      cases m with
      | zero => rw [h2] at hj; simp at hj
      | succ m => omega
    obtain ⟨b, o', he, _, h6⟩ := h3 hm
    cases he
    rw [addr_add]
    exact h6 j u hu
end Go.Ev

namespace Go.Ev
open Go.RowKit
theorem wpList_append_slAt {P : Program} {w : World} {ops : Array Oper} {rest : List Oper} {o : Oper} {a : Act} {Q : Exit → Act → World → Prop} (hgd : o.guard = none) (s x : Operand) (t : TypeId)
    (ho : o.op = .call { callee := .builtin .append, args := #[s, x], argTypes := #[t, t] })
    (base : Nat) (e : TypeId) (i : TypeInfo) (z : Value) (size bytes : Nat) (ht : P.underlying t = some (.slice e)) (hi : P.info? e = some i) (hz : i.zero = some z)
    (hsize : i.size = size) (hby : i.bytes = bytes) (hzs : z.cells.size = size) (hsz : 0 < size)
    (v : Value) (n : Nat) (xs : List Value) (hs : a.eval s = v) (hown : w.ownsRow base e size v n xs)
    (A : Option Addr) (m c : Nat) (news : List Value) (hx : a.eval x = .slice A m c) (hsl : Sl w size (.slice A m c) m news) (hA : A = none → c = 0) (h1 : ∀ u ∈ news, u.oneCell' = true)
    (h63 : n + m ≤ maxLen) (hbytes : (n + m) * bytes ≤ 140737488355328) (hbase : base ≤ w.heap.size)
    (h : ∀ v' w', w'.ownsRow base e size v' (n + m) (xs ++ news) → w.grownBy w' v.ownBlock → (∀ k, v'.ownBlock = some k → v.ownBlock = some k ∨ w.heap.size ≤ k) → wpList P ops Q rest (a.put o.dst v') w') : wpList P ops Q (o :: rest) a w := by
  obtain ⟨A', c', e0, h0, h2, h3⟩ := hsl
  cases e0
  cases A with
  | none =>
    have hm : m = 0 := by
      by_cases hp : 0 < m
      · obtain ⟨_, _, he, _⟩ := h3 hp; cases he
      · omega
    subst hm
    have hc := hA rfl
    subst hc
    have hn : news = [] := List.eq_nil_of_length_eq_zero (by simpa using h2)
    subst hn
    have hrun := run_append_owned_none (P := P) (w := w) base t o.type e i size ht hi v n xs hown
    refine wpList_plain hgd fun K hK => ?_
    have hk := hK _ _ (h v w (by simpa using hown) ⟨rfl, rfl, rfl, Nat.le_refl _, fun _ _ _ => rfl⟩ (fun k e => .inl e))
    unfold Oper.wp
    simp [execOp, ho, resolve, invoke, builtin, hs, hx, hrun, Result.andThen]
    exact hk
  | some ad =>
    refine wpList_append_at hgd s x t ho base e i z size bytes ht hi hz hsize hby hzs hsz v n xs hs hown ad m c news hx h2 (fun j u hu => ?_) h1 h63 hbytes hbase h
    have hj := (List.getElem?_eq_some_iff.1 hu).1
    have hm : 0 < m := by
      cases m with
      | zero => rw [h2] at hj; simp at hj
      | succ m => omega
    obtain ⟨b, o', he, _, h6⟩ := h3 hm
    cases he
    rw [addr_add]
    exact h6 j u hu
end Go.Ev

namespace Go.Ev
open Go.Conc Go.RowKit
def wpN (P : Program) (c : Code) (Q : Exit → Act → World → Prop) (a : Act) (w : World) : Prop :=
  ∀ (b : Frame) (k : List Go.Item) (cs : List Frame), b.kind ≠ .early → ∃ e a' w', Q e a' w' ∧ Arrives P (lone (b.at a (.code c :: k)) cs w) b k cs e a' w'
section
variable {P : Program} {Q : Exit → Act → World → Prop} {a : Act} {w : World}
theorem wpN_piece {c : Code} (h : c.wp P Q a w) : wpN P c Q a w := fun b k cs _ => h b k cs
theorem less_item {m : Machine} {b : Frame} {x : Go.Item} {k : List Go.Item} {cs : List Frame} {e : Exit} (hx : x.plain = true) (he : e ≠ .normal)
    (h : Arrives P m b (x :: k) cs e a w) : Arrives P m b k cs e a w := Arrives.pass hx (fun _ _ => .inl he) h
theorem wpN_seq {x y : Code} (h : wpN P x (Exit.then (wpN P y Q) Q) a w) : wpN P (.seq x y) Q a w := fun b k cs hb => by
  obtain ⟨e, a1, w1, hq, har⟩ := h b (.code y :: k) cs hb
  by_cases he : e = .normal
  · subst he
    obtain ⟨e2, a2, w2, hq2, har2⟩ := hq b k cs hb
    exact ⟨e2, a2, w2, hq2, .of_steps (.head step_seq har) har2⟩
  · refine ⟨e, a1, w1, ?_, .of_steps (.one step_seq) (less_item rfl he har)⟩
    cases e <;> first | exact hq | exact absurd rfl he
theorem wpN_block {id : Nat} {c : Code} (h : wpN P c (Exit.inBlock id Q) a w) : wpN P (.block id c) Q a w := fun b k cs hb => by
  obtain ⟨e, a1, w1, hq, har⟩ := h b (.inBlock id :: k) cs hb
  match e, hq, har with
  | .normal, hq, har => exact ⟨.normal, a1, w1, hq, .head step_block (Steps.trans har (.one step_inBlock))⟩
  | .exit i, hq, har =>
    by_cases hi : i = id
    · subst hi
      simp only [Exit.inBlock, if_true] at hq
      exact ⟨.normal, a1, w1, hq, .head step_block (har k (by simp [exitTo]))⟩
    · simp only [Exit.inBlock, hi, if_false] at hq
      have hn : (id == i) = false := by simpa using fun h => hi h.symm
      exact ⟨.exit i, a1, w1, hq, fun k' hk => .head step_block (har k' (by simp [exitTo, hn, hk]))⟩
  | .goto l, hq, har => exact ⟨.goto l, a1, w1, hq, fun k' hk => .head step_block (har k' (by simp [gotoIn, hk]))⟩
  | .ret, hq, har => exact ⟨.ret, a1, w1, hq, .of_steps (.one step_block) har⟩
  | .panic ch, hq, har => exact ⟨.panic ch, a1, w1, hq, .of_steps (.one step_block) har⟩
  | .outgrown, hq, har => exact ⟨.outgrown, a1, w1, hq, .of_steps (b := b) (k := k) (cs := cs) (e := .outgrown) (.one step_block) har⟩
theorem wpN_loop {c : Code} (I : Act → World → Prop) (μ : Act → World → Nat) (h0 : I a w)
    (hr : ∀ a w, I a w → wpN P c (Exit.then (fun a' w' => I a' w' ∧ μ a' w' < μ a w) Q) a w) : wpN P (.loop c) Q a w := fun b k cs hb => by
  have go : ∀ n a w, μ a w ≤ n → I a w → ∃ e a' w', Q e a' w' ∧ Arrives P (lone (b.at a (.code c :: .inLoop c :: k)) cs w) b k cs e a' w' := by
    intro n
    induction n with
    | zero =>
      intro a w hn hI
      obtain ⟨e, a1, w1, hq, har⟩ := hr a w hI b (.inLoop c :: k) cs hb
      by_cases he : e = .normal
      · subst he; exact absurd hq.2 (by omega)
      · exact ⟨e, a1, w1, by cases e <;> first | exact hq | exact absurd rfl he, less_item rfl he har⟩
    | succ n ih =>
      intro a w hn hI
      obtain ⟨e, a1, w1, hq, har⟩ := hr a w hI b (.inLoop c :: k) cs hb
      by_cases he : e = .normal
      · subst he
        obtain ⟨e2, a2, w2, hq2, har2⟩ := ih a1 w1 (by have := hq.2; omega) hq.1
        exact ⟨e2, a2, w2, hq2, .of_steps (Steps.trans har (.one step_inLoop)) har2⟩
      · exact ⟨e, a1, w1, by cases e <;> first | exact hq | exact absurd rfl he, less_item rfl he har⟩
  obtain ⟨e, a2, w2, hq, har⟩ := go _ a w (Nat.le_refl _) h0
  exact ⟨e, a2, w2, hq, .of_steps (.one step_loop) har⟩
theorem wpN_comm {id : Nat} {o : Oper} {l : List Oper} {cases : Array CommCase} {blocking : Bool} {shape : CommShape} {w1 w2 : World} {v : Value} (hg : o.guard = none)
    (hr : (execOp a.eval o).run P w = .ok (.comm cases blocking shape) w1)
    (hs : ∀ (fr : Frame) (cs : List Frame) (es : Array Event), stepG P true (G fr cs) w = .comm (G fr cs) cases blocking shape w1 es → step P (solo (G fr cs) w) = .next (solo (G (fr.finish v) cs) w2))
    (h : wpList P (o :: l).toArray Q l (a.put o.dst v) w2) : wpN P (.region id (o :: l).toArray false) Q a w := fun b k cs hb => by
  have h2 : wpOps P (o :: l).toArray Q (List.range' 1 l.length) (a.put o.dst v) w2 := by
    rw [wpOps_eq_wpList (ops := (o :: l).toArray) l 1 (fun j => by simp [Nat.add_comm 1 j])]
    exact h
  obtain ⟨e, a2, w3, hq, har⟩ := wp_ops _ _ _ h2 b k cs
  refine ⟨e, a2, w3, hq, .of_steps (.one (step_region (id := id))) ?_⟩
  have hro : List.range (o :: l).toArray.size = 0 :: List.range' 1 l.length := by
    simp [List.range_eq_range', List.range'_succ]
  rw [hro]
  have hc := hs _ _ _ (stepG_comm (P := P) (main := true) (b := b) (a := a) (k := k) (cs := cs) (w := w) (ops := (o :: l).toArray) (i := 0) (rest := List.range' 1 l.length) (o := o) (by simp) (by simp [Region.wanted, hg]) hb hr)
  rw [Frame.finish_at] at hc
  refine .of_steps (.one ?_) har
  simp only [lone_eq_solo]
  simpa using hc
theorem calls_of_wpN {f : FuncId} {fn : Func} {c : Code} {args : Array Value} {R : Ending → World → Prop} (hf : P.funcs[f]? = some fn) (hb : fn.body = some c)
    (h : wpN P c (bodyPost P fn R) { tmps := args ++ Array.replicate (fn.ntmps - args.size) undef, defers := [] } w) : Calls P f args w R := fun cs => by
  obtain ⟨e, a1, w1, hq, har⟩ := h (base f) [] cs (by simp [base])
  rw [← enter_at args hf hb] at har
  match e, hq, har with
  | .normal, ⟨hd, v, hr, hR⟩, har => exact ⟨.returned v, w1, _, hR, Steps.trans har (.one step_end), rfl, rfl, hd, rfl, fn, hf, hr⟩
  | .ret, ⟨hd, v, hr, hR⟩, ⟨_, hs⟩ => exact ⟨.returned v, w1, _, hR, hs, rfl, rfl, hd, rfl, fn, hf, hr⟩
  | .panic ch, ⟨hd, hR⟩, ⟨_, hs⟩ => exact ⟨.panicked ch, w1, _, hR, hs, rfl, rfl, hd, fn, hf⟩
  | .exit _, hq, _ => exact hq.elim
  | .goto _, hq, _ => exact hq.elim
  | .outgrown, hq, har => exact ⟨.outgrown, w1, base f, hq, har.resolve_left (by simp [base]), rfl, trivial⟩
end
/-! A channel's block. -/
theorem Keeps.chan (w : World) (c cap : Nat) (buf : Array Value) (cl : Bool) (s r : Nat) (tm : Bool) : Keeps (fun k => k = c) w (w.setChan c cap buf cl s r tm) :=
  ⟨rfl, rfl, rfl, by simp [World.setChan], fun i _ hn => by simp only [World.setChan]; rw [Array.getElem?_setIfInBounds_ne (fun e => hn e.symm)]⟩
end Go.Ev

namespace Go.Ev
def Lasts (w w' : World) : Prop := w.heap.size ≤ w'.heap.size ∧ ∀ k, k < w.heap.size → w'.heap[k]? = w.heap[k]?
theorem Lasts.refl (w : World) : Lasts w w := ⟨Nat.le_refl _, fun _ _ => rfl⟩
theorem Lasts.trans {a b c : World} (h : Lasts a b) (k : Lasts b c) : Lasts a c := ⟨Nat.le_trans h.1 k.1, fun i hi => (k.2 i (Nat.lt_of_lt_of_le hi h.1)).trans (h.2 i hi)⟩
theorem Lasts.cell {w w' : World} (h : Lasts w w') {p : Addr} {v : Value} (hc : w.cell? p = some v) : w'.cell? p = some v := by
  have hlt : p.block < w.heap.size := by
    unfold World.cell? at hc
    cases hb : w.heap[p.block]? with
    | none => simp [hb] at hc
    | some x => exact (Array.getElem?_eq_some_iff.1 hb).1
  have e : w'.cell? p = w.cell? p := by
    unfold World.cell?
    rw [h.2 _ hlt]
  rw [e]
  exact hc
def Tame {α : Type} : Sem α → Prop
  | .pure _ => True
  | .load _ _ k => ∀ v, Tame (k v)
  | .store .. => False
  | .new _ k => ∀ r, Tame (k r)
  | .shape _ k => ∀ s, Tame (k s)
  | .freeze .. => False
  | .frozen _ k => ∀ b, Tame (k b)
  | .getObj _ k => ∀ o, Tame (k o)
  | .setObj .. => False
  | .choose _ k => ∀ n, Tame (k n)
  | .sys .. => False
  | .program k => ∀ p, Tame (k p)
  | .mark _ k => Tame k
  | .halt _ => True
theorem Tame.bind' {α β : Type} {f : α → Sem β} : ∀ (s : Sem α), Tame s → (∀ x, Tame (f x)) → Tame (Sem.bind s f)
  | .pure _, _, hf => hf _
  | .load _ _ k, h, hf => fun v => Tame.bind' (k v) (h v) hf
  | .store .., h, _ => h.elim
  | .new _ k, h, hf => fun v => Tame.bind' (k v) (h v) hf
  | .shape _ k, h, hf => fun v => Tame.bind' (k v) (h v) hf
  | .freeze .., h, _ => h.elim
  | .frozen _ k, h, hf => fun v => Tame.bind' (k v) (h v) hf
  | .getObj _ k, h, hf => fun v => Tame.bind' (k v) (h v) hf
  | .setObj .., h, _ => h.elim
  | .choose _ k, h, hf => fun v => Tame.bind' (k v) (h v) hf
  | .sys .., h, _ => h.elim
  | .program k, h, hf => fun v => Tame.bind' (k v) (h v) hf
  | .mark _ k, h, hf => Tame.bind' k h hf
  | .halt _, _, _ => trivial
theorem Tame.bind {α β : Type} {s : Sem α} {f : α → Sem β} (h : Tame s) (hf : ∀ x, Tame (f x)) : Tame (s >>= f) := Tame.bind' s h hf
theorem Tame.pure {α : Type} (x : α) : Tame (Pure.pure x : Sem α) := trivial
theorem Tame.run {α : Type} {P : Program} : ∀ (s : Sem α), Tame s → ∀ (w w' : World) (x : α), s.run P w = .ok x w' → Lasts w w'
  | .pure _, _, w, w', x, h => by cases h; exact Lasts.refl _
  | .load m a k, ht, w, w', x, h => by
    simp only [Sem.run] at h
    split at h
    · exact Tame.run (k _) (ht _) _ _ _ h
    · split at h
      · exact Tame.run (k _) (ht _) _ _ _ h
      · cases h
  | .store .., ht, _, _, _, _ => ht.elim
  | .new o k, ht, w, w', x, h => by
    simp only [Sem.run] at h
    refine Lasts.trans ⟨by simp, fun i hi => ?_⟩ (Tame.run (k _) (ht _) _ _ _ h)
    simp only [Array.getElem?_push]
    rw [if_neg (by omega)]
  | .shape _ k, ht, w, w', x, h => Tame.run (k _) (ht _) _ _ _ h
  | .freeze .., ht, _, _, _, _ => ht.elim
  | .frozen _ k, ht, w, w', x, h => Tame.run (k _) (ht _) _ _ _ h
  | .getObj r k, ht, w, w', x, h => by
    simp only [Sem.run] at h
    split at h
    · cases h
    · exact Tame.run (k _) (ht _) _ _ _ h
    · cases h
  | .setObj .., ht, _, _, _, _ => ht.elim
  | .choose q k, ht, w, w', x, h => by
    simp only [Sem.run] at h
    split at h
    · exact Tame.run (k _) (ht _) _ _ _ h
    · exact (show Lasts w { w with drawn := w.drawn + 1 } from ⟨Nat.le_refl _, fun _ _ => rfl⟩).trans (Tame.run (k _) (ht _) _ _ _ h)
  | .sys .., ht, _, _, _, _ => ht.elim
  | .program k, ht, w, w', x, h => Tame.run (k _) (ht _) _ _ _ h
  | .mark _ k, ht, w, w', x, h => Tame.run k ht _ _ _ h
  | .halt _, _, _, _, _, h => by cases h
theorem tame_bounds {α : Type} (k : IntKind) (i l : Int) (c : BoundsCode) : Tame (Go.boundsPanic k i l c : Sem α) := by
  have hj : ∀ s, Tame (Go.runtimePanic (.bounds (IntKind.i64.wrap i) l s c) : Sem α) := fun s => by
    unfold Go.runtimePanic
    exact Tame.bind (s := Go.program) (fun _ => trivial) fun p => trivial
  unfold Go.boundsPanic
  dsimp only
  split
  · exact Tame.bind (Tame.bind' (s := Go.choose _) (fun _ => trivial) fun _ => trivial) hj
  · exact Tame.bind trivial hj
theorem Tame.underlying (t : TypeId) : Tame (Go.underlying t) := by
  unfold Go.underlying
  refine Tame.bind (fun _ => trivial) fun p => ?_
  split <;> trivial
theorem Tame.typeInfo (t : TypeId) : Tame (Go.typeInfo t) := by
  unfold Go.typeInfo
  refine Tame.bind (fun _ => trivial) fun p => ?_
  split <;> trivial
theorem Tame.zeroValue (t : TypeId) : Tame (Go.zeroValue t) := by
  unfold Go.zeroValue
  refine Tame.bind (Tame.typeInfo t) fun i => ?_
  split <;> trivial
theorem Tame.sizeOf (t : TypeId) : Tame (Go.sizeOf t) := Tame.bind (Tame.typeInfo t) fun _ => trivial
theorem Tame.isAgg (t : TypeId) : Tame (Go.isAgg t) := by
  refine Tame.bind (Tame.underlying t) fun d => ?_
  split <;> trivial
theorem Tame.load (a : Addr) : Tame (Go.load a) := fun _ => trivial
theorem Tame.loadCellsFrom (a : Addr) : ∀ (n i : Nat) (acc : Array Value), Tame (Go.loadCellsFrom a i n acc)
  | 0, _, _ => trivial
  | n + 1, i, acc => Tame.bind (Tame.load _) fun _ => Tame.loadCellsFrom a n _ _
theorem Tame.loadVar (t : TypeId) (a : Addr) : Tame (Go.loadVar t a) := by
  unfold Go.loadVar
  refine Tame.bind (Tame.isAgg t) fun b => ?_
  split
  · refine Tame.bind (Tame.sizeOf t) fun n => Tame.bind ?_ fun _ => trivial
    exact Tame.loadCellsFrom _ _ _ _
  · exact Tame.load _
theorem Tame.sureAddr (v : Value) : Tame (Instr.sureAddr v) := by
  unfold Instr.sureAddr
  split <;> trivial
theorem Tame.loadAt (t : TypeId) (v : Value) : Tame (Instr.loadAt t v) := Tame.bind (Tame.sureAddr v) fun _ => Tame.loadVar _ _
theorem Tame.newVar (t : TypeId) (v : Value) : Tame (Go.newVar t v) := Tame.bind (fun _ => trivial) fun _ => trivial
theorem Tame.alloc (t : TypeId) : Tame (Instr.alloc t true (.tuple #[])) := by
  unfold Instr.alloc
  refine Tame.bind (Tame.zeroValue t) fun z => ?_
  dsimp only
  exact Tame.bind (Tame.newVar _ _) fun _ => trivial
theorem Tame.asIntOf (v : Value) : Tame (Go.asIntOf v) := by
  unfold Go.asIntOf
  split <;> trivial
theorem Tame.indexAt (t : TypeId) (x i : Value) : Tame (Instr.indexAt t x i) := by
  unfold Instr.indexAt
  refine Tame.bind (Tame.asIntOf i) fun ki => ?_
  refine Tame.bind (Tame.underlying t) fun d => ?_
  have hj : ∀ r : Option Addr × Nat × TypeId, Tame (match r with
      | (base, len, elem) => do
        let __do_lift ← Go.underlying t
        have tiny : Bool :=
          decide (len ≤ 1) &&
            match __do_lift with
            | TypeDesc.array len elem => true
            | x => false
        match base with
          | some a =>
            if 0 ≤ ki.snd ∧ ki.snd < ↑len then do
              let __do_lift ← Go.sizeOf elem
              Pure.pure (Value.pointer (some (a.add (ki.snd.toNat * __do_lift))))
            else
              if tiny = true then
                unsupported
                  (Unsupported.noEntry "op/indexAddr.an index out of range at an array of length 0 or 1 (ledger 616)")
              else Go.boundsPanic ki.fst ki.snd (↑len) BoundsCode.index
          | none => Go.boundsPanic ki.fst ki.snd 0 BoundsCode.index : Sem Value) := by
    rintro ⟨base, len, elem⟩
    refine Tame.bind (Tame.underlying t) fun d => ?_
    dsimp only
    split
    · split
      · exact Tame.bind (Tame.sizeOf _) fun _ => trivial
      · split <;> (split <;> first | exact tame_bounds .. | exact trivial)
    · exact tame_bounds ..
  dsimp only
  split
  · exact Tame.bind (Tame.sureAddr _) fun _ => Tame.bind trivial hj
  · exact Tame.bind trivial hj
  · exact Tame.bind trivial hj
theorem Tame.newRow (t : TypeId) (cs : Array Value) : Tame (Go.newRow t cs) := Tame.bind (fun _ => trivial) fun _ => trivial
theorem Tame.box (t : TypeId) (v : Value) : Tame (Instr.box t v) := Tame.bind (Tame.newVar _ _) fun _ => trivial
theorem Tame.buildSlice (t : TypeId) (n : Nat) (ps : Array (Nat × Value)) : Tame (Instr.buildSlice t n ps) := by
  unfold Instr.buildSlice
  refine Tame.bind (Tame.underlying t) fun d => ?_
  dsimp only
  split
  · refine Tame.bind (Tame.sizeOf _) fun n => ?_
    rename_i elem
    split
    · exact trivial
    · split
      · refine Tame.bind (Tame.pure _) fun z => ?_
        split
        · exact Tame.bind (Tame.newRow _ _) fun _ => trivial
        · exact trivial
      · refine Tame.bind (Tame.zeroValue _) fun z => ?_
        refine Tame.bind (Tame.pure _) fun z => ?_
        split
        · exact Tame.bind (Tame.newRow _ _) fun _ => trivial
        · exact trivial
  · exact trivial
theorem Tame.getObj' {α : Type} (r : Nat) (k : Obj → Sem α) (h : ∀ o, Tame (k o)) : Tame (Go.getObj r >>= k) := Tame.bind (fun _ => trivial) h
theorem Tame.len (ts : Array TypeId) (t : TypeId) (args : Array Value) : Tame (Builtin.len_ ts t args) := by
  unfold Builtin.len_
  split
  · refine Tame.bind (Tame.underlying _) fun d => ?_
    split <;> first
      | trivial
      | (refine Tame.bind (Tame.underlying _) fun d => ?_; split <;> trivial)
      | (refine Tame.getObj' _ _ fun o => ?_; split <;> trivial)
  · trivial
def lenCall (c : Call) : Bool := match c.callee with | .builtin .len => true | _ => false
def tameOp (o : Oper) : Bool :=
  match o.op with
  | .move _ | .assign _ | .load .. | .alloc _ | .indexAddr .. | .box .. | .buildSlice .. => true
  | .call c => lenCall c
  | _ => false
theorem run_pure_image {α β : Type} {P : Program} {g : α → β} : ∀ (s : Sem α) (w w' : World) (x : β), (Sem.bind s fun y => Sem.pure (g y)).run P w = .ok x w' → ∃ u, x = g u
  | .pure y, w, w', x, h => by cases h; exact ⟨_, rfl⟩
  | .load m a k, w, w', x, h => by
    simp only [Sem.run, Sem.bind] at h
    split at h
    · exact run_pure_image (k _) _ _ _ h
    · split at h
      · exact run_pure_image (k _) _ _ _ h
      · cases h
  | .store m a v k, w, w', x, h => by
    simp only [Sem.bind] at h
    cases v <;> simp only [Sem.run] at h <;> first | cases h | skip
    all_goals
      split at h
      · split at h
        · cases h
        · exact run_pure_image k _ _ _ h
      · split at h
        · exact run_pure_image k _ _ _ h
        · cases h
  | .new o k, w, w', x, h => run_pure_image (k _) _ _ _ h
  | .shape _ k, w, w', x, h => run_pure_image (k _) _ _ _ h
  | .freeze _ _ k, w, w', x, h => run_pure_image k _ _ _ h
  | .frozen _ k, w, w', x, h => run_pure_image (k _) _ _ _ h
  | .getObj r k, w, w', x, h => by
    simp only [Sem.run, Sem.bind] at h
    split at h
    · cases h
    · exact run_pure_image (k _) _ _ _ h
    · cases h
  | .setObj r o k, w, w', x, h => by
    simp only [Sem.run, Sem.bind] at h
    split at h
    · cases h
    · exact run_pure_image k _ _ _ h
    · cases h
  | .choose q k, w, w', x, h => by
    simp only [Sem.run, Sem.bind] at h
    split at h
    · exact run_pure_image (k _) _ _ _ h
    · exact run_pure_image (k _) _ _ _ h
  | .sys _ k, w, w', x, h => run_pure_image (k _) _ _ _ h
  | .program k, w, w', x, h => run_pure_image (k _) _ _ _ h
  | .mark _ k, w, w', x, h => run_pure_image k _ _ _ h
  | .halt _, _, _, _, h => by cases h
theorem tame_value {P : Program} {s : Sem Value} (hs : Tame s) {w : World} {n : Next} {w' : World} (h : Sem.run P (s >>= fun x => Pure.pure (Next.value x)) w = .ok n w') : (∃ u, n = .value u) ∧ Lasts w w' :=
  ⟨run_pure_image s w w' n h, Tame.run _ (Tame.bind (f := fun x => Pure.pure (Next.value x)) hs fun _ => trivial) _ _ _ h⟩
theorem tameOp_run {P : Program} {o : Oper} (ho : tameOp o = true) {ρ : Operand → Value} {w : World} {n : Next} {w' : World} (h : (execOp ρ o).run P w = .ok n w') : (∃ u, n = .value u) ∧ Lasts w w' := by
  obtain ⟨dst, op, type, pos, after, guard⟩ := o
  cases op <;> simp only [tameOp] at ho <;> first | cases ho | skip
  · cases h
    exact ⟨⟨_, rfl⟩, Lasts.refl _⟩
  · cases h
    exact ⟨⟨_, rfl⟩, Lasts.refl _⟩
  · exact tame_value (Tame.alloc _) h
  · exact tame_value (Tame.box _ _) h
  · exact tame_value (Tame.buildSlice _ _ _) h
  · exact tame_value (Tame.loadAt _ _) h
  · exact tame_value (Tame.indexAt _ _ _) h
  · rename_i c
    obtain ⟨callee, args, ts⟩ := c
    cases callee <;> simp only [lenCall] at ho <;> first | cases ho | skip
    rename_i b
    cases b <;> simp only [] at ho <;> first | cases ho | skip
    exact tame_value (Tame.len _ _ _) h
section
variable {P : Program} {ops : Array Oper} {Q : Exit → Act → World → Prop} {md : Region.Mode}
def behindR (md : Region.Mode) (ops : Array Oper) (listed : Array Bool) (i : Nat) : Nat → Nat → Bool
  | 0, _ => false
  | n + 1, j => match ops[j]? with
    | some o => o.after.any fun e => Region.binds md e && (e.on == i || (!listed.getD e.on true && behindR md ops listed i n e.on))
    | none => false
theorem behindR_not {i n j : Nat} {listed : Array Bool} (hi : listed.getD i true = false) (hb : behindR md ops listed i n j = true) : j ∉ Region.ready md ops listed := by
  intro hj
  obtain ⟨_, o, ho, hall⟩ := mem_ready.1 hj
  cases n with
  | zero => cases hb
  | succ n =>
    simp only [behindR, ho] at hb
    obtain ⟨e, he, h1⟩ := Array.any_eq_true'.1 hb
    simp only [Bool.and_eq_true, Bool.or_eq_true, beq_iff_eq, Bool.not_eq_true'] at h1
    have h2 := hall e he h1.1
    have key : listed.getD e.on true = false → False := fun h3 => by
      rcases Nat.lt_or_ge e.on listed.size with h' | h'
      · simp [h'] at h2 h3; rw [h3] at h2; cases h2
      · simp [Array.getElem?_eq_none h'] at h2
    rcases h1.2 with h3 | h3
    · exact key (h3 ▸ hi)
    · exact key h3.1
theorem behindR_keep {i : Nat} {listed : Array Bool} (hi : listed.getD i true = false) {j' : Nat} (hj' : j' ∈ Region.ready md ops listed) : ∀ (n j : Nat), behindR md ops listed i n j = true → behindR md ops (listed.setIfInBounds j' true) i n j = true
  | 0, _, h => h
  | n + 1, j, h => by
    simp only [behindR] at h ⊢
    split
    · rename_i o ho
      simp only [ho] at h
      obtain ⟨e, he, h1⟩ := Array.any_eq_true'.1 h
      refine Array.any_eq_true'.2 ⟨e, he, ?_⟩
      simp only [Bool.and_eq_true, Bool.or_eq_true, beq_iff_eq, Bool.not_eq_true'] at h1 ⊢
      refine ⟨h1.1, h1.2.imp id fun h3 => ⟨?_, behindR_keep hi hj' n _ h3.2⟩⟩
      rw [getD_set_ne true (fun e1 => behindR_not hi (e1 ▸ h3.2) hj')]
      exact h3.1
    · rename_i ho
      simp only [ho] at h
      cases h
def YieldsR (P : Program) (ops : Array Oper) (o : Oper) (v : Value) (a : Act) (w0 : World) : Prop :=
  Region.wanted o (yielded ops a.tmps) = true ∧ ∀ w, Lasts w0 w → (execOp a.eval o).run P w = .ok (.value v) w
theorem YieldsR.wpOp {i : Nat} {o : Oper} {v : Value} {a : Act} {w0 w : World} (hi : ops[i]? = some o) (hy : YieldsR P ops o v a w0) (he : Lasts w0 w)
    {K : Act → World → Prop} (h : K (a.put o.dst v) w) : wpOp P ops Q i K a w := by
  unfold Go.wpOp
  simp only [hi]
  obtain ⟨hw, hv⟩ := hy
  simp only [hw, if_true, Oper.wp, hv w he, Oper.upon]
  exact .inl h
theorem wpOp_putR {j : Nat} {oi oj : Oper} {v : Value} {w0 : World} (hj : ops[j]? = some oj) (hap : oi.apart ops oj = true) (ht : tameOp oj = true)
    (hsi : ∀ cs b, oi.op ≠ .select cs b) (hsj : ∀ cs b, oj.op ≠ .select cs b)
    (hQ : ∀ c a w, Q (.panic c) (a.put oi.dst v) w → Q (.panic c) a w) {K : Act → World → Prop} {a : Act} {w : World}
    (hy : YieldsR P ops oi v a w0) (he : Lasts w0 w) (h : wpOp P ops Q j K (a.put oi.dst v) w) :
    wpOp P ops Q j (fun a' w' => YieldsR P ops oi v a' w0 ∧ Lasts w0 w' ∧ K (a'.put oi.dst v) w') a w := by
  obtain ⟨h1, h2, h3⟩ := Oper.apart_spec hap
  have keep : ∀ u, YieldsR P ops oi v (a.put oj.dst u) w0 := fun u => by
    unfold YieldsR at *
    rw [execOp_put oi hsi a oj.dst u h3, wanted_put oi a oj.dst u h3]
    exact hy
  unfold wpOp at *
  simp only [hj] at *
  rw [wanted_put oj a oi.dst v h1] at h
  split
  · rename_i hw
    simp only [hw, if_true] at h
    rcases h with h | ⟨hasks, hlets⟩
    case inr => exact .inr ⟨by unfold Oper.asks at *; rw [execOp_put oj hsj a oi.dst v h1] at hasks; exact hasks, hlets⟩
    refine .inl ?_
    unfold Oper.wp at *
    rw [execOp_put oj hsj a oi.dst v h1] at h
    generalize hr : (execOp a.eval oj).run P w = r at *
    cases r with
    | ok n w' =>
      obtain ⟨⟨u, rfl⟩, hx⟩ := tameOp_run ht hr
      simp only [Oper.upon] at h ⊢
      exact ⟨keep u, he.trans hx, by rw [← Act.put_comm a v u h2]; exact h⟩
    | halt x w' =>
      cases x <;> simp only [Oper.upon] at h ⊢
      case panic u => exact hQ _ _ _ h
  · rename_i hw
    simp only [hw] at h
    exact ⟨keep _, he, by rw [← Act.put_comm a v undef h2]; exact h⟩
theorem wpAny_firstR {i nb : Nat} {oi : Oper} {v : Value} {w0 : World} (hi : ops[i]? = some oi) (hsel : ∀ (j : Nat) (o : Oper) cs b, ops[j]? = some o → o.op ≠ .select cs b)
    (hQ : ∀ c a w, Q (.panic c) (a.put oi.dst v) w → Q (.panic c) a w) :
    ∀ (fuel : Nat) (listed : Array Bool) (a : Act) (w : World),
      (∀ j oj, ops[j]? = some oj → j ≠ i → listed.getD j true = false → behindR md ops listed i nb j = false → oi.apart ops oj = true ∧ tameOp oj = true) →
      i ∈ Region.ready md ops listed → YieldsR P ops oi v a w0 → Lasts w0 w →
      wpAny P md ops Q fuel (listed.setIfInBounds i true) (a.put oi.dst v) w → wpAny P md ops Q (fuel + 1) listed a w := by
  intro fuel
  induction fuel with
  | zero =>
    intro listed a w _ hr hy he H
    refine ⟨fun h => (by rw [h] at hr; cases hr), fun j hj => ?_⟩
    by_cases hji : j = i
    · subst hji; exact hy.wpOp hi he H
    · have := ready_mono hj hji
      rw [H.1] at this
      cases this
  | succ fuel ih =>
    intro listed a w hfree hr hy he H
    refine ⟨fun h => (by rw [h] at hr; cases hr), fun j hj => ?_⟩
    by_cases hji : j = i
    · subst hji; exact hy.wpOp hi he H
    · have h1 := H.2 j (ready_mono hj hji)
      have hiu := (mem_ready.1 hr).1
      obtain ⟨hjun, oj, hoj, hall⟩ := mem_ready.1 hj
      have hnb : behindR md ops listed i nb j = false := by
        cases hb : behindR md ops listed i nb j with
        | false => rfl
        | true => exact absurd hj (behindR_not hiu hb)
      obtain ⟨hap, htm⟩ := hfree j oj hoj hji hjun hnb
      have h2 := wpOp_putR hoj hap htm (fun cs b => hsel i oi cs b hi) (fun cs b => hsel j oj cs b hoj) hQ hy he h1
      have hfree' : ∀ k ok, ops[k]? = some ok → k ≠ i → (listed.setIfInBounds j true).getD k true = false →
          behindR md ops (listed.setIfInBounds j true) i nb k = false → oi.apart ops ok = true ∧ tameOp ok = true := fun k ok hk hki hun hno => by
        refine hfree k ok hk hki ?_ ?_
        · by_cases hjk : j = k
          · subst hjk; exact hjun
          · rw [getD_set_ne true hjk] at hun; exact hun
        · cases hb : behindR md ops listed i nb k with
          | false => rfl
          | true => rw [behindR_keep hiu hj nb k hb] at hno; cases hno
      refine wpOp_mono (fun a' w' h3 => ih (listed.setIfInBounds j true) a' w' hfree' (ready_mono hr (Ne.symm hji)) h3.1 h3.2.1 ?_) h2
      rw [Array.setIfInBounds_comm _ _ hji]
      exact h3.2.2
def freeR (md : Region.Mode) (ops : Array Oper) (listed : Array Bool) (i : Nat) : Bool :=
  match ops[i]? with
  | none => false
  | some oi => (List.range ops.size).all fun j => j == i || listed.getD j true || behindR md ops listed i 12 j || match ops[j]? with
      | some oj => oi.apart ops oj && tameOp oj
      | none => true
theorem wpAny_takeR {i : Nat} {oi : Oper} {v : Value} {fuel : Nat} {listed : Array Bool} {a : Act} {w : World} (hi : ops[i]? = some oi)
    (hs : Region.noSelect ops = true) (hf : freeR md ops listed i = true) (hr : (Region.ready md ops listed).contains i = true)
    (hQ : ∀ c a w, Q (.panic c) (a.put oi.dst v) w → Q (.panic c) a w) (hy : YieldsR P ops oi v a w)
    (h : wpAny P md ops Q fuel (listed.setIfInBounds i true) (a.put oi.dst v) w) : wpAny P md ops Q (fuel + 1) listed a w :=
  wpAny_firstR (nb := 12) hi (Region.noSelect_spec hs) hQ fuel listed a w (fun j oj hj hne hun hnb => by
    simp only [freeR, hi, List.all_eq_true, List.mem_range] at hf
    have h1 := hf j (Array.getElem?_eq_some_iff.1 hj).1
    simp only [hj, Bool.or_eq_true, beq_iff_eq, hne, false_or, hun, hnb, Bool.false_eq_true, Bool.and_eq_true] at h1
    exact h1) (by simpa using hr) hy (Lasts.refl _) h
theorem tkR {d : Option Tmp} {op : Op} {t : TypeId} {ps : String} {af : Array Edge} {g : Option (Nat × Bool)} {v : Value} {fuel : Nat} {listed : Array Bool} {a : Act} {w : World} (i : Nat) (hi : ops[i]? = some ⟨d, op, t, ps, af, g⟩)
    (hc : (Region.noSelect ops && freeR md ops listed i && (Region.ready md ops listed).contains i) = true) (hQ : ∀ c a w, Q (.panic c) (a.put d v) w → Q (.panic c) a w)
    (hw : Region.wanted ⟨d, op, t, ps, af, g⟩ (yielded ops a.tmps) = true) (hy : ∀ w', Lasts w w' → (execOp a.eval ⟨d, op, t, ps, af, g⟩).run P w' = .ok (.value v) w')
    (h : wpAny P md ops Q fuel (listed.setIfInBounds i true) (a.put d v) w) : wpAny P md ops Q (fuel + 1) listed a w := by
  simp only [Bool.and_eq_true] at hc
  exact wpAny_takeR hi hc.1.1 hc.1.2 hc.2 hQ ⟨hw, hy⟩ h
end
end Go.Ev
