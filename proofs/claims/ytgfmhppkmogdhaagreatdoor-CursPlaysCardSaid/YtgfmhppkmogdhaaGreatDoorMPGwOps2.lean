/-
  A region in the order of its text, within a round. Steps of law 11 in a row: a kind, a key, a value each; what an argument's reading says of them. Are steps few and short enough? The pairs that steps make, put in one by one. A mark's name. A book of lists: of a kind of which nothing is kept nothing is told. append onto a slice that is full, whoever's it is: all lies anew. Steps of law 12 in a row: a kind and a key each; what an argument's reading says of them.
-/
import Derived.Test.YtgfmhppkmogdhaaGreatDoorMPGvGetC
import Derived.Tactics
import Derived.Test.YtgfmhppkmogdhaaGreatDoorMPGvBranch
import Derived.OwnWalkIn
import Derived.Test.YtgfmhppkmogdhaaGreatDoorMPGwReader
import Derived.Lib.SmallJoins
import Derived.Deep.Slices
import Derived.Test.YtgfmhppkmogdhaaGreatDoorMPGvAny2
import Derived.Deep.LoopGhost
import Derived.Deep.DeepMust
import Derived.Test.YtgfmhppkmogdhaaGreatDoorMPEvInsert
import Derived.Test.YtgfmhppkmogdhaaGreatDoorMPGvOrd
import Derived.Test.YtgfmhppkmogdhaaGreatDoorMPGvCurs
import Derived.Test.YtgfmhppkmogdhaaGreatDoorMPEvBytes
import Derived.Test.YtgfmhppkmogdhaaGreatDoorMPGwDev
set_option linter.unusedVariables false
set_option linter.unusedSimpArgs false
namespace Go.Ev
open Go.RowKit

variable {P : Program} {l n : Nat}

theorem list_round {ops : Array Oper} {Q : Exit → Act → World → Prop} (hQ : ¬ LetsOut Q) : ∀ (L : List Oper) (_ : ∀ o ∈ L, ∀ c, o.op ≠ .defer c) (a : Act) (w : World), wpList P ops Q L a w → wpListIn (wideR l) n P ops Q L a w
  | [], _, _, _, h => h
  | o :: L, hd, a, w, h => by
    unfold wpList at h
    unfold wpListIn
    split
    · rename_i hw
      rw [if_pos hw] at h
      rcases h with h | h
      · exact Oper.wpIn_mono (fun a w hh => list_round hQ L (fun o ho => hd o (List.mem_cons_of_mem _ ho)) a w hh) (oper_round (hd o (List.mem_cons_self ..)) h)
      · exact absurd h.2 hQ
    · rename_i hw
      rw [if_neg hw] at h
      exact ⟨fun _ _ => trivial, list_round hQ L (fun o ho => hd o (List.mem_cons_of_mem _ ho)) _ _ h⟩

def noDeferL (L : List Oper) : Bool := L.all fun o => match o.op with | .defer _ => false | _ => true
theorem noDeferL_spec {L : List Oper} (h : noDeferL L = true) : ∀ o ∈ L, ∀ c, o.op ≠ .defer c := by
  intro o ho c e
  unfold noDeferL at h
  rw [List.all_eq_true] at h
  have := h o ho
  rw [e] at this
  cases this

/-- A region in the order of its text, within a round. -/
theorem region_round0 {id : Nat} {L : List Oper} {Q : Exit → Act → World → Prop} {a : Act} {w : World} (hd : noDeferL L = true) (hQ : ¬ LetsOut Q) (h : wpList P L.toArray Q L a w) : (Code.region id L.toArray false).wpIn (wideR l) n P Q a w :=
  wpIn_region_lit (list_round hQ L (noDeferL_spec hd) _ _ h)

theorem wpListIn_append_at {w : World} {ops : Array Oper} {rest : List Oper} {o : Oper} {a : Act} {Q : Exit → Act → World → Prop} (hgd : o.guard = none) (s x : Operand) (t : TypeId)
    (ho : o.op = .call { callee := .builtin .append, args := #[s, x], argTypes := #[t, t] })
    (base : Nat) (e : TypeId) (i : TypeInfo) (z : Value) (size bytes : Nat) (ht : P.underlying t = some (.slice e)) (hi : P.info? e = some i) (hz : i.zero = some z)
    (hsize : i.size = size) (hby : i.bytes = bytes) (hzs : z.cells.size = size) (hsz : 0 < size)
    (v : Value) (k : Nat) (xs : List Value) (hs : a.eval s = v) (hown : w.ownsRow base e size v k xs)
    (ad : Addr) (m c : Nat) (news : List Value) (hx : a.eval x = .slice (some ad) m c) (hl : news.length = m * size) (hnews : ∀ j u, news[j]? = some u → w.cell? (ad.add j) = some u) (h1 : ∀ u ∈ news, u.oneCell' = true)
    (h63 : k + m ≤ maxLen) (hbytes : (k + m) * bytes ≤ 140737488355328) (hbase : base ≤ w.heap.size)
    (h : ∀ v' w', w'.ownsRow base e size v' (k + m) (xs ++ news) → w.grownBy w' v.ownBlock → (∀ j, v'.ownBlock = some j → v.ownBlock = some j ∨ w.heap.size ≤ j) → wpListIn (wideR l) n P ops Q rest (a.put o.dst v') w') : wpListIn (wideR l) n P ops Q (o :: rest) a w :=
  wpListIn_plain hgd fun _ hK => oper_round (fun c => by rw [ho]; intro e; cases e) (wp_append_at s x t ho base e i z size bytes ht hi hz hsize hby hzs hsz v k xs hs hown ad m c news hx hl hnews h1 h63 hbytes hbase fun v' w' h2 h3 h4 => hK _ _ (h v' w' h2 h3 h4))
end Go.Ev

set_option linter.unusedVariables false
set_option linter.unusedSimpArgs false
namespace Go.Ev
open Go.Joins Go.ChangeShapes Go.WideShapes Go.RowKit Go.Deep

structure OpL where
  kind : Int
  key : Bytes
  val : Bytes

def opCs (o : OpL) : List Value := [.int .i64 o.kind, strV o.key, strV o.val]
def opsCs : List OpL → List Value
  | [] => []
  | o :: l => opCs o ++ opsCs l
theorem opsCs_len : ∀ l : List OpL, (opsCs l).length = l.length * 3
  | [] => rfl
  | o :: l => by simp [opsCs, opCs, opsCs_len l]; omega
theorem opsCs_at : ∀ (l : List OpL) (k : Nat) (hk : k < l.length), (opsCs l)[k * 3]? = some (.int .i64 l[k].kind) ∧ (opsCs l)[k * 3 + 1]? = some (strV l[k].key) ∧ (opsCs l)[k * 3 + 2]? = some (strV l[k].val)
  | o :: l, 0, _ => ⟨rfl, rfl, rfl⟩
  | o :: l, k + 1, h => by
    have ih := opsCs_at l k (by simpa using h)
    rw [show (k + 1) * 3 = k * 3 + 3 by omega]
    simpa [opsCs, opCs] using ih

/-- A row that reads as these steps. -/
def OpsAt (w : World) (v : Value) (l : List OpL) : Prop := Sl w 3 v l.length (opsCs l) ∧ l.length ≤ maxLen ∧ ∀ o ∈ l, o.key.length ≤ maxLen ∧ o.val.length ≤ maxLen

theorem OpsAt.below {w w' : World} {v : Value} {l : List OpL} (h : OpsAt w v l) (hb : Below w.heap.size w w') : OpsAt w' v l := ⟨h.1.below hb, h.2⟩

theorem list_of {α : Type} {n : Nat} {Q : Nat → α → Prop} (h : ∀ j, j < n → ∃ a, Q j a) : ∃ l : List α, l.length = n ∧ ∀ j (hj : j < l.length), Q j l[j] := by
  refine ⟨List.ofFn fun j : Fin n => (h j.1 j.2).choose, by simp, fun j hj => ?_⟩
  have hj' : j < n := by simpa using hj
  have := (h j hj').choose_spec
  simpa using this

section
variable {H : Type} {enc : TypeId × Value → H} {P : Program} {w : World} {base : Nat} {spare : Nat → Bool} {held : Bool}

theorem slice_ops {t e : TypeId} {gs : Array Field} {fuel : Nat} {v : Value} {y : DataW H × List MemPlace} (ht : P.underlying t = some (.slice e)) (he : P.underlying e = some (.struct gs)) (hone : oneCellFields P gs = true) (hC : P.cellsOf e = 3)
    {g0 g1 g2 : Field} (h0 : gs[0]? = some g0) (h1 : gs[1]? = some g1) (h2 : gs[2]? = some g2) (t0 : P.underlying g0.type = some (.int .i64)) (t1 : P.underlying g1.type = some .string) (t2 : P.underlying g2.type = some .string)
    (h : DataW.trod enc P w base spare held fuel t [v] = some y) : ∃ l, OpsAt w v l := by
  rcases open_slice ht h with ⟨e0, _⟩ | ⟨a, len, cap, m, n, D, Pl, e0, hb, hl, hm, hmm, hx, hi⟩
  · simp only [List.cons.injEq, and_true] at e0
    subst e0
    exact ⟨[], Sl.nil .., Nat.zero_le _, fun o ho => by cases ho⟩
  · simp only [List.cons.injEq, and_true] at e0
    subst e0
    have hlm : len ≤ m := by rw [hmm]; split <;> omega
    rcases Nat.eq_zero_or_pos len with hz0 | hz0
    · subst hz0
      exact ⟨[], Sl.nil .., Nat.zero_le _, fun o ho => by cases ho⟩
    rw [hC] at hi
    have hsp : a.spot = none ∧ a.block < w.heap.size := by
      obtain ⟨cs', q1, q2⟩ := hi 0 (by omega)
      obtain ⟨_, hlen, hat⟩ := World.cells?_some q1
      have q3 := hat 0 (by omega)
      rw [List.getElem?_eq_getElem (by omega)] at q3
      simp [Addr.add] at q3
      unfold World.cell? at q3
      split at q3
      · rename_i c e' fz hq
        split at q3
        · cases q3
        · rename_i hs'
          exact ⟨by simpa using hs', (Array.getElem?_eq_some_iff.1 hq).1⟩
      · cases q3
    obtain ⟨bl, of, sp⟩ := a
    obtain ⟨hsp, hbl⟩ := hsp
    simp only at hsp
    subst hsp
    have hop : ∀ j, j < len → ∃ o : OpL, (o.key.length ≤ maxLen ∧ o.val.length ≤ maxLen) ∧ ∀ r u, (opCs o)[r]? = some u → w.cell? ⟨bl, of + (j * 3 + r), none⟩ = some u := by
      intro j hj
      obtain ⟨cs', q1, q2⟩ := hi j (by omega)
      obtain ⟨_, hlen, hat⟩ := World.cells?_some q1
      obtain ⟨xs, n', _, _, _, hxl, hf⟩ := DataW.trod_struct he q2
      have field : ∀ off g, gs[off]? = some g → off < 3 → ∃ y u, cs'[off]? = some u ∧ DataW.trod enc P w base spare held n' g.type [u] = some y ∧ w.cell? ⟨bl, of + (j * 3 + off), none⟩ = some u := by
        intro off g hg hoff
        obtain ⟨ho, hk⟩ := hone_of hone off g hg
        have q3 := hf off g hg
        have hgs : off < gs.size := (Array.getElem?_eq_some_iff.1 hg).1
        rw [ho, hk, List.getElem?_eq_getElem (by omega)] at q3
        have q4 : (cs'.drop off).take 1 = [cs'[off]'(by omega)] := by rw [List.drop_eq_getElem_cons (by omega)]; rfl
        rw [q4] at q3
        refine ⟨_, cs'[off]'(by omega), List.getElem?_eq_getElem (by omega), q3, ?_⟩
        have q7 := hat off hoff
        rw [List.getElem?_eq_getElem (by omega), addr_add, addr_add, Nat.add_assoc] at q7
        exact q7
      obtain ⟨_, u0, _, f0, c0⟩ := field 0 g0 h0 (by omega)
      obtain ⟨_, u1, _, f1, c1⟩ := field 1 g1 h1 (by omega)
      obtain ⟨_, u2, _, f2, c2⟩ := field 2 g2 h2 (by omega)
      obtain ⟨k, e0, _, _⟩ := DataW.trod_int t0 f0
      obtain ⟨s1, e1, _, b1⟩ := DataW.trod_string t1 f1
      obtain ⟨s2, e2, _, b2⟩ := DataW.trod_string t2 f2
      simp only [List.cons.injEq, and_true] at e0 e1 e2
      subst e0 e1 e2
      refine ⟨⟨k, s1.data.toList, s2.data.toList⟩, ⟨b1, b2⟩, fun r u hu => ?_⟩
      match r with
      | 0 => cases hu; exact c0
      | 1 => cases hu; exact c1
      | 2 => cases hu; exact c2
      | r + 3 => simp [opCs] at hu
    obtain ⟨l, hlen, hl'⟩ := list_of hop
    subst hlen
    refine ⟨l, ⟨_, _, rfl, hl, opsCs_len l, fun _ => ⟨bl, of, rfl, hbl, fun j u hu => ?_⟩⟩, Nat.le_trans hl hm, fun o ho => ?_⟩
    · have hj : j < l.length * 3 := by rw [← opsCs_len]; exact (List.getElem?_eq_some_iff.1 hu).1
      have hd : j / 3 < l.length := by omega
      obtain ⟨a0, a1, a2⟩ := opsCs_at l (j / 3) hd
      have := (hl' (j / 3) hd).2
      have hjj : j = j / 3 * 3 + j % 3 := by omega
      have hr : j % 3 = 0 ∨ j % 3 = 1 ∨ j % 3 = 2 := by omega
      rw [hjj]
      rcases hr with hr | hr | hr <;> rw [hr] at hjj ⊢ <;> rw [hjj] at hu
      · refine this 0 u ?_; rw [Nat.add_zero, a0] at hu; exact hu
      · refine this 1 u ?_; rw [a1] at hu; exact hu
      · refine this 2 u ?_; rw [a2] at hu; exact hu
    · obtain ⟨j, hj, rfl⟩ := List.getElem_of_mem ho
      exact (hl' j hj).1
end
end Go.Ev

set_option linter.unusedVariables false
set_option linter.unusedSimpArgs false
namespace Go.Ev
open Go.Proofs Go.RowKit

def RoomP (x0 x1 left : Int) (w : World) (e : Ending) (w' : World) : Prop := ∃ r : Int, e = .returned (.int .i64 r) ∧ (-1 ≤ r ∧ r ≤ 60000 ∧ (0 ≤ r → r + x0 + x1 = left)) ∧ w = w'

set_option maxHeartbeats 1000000 in
theorem room_two (g : Nat) (T : TypeId) (x0 x1 left : Int) (w : World) (h : Blk w g T #[.int .i64 x0, .int .i64 x1]) (h0 : 0 ≤ x0) (h1 : 0 ≤ x1) (hl : -1 ≤ left ∧ left ≤ 60000) :
    Calls Tryz.prog 37 #[.int .i64 left, .slice (some ⟨g, 0, none⟩) 2 2] w (RoomP x0 x1 left w) := by
  have c0 : w.cell? ⟨g, 0, none⟩ = some (.int .i64 x0) := h.cell 0
  have c1 : w.cell? ⟨g, 1, none⟩ = some (.int .i64 x1) := h.cell 1
  clear h
  go_enter Tryz.func37, Tryz.ntmps37
  go_wp2_with (fail)
  go_loopg [0, 5] 2 (fun gk s0 s5 wr => ∃ (r : Int) (i : Nat) (x : Int), s0 = .int .i64 r ∧ s5 = .int .i64 (i : Int) ∧ i + gk = 2 ∧ -1 ≤ r ∧ r ≤ 60000 ∧ Hid ((i = 0 ∧ r = left ∧ x = x0) ∨ (i = 1 ∧ 0 ≤ r ∧ r + x0 = left ∧ x = x1) ∨ (i = 2 ∧ 0 ≤ r ∧ r + x0 + x1 = left)) ∧ Hid (i < 2 → w.cell? ⟨g, i, none⟩ = some (.int .i64 x)) ∧ wr = w)
  case atStart => exact ⟨left, 0, x0, rfl, rfl, rfl, hl.1, hl.2, .inl ⟨rfl, rfl, rfl⟩, fun _ => c0, rfl⟩
  case round =>
    obtain ⟨r, i, x, rfl, rfl, hi, hr1, hr2, hd, hx, rfl⟩ := hrel
    have C0 := Lib.hid c0
    have C1 := Lib.hid c1
    clear c0 c1
    by_cases h2 : i < 2
    · have hx' := hx.out h2
      have h2' : (i : Int) < 2 := by omega
      have hi0 : (0 : Int) ≤ (i : Int) := by omega
      have hw1 : IntKind.i64.wrap ((i : Int) + 1) = (i : Int) + 1 := IntWalk.i64_in _ (by omega)
      have hxp : 0 ≤ x ∧ (0 ≤ r → x ≤ r ∨ r < x) := ⟨by rcases hd.out with h | h | h <;> omega, fun _ => by omega⟩
      clear hx
      by_cases hn : r < 0
      · go_wp2_with (fail)
        go_ret
        exact ⟨-1, rfl, ⟨by omega, by omega, fun h => by omega⟩, rfl⟩
      · by_cases hg : r < x
        · go_wp2_with (fail)
          go_ret
          exact ⟨-1, rfl, ⟨by omega, by omega, fun h => by omega⟩, rfl⟩
        · have hw2 : IntKind.i64.wrap (r - x) = r - x := IntWalk.i64_in _ (by omega)
          go_wp2_with (fail)
          go_roundg (gk - 1)
          case measure => omega
          case rel =>
            refine ⟨r - x, i + 1, x1, rfl, by simp, by omega, by omega, by omega, ?_, fun h => ?_, rfl⟩
            · show _ ∨ _
              rcases hd.out with h | h | h
              · exact .inr (.inl ⟨by omega, by omega, by omega, rfl⟩)
              · exact .inr (.inr ⟨by omega, by omega, by omega⟩)
              · omega
            · have : i = 0 := by omega
              subst this
              exact C1.out
    · have h2' : ¬ (i : Int) < 2 := by omega
      clear hx
      go_wp2_with (fail)
      go_ret
      refine ⟨r, rfl, ⟨by omega, by omega, fun _ => ?_⟩, rfl⟩
      rcases hd.out with h | h | h <;> omega

def LightP (ops : List OpL) (w : World) (e : Ending) (w' : World) : Prop :=
  ∃ b : Bool, e = .returned (.bool b) ∧ (b = true → ops.length ≤ 250 ∧ ∀ o ∈ ops, o.key.length + o.val.length ≤ 60000) ∧ Below w.heap.size w w'

set_option maxHeartbeats 2000000 in
set_option maxRecDepth 100000 in
theorem light_any (A : Option Addr) (n c : Nat) (ops : List OpL) (w : World) (h : OpsAt w (.slice A n c) ops) :
    Calls Tryz.prog 8 #[.slice A n c] w (LightP ops w) := by
  obtain ⟨hv, hml, hlen⟩ := h
  have hn : n = ops.length := by obtain ⟨_, _, e, _⟩ := hv; cases e; rfl
  subst hn
  unfold maxLen at hml
  have HLen := Lib.hid hlen
  clear hlen
  go_enter Tryz.func8, Tryz.ntmps8
  go_wp2_with (fail)
  go_loopg [3, 4] ops.length (fun gk s3 s4 wr => ∃ (r : Int) (i : Nat), s3 = .int .i64 r ∧ s4 = .int .i64 (i : Int) ∧ i + gk = ops.length ∧ -1 ≤ r ∧ r ≤ 60000 ∧ i ≤ 600 ∧ Hid (0 ≤ r → ∀ j (hj : j < ops.length), j < i → ops[j].key.length + ops[j].val.length ≤ 60000) ∧ Below w.heap.size w wr)
  case atStart => exact ⟨60000, 0, rfl, rfl, by omega, by omega, by omega, by omega, (fun _ j _ h => absurd h (Nat.not_lt_zero _)), Below.refl _ _⟩
  case round =>
    obtain ⟨r, i, rfl, rfl, hi, hr1, hr2, hi6, hall, hbw⟩ := hrel
    by_cases h1 : i < ops.length
    · have h1' : (i : Int) < (ops.length : Int) := by omega
      by_cases h2 : i < 600
      · have h2' : (i : Int) < 600 := by omega
        by_cases h3 : 0 ≤ r
        · have hi0 : (0 : Int) ≤ (i : Int) := by omega
          have hw1 : IntKind.i64.wrap ((i : Int) + 1) = (i : Int) + 1 := IntWalk.i64_in _ (by omega)
          obtain ⟨A', c', e0, _, _, hcl⟩ := hv.below hbw
          cases e0
          obtain ⟨blk, off, rfl, hbl, hcell⟩ := hcl (by omega)
          obtain ⟨_, p1, p2⟩ := opsCs_at ops i h1
          have x1 : wr.cell? ⟨blk, off + i * 3 + 1, none⟩ = _ := hcell _ _ p1
          have x2 : wr.cell? ⟨blk, off + i * 3 + 2, none⟩ = _ := hcell _ _ p2
          obtain ⟨m1, m2⟩ := HLen.out _ (List.getElem_mem h1)
          unfold maxLen at m1 m2
          have hR : ∀ W g T, Blk W g T #[.int .i64 (ops[i].key.length : Int), .int .i64 (ops[i].val.length : Int)] → Calls Tryz.prog 37 #[.int .i64 r, .slice (some ⟨g, 0, none⟩) 2 2] W (RoomP ops[i].key.length ops[i].val.length r W) :=
            fun W g T hb => room_two g T _ _ r W hb (by omega) (by omega) ⟨hr1, hr2⟩
          have HR := Lib.hid hR
          have HX := Lib.hid hcell
          clear hR hcell hcl p1 p2 hv
          generalize hk0 : ops[i].key = key at *
          generalize hv0 : ops[i].val = val at *
          have HK := Lib.hid (And.intro hk0 hv0)
          clear hk0 hv0
          go_wp2_with (fail)
          refine wp_region_any (by kernel_rfl) ?_
          change wpAny _ _ _ _ _ _ _ (World.drew _)
          try simp only [Act.put, lT, l0, lS]
          refine tA 0 ?_; try simp only [Act.put, lT, l0, lS]
          refine tA 1 ?_; try simp only [Act.put, lT, l0, lS]
          refine tA 2 ?_; try simp only [Act.put, lT, l0, lS]
          refine tA 3 ?_; try simp only [Act.put, lT, l0, lS]
          refine tA 4 ?_; try simp only [Act.put, lT, l0, lS]
          refine tA 7 ?_; try simp only [Act.put, lT, l0, lS]
          refine tA 8 ?_; try simp only [Act.put, lT, l0, lS]
          refine tA 9 ?_; try simp only [Act.put, lT, l0, lS]
          refine tA 10 ?_; try simp only [Act.put, lT, l0, lS]
          try simp only [Act.put, lT, l0, lS]
          refine rA 5 (v := ?_) (hy := ?hy) ?_; case hy => (intro w hE; have q0 := hE.cell x1; go_simp; try with_reducible rfl)
          try simp only [Act.put, lT, l0, lS]
          try simp only [Act.put, lT, l0, lS]
          refine rA 11 (v := ?_) (hy := ?hy) ?_; case hy => (intro w hE; have q0 := hE.cell x2; go_simp; try with_reducible rfl)
          try simp only [Act.put, lT, l0, lS]
          try simp only [Act.put, lT, l0, lS]
          refine tA 6 ?_; try simp only [Act.put, lT, l0, lS]
          refine tA 12 ?_; try simp only [Act.put, lT, l0, lS]
          refine rd 13 (by kernel_rfl) rfl (fun K hK => ?_); go_simp; refine hK _ _ ?_; clear hK K
          refine rd 14 (by kernel_rfl) rfl (fun K hK => ?_); go_simp
          (go_must (refine (HR.out _ _ _ (Blk.new _ _ _).drew).mono ?_); rintro e w1 ⟨r', rfl, ⟨q1, q2, q3⟩, rfl⟩)
          go_simp
          refine hK _ _ ?_
          clear hK K
          refine rd 15 (by kernel_rfl) rfl (fun K hK => ?_); go_simp; refine hK _ _ ?_; clear hK K
          refine wpAny_done (by kernel_rfl) ?_ _
          go_wp2_with (fail)
          go_roundg (gk - 1)
          case measure => omega
          case rel =>
            refine ⟨r', i + 1, rfl, by simp, by omega, q1, q2, by omega, fun h0 j hj hji => ?_, (hbw.alloc hbw.size _).drew⟩
            by_cases hje : j = i
            · subst hje
              rw [HK.out.1, HK.out.2]
              have := q3 h0
              omega
            · exact hall.out h3 j hj (by omega)
        · have h3' : ¬ (0 : Int) ≤ r := h3
          by_cases h4 : ops.length ≤ 250
          · have h4' : (ops.length : Int) ≤ 250 := by omega
            go_wp2_with (fail)
            go_ret
            exact ⟨_, rfl, fun hb => by simp at hb; try omega, hbw⟩
          · have h4' : ¬ (ops.length : Int) ≤ 250 := by omega
            go_wp2_with (fail)
            go_ret
            exact ⟨_, rfl, fun hb => by simp at hb; try omega, hbw⟩
      · have h2' : ¬ (i : Int) < 600 := by omega
        have h4' : ¬ (ops.length : Int) ≤ 250 := by omega
        go_wp2_with (fail)
        go_ret
        exact ⟨_, rfl, fun hb => by simp at hb; try omega, hbw⟩
    · have h1' : ¬ (i : Int) < (ops.length : Int) := by omega
      have HF : Hid (0 ≤ r → ∀ o ∈ ops, o.key.length + o.val.length ≤ 60000) := fun h0 o ho => by
        obtain ⟨j, hj, rfl⟩ := List.getElem_of_mem ho
        exact hall.out h0 j hj (by omega)
      by_cases h4 : ops.length ≤ 250
      · have h4' : (ops.length : Int) ≤ 250 := by omega
        have h2' : (i : Int) < 600 := by omega
        by_cases h3 : 0 ≤ r
        · go_wp2_with (fail)
          go_ret
          exact ⟨_, rfl, fun hb => ⟨h4, HF.out h3⟩, hbw⟩
        · go_wp2_with (fail)
          go_ret
          exact ⟨_, rfl, fun hb => by simp at hb; try omega, hbw⟩
      · have h4' : ¬ (ops.length : Int) ≤ 250 := by omega
        by_cases h2 : i < 600
        · have h2' : (i : Int) < 600 := by omega
          go_wp2_with (fail)
          go_ret
          exact ⟨_, rfl, fun hb => by simp at hb; try omega, hbw⟩
        · have h2' : ¬ (i : Int) < 600 := by omega
          go_wp2_with (fail)
          go_ret
          exact ⟨_, rfl, fun hb => by simp at hb; try omega, hbw⟩
end Go.Ev

namespace Go.Ev
open Go.Lib

def goodKV (k v : List UInt8) : Bool := decide (1 ≤ k.length) && decide (k.length ≤ 40) && decide (v.length ≤ 2000)
theorem goodKV_of {k v : List UInt8} (h : goodKV k v = true) : 1 ≤ k.length ∧ k.length ≤ 40 ∧ v.length ≤ 2000 := by
  unfold goodKV at h
  simp only [Bool.and_eq_true, decide_eq_true_eq] at h
  exact ⟨h.1.1, h.1.2, h.2⟩
theorem goodKV_not {k v : List UInt8} (h : goodKV k v = false) : ¬ (1 ≤ k.length ∧ k.length ≤ 40 ∧ v.length ≤ 2000) := by
  rintro ⟨h1, h2, h3⟩
  unfold goodKV at h
  simp [h1, h2, h3] at h

/-- Keys and values that a tree can have. -/
def GoodP (ps : List Pair) : Prop := ∀ q ∈ ps, goodKV q.1 q.2 = true

def growP : List (List UInt8 × List UInt8) → List Pair → List Pair
  | [], t => t
  | o :: l, t => growP l (if goodKV o.1 o.2 then insP o.1 o.2 t else t)

theorem growP_app : ∀ (a b : List (List UInt8 × List UInt8)) (t : List Pair), growP (a ++ b) t = growP b (growP a t)
  | [], _, _ => rfl
  | o :: a, b, t => by simp only [List.cons_append, growP]; exact growP_app a b _
theorem growP_good : ∀ {l : List (List UInt8 × List UInt8)} {t : List Pair}, GoodP t → GoodP (growP l t)
  | [], _, h => h
  | o :: l, t, h => by
    simp only [growP]
    split
    · rename_i hg
      exact growP_good fun q hq => by
        rcases insP_mem hq with rfl | hq
        · exact hg
        · exact h q hq
    · exact growP_good h
theorem growP_len : ∀ (l : List (List UInt8 × List UInt8)) (t : List Pair), (growP l t).length ≤ t.length + l.length
  | [], t => by simp [growP]
  | o :: l, t => by
    simp only [growP, List.length_cons]
    have := (insP_len (k := o.1) (v := o.2) t).1
    split
    · have h := growP_len l (insP o.1 o.2 t)
      omega
    · have h := growP_len l t
      omega
theorem growP_rising : ∀ {l : List (List UInt8 × List UInt8)} {t : List Pair}, Rising t → Rising (growP l t)
  | [], _, h => h
  | o :: l, t, h => by
    simp only [growP]
    split
    · exact growP_rising (insP_rising h)
    · exact growP_rising h
end Go.Ev

set_option linter.unusedVariables false
set_option linter.unusedSimpArgs false
namespace Go.Ev
open Go.Proofs Go.RowKit

def nameF (i k : Nat) : Nat → UInt8
  | 0 => 109
  | 1 => UInt8.ofNat (65 + i % 26)
  | 2 => UInt8.ofNat (65 + i / 26 % 26)
  | 3 => UInt8.ofNat (48 + k % 10)
  | 4 => UInt8.ofNat (48 + k / 10 % 10)
  | _ => UInt8.ofNat (48 + k / 100 % 10)
def nameB (i k : Nat) : Bytes := (List.range 6).map (nameF i k)

theorem u8_of {n : Nat} {z : Int} (h : z = (n : Int)) (hn : n < 256) : Value.int .u8 z = .int .u8 ((UInt8.ofNat n).toNat : Int) := by
  rw [h]
  congr 1
  rw [UInt8.toNat_ofNat']
  omega

set_option maxRecDepth 100000 in
theorem name_any (i k : Nat) (w : World) (hi : i ≤ 100000) (hk : k ≤ 100000) :
    Calls Tryz.prog 199 #[.int .i64 (i : Int), .int .i64 (k : Int)] w fun e w' => e = .returned (strV (nameB i k)) ∧ Below w.heap.size w w' := by
  have hb : Blk (w.alloc (.cells #[.int .u8 109, .int .u8 (65 + (i : Int) % 26), .int .u8 (65 + (i : Int) / 26 % 26), .int .u8 (48 + (k : Int) % 10), .int .u8 (48 + (k : Int) / 10 % 10), .int .u8 (48 + (k : Int) / 100 % 10)] 5)) w.heap.size 5 #[.int .u8 109, .int .u8 (65 + (i : Int) % 26), .int .u8 (65 + (i : Int) / 26 % 26), .int .u8 (48 + (k : Int) % 10), .int .u8 (48 + (k : Int) / 10 % 10), .int .u8 (48 + (k : Int) / 100 % 10)] := Blk.new _ _ _
  have hcv := bytes_exact _ w.heap.size 0 6 6 (nameF i k) (fun j hj => by
    rw [Nat.zero_add, hb.cell]
    match j with
    | 0 => rfl
    | 1 => exact congrArg some (u8_of (by omega) (by omega))
    | 2 => exact congrArg some (u8_of (by omega) (by omega))
    | 3 => exact congrArg some (u8_of (by omega) (by omega))
    | 4 => exact congrArg some (u8_of (by omega) (by omega))
    | 5 => exact congrArg some (u8_of (by omega) (by omega))
    | j + 6 => omega)
  have HB := Lib.hid ((Below.refl w.heap.size w).alloc (Nat.le_refl _) (.cells #[.int .u8 109, .int .u8 (65 + (i : Int) % 26), .int .u8 (65 + (i : Int) / 26 % 26), .int .u8 (48 + (k : Int) % 10), .int .u8 (48 + (k : Int) / 10 % 10), .int .u8 (48 + (k : Int) / 100 % 10)] 5))
  clear hb
  go_enter Tryz.func199, Tryz.ntmps199
  go_wp2_with (fail)
  go_ret
  exact ⟨rfl, HB.out⟩
end Go.Ev

set_option linter.unusedVariables false
set_option linter.unusedSimpArgs false
namespace Go.Ev
open Go.Proofs Go.RowKit

set_option maxRecDepth 100000 in
theorem stillTexts_nil {w : World} {g : Nat} (h : w.cell? ⟨g, 0, none⟩ = some (.slice none 0 0)) : Calls Tryz.prog 52 #[.pointer (some ⟨g, 0, none⟩)] w fun e w' => e = .returned (.bool true) ∧ w = w' := by
  go_enter Tryz.func52, Tryz.ntmps52
  go_wp2_with (fail)
  go_loopg [3] 0 (fun gk s3 wr => s3 = .int .i64 0 ∧ w = wr)
  case atStart => exact ⟨rfl, rfl⟩
  case round =>
    obtain ⟨rfl, rfl⟩ := hrel
    go_wp2_with (fail)
    go_ret
    exact ⟨rfl, rfl⟩

set_option maxRecDepth 100000 in
theorem putTexts_nil {w : World} {g : Nat} (h : w.cell? ⟨g, 0, none⟩ = some (.slice none 0 0)) : Calls Tryz.prog 65 #[.pointer (some ⟨g, 0, none⟩)] w fun e w' => e = .returned (.tuple #[]) ∧ w = w' := by
  go_enter Tryz.func65, Tryz.ntmps65
  go_wp2_with (fail)
  go_loopg [2] 0 (fun gk s2 wr => s2 = .int .i64 0 ∧ w = wr)
  case atStart => exact ⟨rfl, rfl⟩
  case round =>
    obtain ⟨rfl, rfl⟩ := hrel
    go_wp2_with (fail)
    go_end0
    exact ⟨rfl, rfl⟩

set_option maxRecDepth 100000 in
theorem growTexts_nil {w : World} {g : Nat} (h : w.cell? ⟨g, 0, none⟩ = some (.slice none 0 0)) : Calls Tryz.prog 74 #[.pointer (some ⟨g, 0, none⟩)] w fun e w' => e = .returned (.slice none 0 0) ∧ w = w' := by
  go_enter Tryz.func74, Tryz.ntmps74
  go_wp2_with (fail)
  go_loopg [3, 4] 0 (fun gk s3 s4 wr => s3 = .slice none 0 0 ∧ s4 = .int .i64 0 ∧ w = wr)
  case atStart => exact ⟨rfl, rfl, rfl⟩
  case round =>
    obtain ⟨rfl, rfl, rfl⟩ := hrel
    go_wp2_with (fail)
    go_ret
    exact ⟨rfl, rfl⟩

set_option maxRecDepth 100000 in
theorem markedTexts_nil (w : World) : Calls Tryz.prog 85 #[.slice none 0 0] w fun e w' => e = .returned (.bool true) ∧ w = w' := by
  go_enter Tryz.func85, Tryz.ntmps85
  go_wp2_with (fail)
  go_loopg [3] 0 (fun gk s3 wr => s3 = .int .i64 0 ∧ w = wr)
  case atStart => exact ⟨rfl, rfl⟩
  case round =>
    obtain ⟨rfl, rfl⟩ := hrel
    go_wp2_with (fail)
    go_ret
    exact ⟨rfl, rfl⟩

set_option maxRecDepth 100000 in
theorem stillInts_nil {w : World} {g : Nat} (h : w.cell? ⟨g, 2, none⟩ = some (.slice none 0 0)) : Calls Tryz.prog 53 #[.pointer (some ⟨g, 0, none⟩)] w fun e w' => e = .returned (.bool true) ∧ w = w' := by
  go_enter Tryz.func53, Tryz.ntmps53
  go_wp2_with (fail)
  go_loopg [3] 0 (fun gk s3 wr => s3 = .int .i64 0 ∧ w = wr)
  case atStart => exact ⟨rfl, rfl⟩
  case round =>
    obtain ⟨rfl, rfl⟩ := hrel
    go_wp2_with (fail)
    go_ret
    exact ⟨rfl, rfl⟩

set_option maxRecDepth 100000 in
theorem putInts_nil {w : World} {g : Nat} (h : w.cell? ⟨g, 2, none⟩ = some (.slice none 0 0)) : Calls Tryz.prog 66 #[.pointer (some ⟨g, 0, none⟩)] w fun e w' => e = .returned (.tuple #[]) ∧ w = w' := by
  go_enter Tryz.func66, Tryz.ntmps66
  go_wp2_with (fail)
  go_loopg [2] 0 (fun gk s2 wr => s2 = .int .i64 0 ∧ w = wr)
  case atStart => exact ⟨rfl, rfl⟩
  case round =>
    obtain ⟨rfl, rfl⟩ := hrel
    go_wp2_with (fail)
    go_end0
    exact ⟨rfl, rfl⟩

set_option maxRecDepth 100000 in
theorem growInts_nil {w : World} {g : Nat} (h : w.cell? ⟨g, 2, none⟩ = some (.slice none 0 0)) : Calls Tryz.prog 75 #[.pointer (some ⟨g, 0, none⟩)] w fun e w' => e = .returned (.slice none 0 0) ∧ w = w' := by
  go_enter Tryz.func75, Tryz.ntmps75
  go_wp2_with (fail)
  go_loopg [3, 4] 0 (fun gk s3 s4 wr => s3 = .slice none 0 0 ∧ s4 = .int .i64 0 ∧ w = wr)
  case atStart => exact ⟨rfl, rfl, rfl⟩
  case round =>
    obtain ⟨rfl, rfl, rfl⟩ := hrel
    go_wp2_with (fail)
    go_ret
    exact ⟨rfl, rfl⟩

set_option maxRecDepth 100000 in
theorem markedInts_nil (w : World) : Calls Tryz.prog 86 #[.slice none 0 0] w fun e w' => e = .returned (.bool true) ∧ w = w' := by
  go_enter Tryz.func86, Tryz.ntmps86
  go_wp2_with (fail)
  go_loopg [3] 0 (fun gk s3 wr => s3 = .int .i64 0 ∧ w = wr)
  case atStart => exact ⟨rfl, rfl⟩
  case round =>
    obtain ⟨rfl, rfl⟩ := hrel
    go_wp2_with (fail)
    go_ret
    exact ⟨rfl, rfl⟩

set_option maxRecDepth 100000 in
theorem stillItems_nil {w : World} {g : Nat} (h : w.cell? ⟨g, 4, none⟩ = some (.slice none 0 0)) : Calls Tryz.prog 54 #[.pointer (some ⟨g, 0, none⟩)] w fun e w' => e = .returned (.bool true) ∧ w = w' := by
  go_enter Tryz.func54, Tryz.ntmps54
  go_wp2_with (fail)
  go_loopg [3] 0 (fun gk s3 wr => s3 = .int .i64 0 ∧ w = wr)
  case atStart => exact ⟨rfl, rfl⟩
  case round =>
    obtain ⟨rfl, rfl⟩ := hrel
    go_wp2_with (fail)
    go_ret
    exact ⟨rfl, rfl⟩

set_option maxRecDepth 100000 in
theorem putItems_nil {w : World} {g : Nat} (h : w.cell? ⟨g, 4, none⟩ = some (.slice none 0 0)) : Calls Tryz.prog 67 #[.pointer (some ⟨g, 0, none⟩)] w fun e w' => e = .returned (.tuple #[]) ∧ w = w' := by
  go_enter Tryz.func67, Tryz.ntmps67
  go_wp2_with (fail)
  go_loopg [2] 0 (fun gk s2 wr => s2 = .int .i64 0 ∧ w = wr)
  case atStart => exact ⟨rfl, rfl⟩
  case round =>
    obtain ⟨rfl, rfl⟩ := hrel
    go_wp2_with (fail)
    go_end0
    exact ⟨rfl, rfl⟩

set_option maxRecDepth 100000 in
theorem growItems_nil {w : World} {g : Nat} (h : w.cell? ⟨g, 4, none⟩ = some (.slice none 0 0)) : Calls Tryz.prog 76 #[.pointer (some ⟨g, 0, none⟩)] w fun e w' => e = .returned (.slice none 0 0) ∧ w = w' := by
  go_enter Tryz.func76, Tryz.ntmps76
  go_wp2_with (fail)
  go_loopg [3, 4] 0 (fun gk s3 s4 wr => s3 = .slice none 0 0 ∧ s4 = .int .i64 0 ∧ w = wr)
  case atStart => exact ⟨rfl, rfl, rfl⟩
  case round =>
    obtain ⟨rfl, rfl, rfl⟩ := hrel
    go_wp2_with (fail)
    go_ret
    exact ⟨rfl, rfl⟩

set_option maxRecDepth 100000 in
theorem markedItems_nil (w : World) : Calls Tryz.prog 87 #[.slice none 0 0] w fun e w' => e = .returned (.bool true) ∧ w = w' := by
  go_enter Tryz.func87, Tryz.ntmps87
  go_wp2_with (fail)
  go_loopg [3] 0 (fun gk s3 wr => s3 = .int .i64 0 ∧ w = wr)
  case atStart => exact ⟨rfl, rfl⟩
  case round =>
    obtain ⟨rfl, rfl⟩ := hrel
    go_wp2_with (fail)
    go_ret
    exact ⟨rfl, rfl⟩

set_option maxRecDepth 100000 in
theorem stillChildren_nil {w : World} {g : Nat} (h : w.cell? ⟨g, 6, none⟩ = some (.slice none 0 0)) : Calls Tryz.prog 55 #[.pointer (some ⟨g, 0, none⟩)] w fun e w' => e = .returned (.bool true) ∧ w = w' := by
  go_enter Tryz.func55, Tryz.ntmps55
  go_wp2_with (fail)
  go_loopg [3] 0 (fun gk s3 wr => s3 = .int .i64 0 ∧ w = wr)
  case atStart => exact ⟨rfl, rfl⟩
  case round =>
    obtain ⟨rfl, rfl⟩ := hrel
    go_wp2_with (fail)
    go_ret
    exact ⟨rfl, rfl⟩

set_option maxRecDepth 100000 in
theorem putChildren_nil {w : World} {g : Nat} (h : w.cell? ⟨g, 6, none⟩ = some (.slice none 0 0)) : Calls Tryz.prog 68 #[.pointer (some ⟨g, 0, none⟩)] w fun e w' => e = .returned (.tuple #[]) ∧ w = w' := by
  go_enter Tryz.func68, Tryz.ntmps68
  go_wp2_with (fail)
  go_loopg [2] 0 (fun gk s2 wr => s2 = .int .i64 0 ∧ w = wr)
  case atStart => exact ⟨rfl, rfl⟩
  case round =>
    obtain ⟨rfl, rfl⟩ := hrel
    go_wp2_with (fail)
    go_end0
    exact ⟨rfl, rfl⟩

set_option maxRecDepth 100000 in
theorem growChildren_nil {w : World} {g : Nat} (h : w.cell? ⟨g, 6, none⟩ = some (.slice none 0 0)) : Calls Tryz.prog 77 #[.pointer (some ⟨g, 0, none⟩)] w fun e w' => e = .returned (.slice none 0 0) ∧ w = w' := by
  go_enter Tryz.func77, Tryz.ntmps77
  go_wp2_with (fail)
  go_loopg [3, 4] 0 (fun gk s3 s4 wr => s3 = .slice none 0 0 ∧ s4 = .int .i64 0 ∧ w = wr)
  case atStart => exact ⟨rfl, rfl, rfl⟩
  case round =>
    obtain ⟨rfl, rfl, rfl⟩ := hrel
    go_wp2_with (fail)
    go_ret
    exact ⟨rfl, rfl⟩

set_option maxRecDepth 100000 in
theorem markedChildren_nil (w : World) : Calls Tryz.prog 88 #[.slice none 0 0] w fun e w' => e = .returned (.bool true) ∧ w = w' := by
  go_enter Tryz.func88, Tryz.ntmps88
  go_wp2_with (fail)
  go_loopg [3] 0 (fun gk s3 wr => s3 = .int .i64 0 ∧ w = wr)
  case atStart => exact ⟨rfl, rfl⟩
  case round =>
    obtain ⟨rfl, rfl⟩ := hrel
    go_wp2_with (fail)
    go_ret
    exact ⟨rfl, rfl⟩

set_option maxRecDepth 100000 in
theorem stillPairs_nil {w : World} {g : Nat} (h : w.cell? ⟨g, 8, none⟩ = some (.slice none 0 0)) : Calls Tryz.prog 56 #[.pointer (some ⟨g, 0, none⟩)] w fun e w' => e = .returned (.bool true) ∧ w = w' := by
  go_enter Tryz.func56, Tryz.ntmps56
  go_wp2_with (fail)
  go_loopg [3] 0 (fun gk s3 wr => s3 = .int .i64 0 ∧ w = wr)
  case atStart => exact ⟨rfl, rfl⟩
  case round =>
    obtain ⟨rfl, rfl⟩ := hrel
    go_wp2_with (fail)
    go_ret
    exact ⟨rfl, rfl⟩

set_option maxRecDepth 100000 in
theorem putPairs_nil {w : World} {g : Nat} (h : w.cell? ⟨g, 8, none⟩ = some (.slice none 0 0)) : Calls Tryz.prog 69 #[.pointer (some ⟨g, 0, none⟩)] w fun e w' => e = .returned (.tuple #[]) ∧ w = w' := by
  go_enter Tryz.func69, Tryz.ntmps69
  go_wp2_with (fail)
  go_loopg [2] 0 (fun gk s2 wr => s2 = .int .i64 0 ∧ w = wr)
  case atStart => exact ⟨rfl, rfl⟩
  case round =>
    obtain ⟨rfl, rfl⟩ := hrel
    go_wp2_with (fail)
    go_end0
    exact ⟨rfl, rfl⟩

set_option maxRecDepth 100000 in
theorem growPairs_nil {w : World} {g : Nat} (h : w.cell? ⟨g, 8, none⟩ = some (.slice none 0 0)) : Calls Tryz.prog 78 #[.pointer (some ⟨g, 0, none⟩)] w fun e w' => e = .returned (.slice none 0 0) ∧ w = w' := by
  go_enter Tryz.func78, Tryz.ntmps78
  go_wp2_with (fail)
  go_loopg [3, 4] 0 (fun gk s3 s4 wr => s3 = .slice none 0 0 ∧ s4 = .int .i64 0 ∧ w = wr)
  case atStart => exact ⟨rfl, rfl, rfl⟩
  case round =>
    obtain ⟨rfl, rfl, rfl⟩ := hrel
    go_wp2_with (fail)
    go_ret
    exact ⟨rfl, rfl⟩

set_option maxRecDepth 100000 in
theorem markedPairs_nil (w : World) : Calls Tryz.prog 89 #[.slice none 0 0] w fun e w' => e = .returned (.bool true) ∧ w = w' := by
  go_enter Tryz.func89, Tryz.ntmps89
  go_wp2_with (fail)
  go_loopg [3] 0 (fun gk s3 wr => s3 = .int .i64 0 ∧ w = wr)
  case atStart => exact ⟨rfl, rfl⟩
  case round =>
    obtain ⟨rfl, rfl⟩ := hrel
    go_wp2_with (fail)
    go_ret
    exact ⟨rfl, rfl⟩

set_option maxRecDepth 100000 in
theorem stillEntries_nil {w : World} {g : Nat} (h : w.cell? ⟨g, 10, none⟩ = some (.slice none 0 0)) : Calls Tryz.prog 57 #[.pointer (some ⟨g, 0, none⟩)] w fun e w' => e = .returned (.bool true) ∧ w = w' := by
  go_enter Tryz.func57, Tryz.ntmps57
  go_wp2_with (fail)
  go_loopg [3] 0 (fun gk s3 wr => s3 = .int .i64 0 ∧ w = wr)
  case atStart => exact ⟨rfl, rfl⟩
  case round =>
    obtain ⟨rfl, rfl⟩ := hrel
    go_wp2_with (fail)
    go_ret
    exact ⟨rfl, rfl⟩

set_option maxRecDepth 100000 in
theorem putEntries_nil {w : World} {g : Nat} (h : w.cell? ⟨g, 10, none⟩ = some (.slice none 0 0)) : Calls Tryz.prog 70 #[.pointer (some ⟨g, 0, none⟩)] w fun e w' => e = .returned (.tuple #[]) ∧ w = w' := by
  go_enter Tryz.func70, Tryz.ntmps70
  go_wp2_with (fail)
  go_loopg [2] 0 (fun gk s2 wr => s2 = .int .i64 0 ∧ w = wr)
  case atStart => exact ⟨rfl, rfl⟩
  case round =>
    obtain ⟨rfl, rfl⟩ := hrel
    go_wp2_with (fail)
    go_end0
    exact ⟨rfl, rfl⟩

set_option maxRecDepth 100000 in
theorem growEntries_nil {w : World} {g : Nat} (h : w.cell? ⟨g, 10, none⟩ = some (.slice none 0 0)) : Calls Tryz.prog 79 #[.pointer (some ⟨g, 0, none⟩)] w fun e w' => e = .returned (.slice none 0 0) ∧ w = w' := by
  go_enter Tryz.func79, Tryz.ntmps79
  go_wp2_with (fail)
  go_loopg [3, 4] 0 (fun gk s3 s4 wr => s3 = .slice none 0 0 ∧ s4 = .int .i64 0 ∧ w = wr)
  case atStart => exact ⟨rfl, rfl, rfl⟩
  case round =>
    obtain ⟨rfl, rfl, rfl⟩ := hrel
    go_wp2_with (fail)
    go_ret
    exact ⟨rfl, rfl⟩

set_option maxRecDepth 100000 in
theorem markedEntries_nil (w : World) : Calls Tryz.prog 90 #[.slice none 0 0] w fun e w' => e = .returned (.bool true) ∧ w = w' := by
  go_enter Tryz.func90, Tryz.ntmps90
  go_wp2_with (fail)
  go_loopg [3] 0 (fun gk s3 wr => s3 = .int .i64 0 ∧ w = wr)
  case atStart => exact ⟨rfl, rfl⟩
  case round =>
    obtain ⟨rfl, rfl⟩ := hrel
    go_wp2_with (fail)
    go_ret
    exact ⟨rfl, rfl⟩

set_option maxRecDepth 100000 in
theorem stillMsgs_nil {w : World} {g : Nat} (h : w.cell? ⟨g, 12, none⟩ = some (.slice none 0 0)) : Calls Tryz.prog 58 #[.pointer (some ⟨g, 0, none⟩)] w fun e w' => e = .returned (.bool true) ∧ w = w' := by
  go_enter Tryz.func58, Tryz.ntmps58
  go_wp2_with (fail)
  go_loopg [3] 0 (fun gk s3 wr => s3 = .int .i64 0 ∧ w = wr)
  case atStart => exact ⟨rfl, rfl⟩
  case round =>
    obtain ⟨rfl, rfl⟩ := hrel
    go_wp2_with (fail)
    go_ret
    exact ⟨rfl, rfl⟩

set_option maxRecDepth 100000 in
theorem putMsgs_nil {w : World} {g : Nat} (h : w.cell? ⟨g, 12, none⟩ = some (.slice none 0 0)) : Calls Tryz.prog 63 #[.pointer (some ⟨g, 0, none⟩)] w fun e w' => e = .returned (.tuple #[]) ∧ w = w' := by
  go_enter Tryz.func63, Tryz.ntmps63
  go_wp2_with (fail)
  go_loopg [2] 0 (fun gk s2 wr => s2 = .int .i64 0 ∧ w = wr)
  case atStart => exact ⟨rfl, rfl⟩
  case round =>
    obtain ⟨rfl, rfl⟩ := hrel
    go_wp2_with (fail)
    go_end0
    exact ⟨rfl, rfl⟩

set_option maxRecDepth 100000 in
theorem growMsgs_nil {w : World} {g : Nat} (h : w.cell? ⟨g, 12, none⟩ = some (.slice none 0 0)) : Calls Tryz.prog 80 #[.pointer (some ⟨g, 0, none⟩)] w fun e w' => e = .returned (.slice none 0 0) ∧ w = w' := by
  go_enter Tryz.func80, Tryz.ntmps80
  go_wp2_with (fail)
  go_loopg [3, 4] 0 (fun gk s3 s4 wr => s3 = .slice none 0 0 ∧ s4 = .int .i64 0 ∧ w = wr)
  case atStart => exact ⟨rfl, rfl, rfl⟩
  case round =>
    obtain ⟨rfl, rfl, rfl⟩ := hrel
    go_wp2_with (fail)
    go_ret
    exact ⟨rfl, rfl⟩

set_option maxRecDepth 100000 in
theorem markedMsgs_nil (w : World) : Calls Tryz.prog 91 #[.slice none 0 0] w fun e w' => e = .returned (.bool true) ∧ w = w' := by
  go_enter Tryz.func91, Tryz.ntmps91
  go_wp2_with (fail)
  go_loopg [3] 0 (fun gk s3 wr => s3 = .int .i64 0 ∧ w = wr)
  case atStart => exact ⟨rfl, rfl⟩
  case round =>
    obtain ⟨rfl, rfl⟩ := hrel
    go_wp2_with (fail)
    go_ret
    exact ⟨rfl, rfl⟩

set_option maxRecDepth 100000 in
theorem stillDues_nil {w : World} {g : Nat} (h : w.cell? ⟨g, 14, none⟩ = some (.slice none 0 0)) : Calls Tryz.prog 59 #[.pointer (some ⟨g, 0, none⟩)] w fun e w' => e = .returned (.bool true) ∧ w = w' := by
  go_enter Tryz.func59, Tryz.ntmps59
  go_wp2_with (fail)
  go_loopg [3] 0 (fun gk s3 wr => s3 = .int .i64 0 ∧ w = wr)
  case atStart => exact ⟨rfl, rfl⟩
  case round =>
    obtain ⟨rfl, rfl⟩ := hrel
    go_wp2_with (fail)
    go_ret
    exact ⟨rfl, rfl⟩

set_option maxRecDepth 100000 in
theorem putDues_nil {w : World} {g : Nat} (h : w.cell? ⟨g, 14, none⟩ = some (.slice none 0 0)) : Calls Tryz.prog 71 #[.pointer (some ⟨g, 0, none⟩)] w fun e w' => e = .returned (.tuple #[]) ∧ w = w' := by
  go_enter Tryz.func71, Tryz.ntmps71
  go_wp2_with (fail)
  go_loopg [2] 0 (fun gk s2 wr => s2 = .int .i64 0 ∧ w = wr)
  case atStart => exact ⟨rfl, rfl⟩
  case round =>
    obtain ⟨rfl, rfl⟩ := hrel
    go_wp2_with (fail)
    go_end0
    exact ⟨rfl, rfl⟩

set_option maxRecDepth 100000 in
theorem growDues_nil {w : World} {g : Nat} (h : w.cell? ⟨g, 14, none⟩ = some (.slice none 0 0)) : Calls Tryz.prog 81 #[.pointer (some ⟨g, 0, none⟩)] w fun e w' => e = .returned (.slice none 0 0) ∧ w = w' := by
  go_enter Tryz.func81, Tryz.ntmps81
  go_wp2_with (fail)
  go_loopg [3, 4] 0 (fun gk s3 s4 wr => s3 = .slice none 0 0 ∧ s4 = .int .i64 0 ∧ w = wr)
  case atStart => exact ⟨rfl, rfl, rfl⟩
  case round =>
    obtain ⟨rfl, rfl, rfl⟩ := hrel
    go_wp2_with (fail)
    go_ret
    exact ⟨rfl, rfl⟩

set_option maxRecDepth 100000 in
theorem markedDues_nil (w : World) : Calls Tryz.prog 92 #[.slice none 0 0] w fun e w' => e = .returned (.bool true) ∧ w = w' := by
  go_enter Tryz.func92, Tryz.ntmps92
  go_wp2_with (fail)
  go_loopg [3] 0 (fun gk s3 wr => s3 = .int .i64 0 ∧ w = wr)
  case atStart => exact ⟨rfl, rfl⟩
  case round =>
    obtain ⟨rfl, rfl⟩ := hrel
    go_wp2_with (fail)
    go_ret
    exact ⟨rfl, rfl⟩

set_option maxRecDepth 100000 in
theorem stillPackets_nil {w : World} {g : Nat} (h : w.cell? ⟨g, 16, none⟩ = some (.slice none 0 0)) : Calls Tryz.prog 60 #[.pointer (some ⟨g, 0, none⟩)] w fun e w' => e = .returned (.bool true) ∧ w = w' := by
  go_enter Tryz.func60, Tryz.ntmps60
  go_wp2_with (fail)
  go_loopg [3] 0 (fun gk s3 wr => s3 = .int .i64 0 ∧ w = wr)
  case atStart => exact ⟨rfl, rfl⟩
  case round =>
    obtain ⟨rfl, rfl⟩ := hrel
    go_wp2_with (fail)
    go_ret
    exact ⟨rfl, rfl⟩

set_option maxRecDepth 100000 in
theorem putPackets_nil {w : World} {g : Nat} (h : w.cell? ⟨g, 16, none⟩ = some (.slice none 0 0)) : Calls Tryz.prog 72 #[.pointer (some ⟨g, 0, none⟩)] w fun e w' => e = .returned (.tuple #[]) ∧ w = w' := by
  go_enter Tryz.func72, Tryz.ntmps72
  go_wp2_with (fail)
  go_loopg [2] 0 (fun gk s2 wr => s2 = .int .i64 0 ∧ w = wr)
  case atStart => exact ⟨rfl, rfl⟩
  case round =>
    obtain ⟨rfl, rfl⟩ := hrel
    go_wp2_with (fail)
    go_end0
    exact ⟨rfl, rfl⟩

set_option maxRecDepth 100000 in
theorem growPackets_nil {w : World} {g : Nat} (h : w.cell? ⟨g, 16, none⟩ = some (.slice none 0 0)) : Calls Tryz.prog 82 #[.pointer (some ⟨g, 0, none⟩)] w fun e w' => e = .returned (.slice none 0 0) ∧ w = w' := by
  go_enter Tryz.func82, Tryz.ntmps82
  go_wp2_with (fail)
  go_loopg [3, 4] 0 (fun gk s3 s4 wr => s3 = .slice none 0 0 ∧ s4 = .int .i64 0 ∧ w = wr)
  case atStart => exact ⟨rfl, rfl, rfl⟩
  case round =>
    obtain ⟨rfl, rfl, rfl⟩ := hrel
    go_wp2_with (fail)
    go_ret
    exact ⟨rfl, rfl⟩

set_option maxRecDepth 100000 in
theorem markedPackets_nil (w : World) : Calls Tryz.prog 93 #[.slice none 0 0] w fun e w' => e = .returned (.bool true) ∧ w = w' := by
  go_enter Tryz.func93, Tryz.ntmps93
  go_wp2_with (fail)
  go_loopg [3] 0 (fun gk s3 wr => s3 = .int .i64 0 ∧ w = wr)
  case atStart => exact ⟨rfl, rfl⟩
  case round =>
    obtain ⟨rfl, rfl⟩ := hrel
    go_wp2_with (fail)
    go_ret
    exact ⟨rfl, rfl⟩

set_option maxRecDepth 100000 in
theorem stillEvents_nil {w : World} {g : Nat} (h : w.cell? ⟨g, 18, none⟩ = some (.slice none 0 0)) : Calls Tryz.prog 61 #[.pointer (some ⟨g, 0, none⟩)] w fun e w' => e = .returned (.bool true) ∧ w = w' := by
  go_enter Tryz.func61, Tryz.ntmps61
  go_wp2_with (fail)
  go_loopg [3] 0 (fun gk s3 wr => s3 = .int .i64 0 ∧ w = wr)
  case atStart => exact ⟨rfl, rfl⟩
  case round =>
    obtain ⟨rfl, rfl⟩ := hrel
    go_wp2_with (fail)
    go_ret
    exact ⟨rfl, rfl⟩

set_option maxRecDepth 100000 in
theorem putEvents_nil {w : World} {g : Nat} (h : w.cell? ⟨g, 18, none⟩ = some (.slice none 0 0)) : Calls Tryz.prog 73 #[.pointer (some ⟨g, 0, none⟩)] w fun e w' => e = .returned (.tuple #[]) ∧ w = w' := by
  go_enter Tryz.func73, Tryz.ntmps73
  go_wp2_with (fail)
  go_loopg [2] 0 (fun gk s2 wr => s2 = .int .i64 0 ∧ w = wr)
  case atStart => exact ⟨rfl, rfl⟩
  case round =>
    obtain ⟨rfl, rfl⟩ := hrel
    go_wp2_with (fail)
    go_end0
    exact ⟨rfl, rfl⟩

set_option maxRecDepth 100000 in
theorem growEvents_nil {w : World} {g : Nat} (h : w.cell? ⟨g, 18, none⟩ = some (.slice none 0 0)) : Calls Tryz.prog 83 #[.pointer (some ⟨g, 0, none⟩)] w fun e w' => e = .returned (.slice none 0 0) ∧ w = w' := by
  go_enter Tryz.func83, Tryz.ntmps83
  go_wp2_with (fail)
  go_loopg [3, 4] 0 (fun gk s3 s4 wr => s3 = .slice none 0 0 ∧ s4 = .int .i64 0 ∧ w = wr)
  case atStart => exact ⟨rfl, rfl, rfl⟩
  case round =>
    obtain ⟨rfl, rfl, rfl⟩ := hrel
    go_wp2_with (fail)
    go_ret
    exact ⟨rfl, rfl⟩

set_option maxRecDepth 100000 in
theorem markedEvents_nil (w : World) : Calls Tryz.prog 94 #[.slice none 0 0] w fun e w' => e = .returned (.bool true) ∧ w = w' := by
  go_enter Tryz.func94, Tryz.ntmps94
  go_wp2_with (fail)
  go_loopg [3] 0 (fun gk s3 wr => s3 = .int .i64 0 ∧ w = wr)
  case atStart => exact ⟨rfl, rfl⟩
  case round =>
    obtain ⟨rfl, rfl⟩ := hrel
    go_wp2_with (fail)
    go_ret
    exact ⟨rfl, rfl⟩

set_option maxRecDepth 100000 in
theorem stillSteps_nil {w : World} {g : Nat} (h : w.cell? ⟨g, 20, none⟩ = some (.slice none 0 0)) : Calls Tryz.prog 62 #[.pointer (some ⟨g, 0, none⟩)] w fun e w' => e = .returned (.bool true) ∧ w = w' := by
  go_enter Tryz.func62, Tryz.ntmps62
  go_wp2_with (fail)
  go_loopg [3] 0 (fun gk s3 wr => s3 = .int .i64 0 ∧ w = wr)
  case atStart => exact ⟨rfl, rfl⟩
  case round =>
    obtain ⟨rfl, rfl⟩ := hrel
    go_wp2_with (fail)
    go_ret
    exact ⟨rfl, rfl⟩

set_option maxRecDepth 100000 in
theorem putSteps_nil {w : World} {g : Nat} (h : w.cell? ⟨g, 20, none⟩ = some (.slice none 0 0)) : Calls Tryz.prog 64 #[.pointer (some ⟨g, 0, none⟩)] w fun e w' => e = .returned (.tuple #[]) ∧ w = w' := by
  go_enter Tryz.func64, Tryz.ntmps64
  go_wp2_with (fail)
  go_loopg [2] 0 (fun gk s2 wr => s2 = .int .i64 0 ∧ w = wr)
  case atStart => exact ⟨rfl, rfl⟩
  case round =>
    obtain ⟨rfl, rfl⟩ := hrel
    go_wp2_with (fail)
    go_end0
    exact ⟨rfl, rfl⟩

set_option maxRecDepth 100000 in
theorem growSteps_nil {w : World} {g : Nat} (h : w.cell? ⟨g, 20, none⟩ = some (.slice none 0 0)) : Calls Tryz.prog 84 #[.pointer (some ⟨g, 0, none⟩)] w fun e w' => e = .returned (.slice none 0 0) ∧ w = w' := by
  go_enter Tryz.func84, Tryz.ntmps84
  go_wp2_with (fail)
  go_loopg [3, 4] 0 (fun gk s3 s4 wr => s3 = .slice none 0 0 ∧ s4 = .int .i64 0 ∧ w = wr)
  case atStart => exact ⟨rfl, rfl, rfl⟩
  case round =>
    obtain ⟨rfl, rfl, rfl⟩ := hrel
    go_wp2_with (fail)
    go_ret
    exact ⟨rfl, rfl⟩

set_option maxRecDepth 100000 in
theorem markedSteps_nil (w : World) : Calls Tryz.prog 95 #[.slice none 0 0] w fun e w' => e = .returned (.bool true) ∧ w = w' := by
  go_enter Tryz.func95, Tryz.ntmps95
  go_wp2_with (fail)
  go_loopg [3] 0 (fun gk s3 wr => s3 = .int .i64 0 ∧ w = wr)
  case atStart => exact ⟨rfl, rfl⟩
  case round =>
    obtain ⟨rfl, rfl⟩ := hrel
    go_wp2_with (fail)
    go_ret
    exact ⟨rfl, rfl⟩
end Go.Ev

namespace Go.Ev
open Go.RowKit

theorem run_append_full {P : Program} (w : World) {t ty e : TypeId} {i : TypeInfo} {z : Value} {size bytes : Nat} (ht : P.underlying t = some (.slice e)) (hi : P.info? e = some i) (hz : i.zero = some z)
    (hsize : i.size = size) (hby : i.bytes = bytes) (hzs : z.cells.size = size) (hsz : 0 < size) {A : Option Addr} {n : Nat} {xs : List Value} (hsl : Sl w size (.slice A n n) n xs) (hA : A = none → n = 0)
    {a : Addr} {m c : Nat} {news : List Value} (hl : news.length = m * size) (hnews : ∀ j u, news[j]? = some u → w.cell? (a.add j) = some u) (h1 : ∀ u ∈ news, u.oneCell' = true) (hm : 0 < m)
    (h63 : n + m ≤ maxLen) (hbytes : (n + m) * bytes ≤ 140737488355328) :
    ∃ v' w', (Builtin.append_ #[t, t] ty #[.slice A n n, .slice (some a) m c]).run P w = .ok v' w' ∧ w'.ownsRow w.heap.size e size v' (n + m) (xs ++ news) ∧ Below w.heap.size w w' := by
  cases A with
  | none =>
    have hn := hA rfl
    subst hn
    obtain ⟨_, _, e0, _, h2, _⟩ := hsl
    have hx : xs = [] := List.eq_nil_of_length_eq_zero (by simpa using h2)
    subst hx
    obtain ⟨v', w', hr, ho, hg, _⟩ := run_append_own (P := P) w w.heap.size t ty e i z size bytes ht hi hz hsize hby hzs hsz (.slice none 0 0) 0 [] (World.ownsRow_nil _ _ _ _) a m c news hl hnews h1 h63 hbytes (Nat.le_refl _)
    exact ⟨v', w', hr, ho, (Below.refl _ w).grown hg (Nat.le_refl _) fun k hk => by cases hk⟩
  | some ad =>
    subst hsize hby
    have hsmall : n + m ≤ 9223372036854775807 := by simp only [maxLen] at h63; omega
    obtain ⟨A', c', e0, _, h2, h3⟩ := hsl
    cases e0
    have holds : ∀ j v, xs[j]? = some v → w.cell? (ad.add j) = some v := fun j v hv => by
      have hj := (List.getElem?_eq_some_iff.1 hv).1
      have hn : 0 < n := by
        cases n with
        | zero => rw [h2] at hj; simp at hj
        | succ n => omega
      obtain ⟨b, o, e1, _, h4⟩ := h3 hn
      cases e1
      rw [addr_add]
      exact h4 j v hv
    have hr := run_append_grow (P := P) w t ty e i z ht hi hz ad n n xs h2 holds a m c news hl hnews (by omega) (by omega) (growslice_fits (by omega) hbytes)
    have hlen : (xs ++ news).length = (n + m) * i.size := by rw [List.length_append, h2, hl, Nat.add_mul]
    have hge := grownCap_ge w (n + m) n e
    have hcm : grownCap w (n + m) n e ≤ maxLen := grownCap_le_maxLen w (n + m) n e h63
    refine ⟨_, _, hr, ⟨hlen, .inr ⟨w.heap.size, _, _, rfl, Nat.le_refl _, heap_alloc_new w.drew _, hge, hcm, ?_, ?_⟩⟩, ((Below.refl w.heap.size w).drew).alloc (Nat.le_refl _) _⟩
    · simp only [Array.size_append, List.size_toArray, size_zeroCells, hzs, h2, hl, ← Nat.add_mul]
      congr 1
      omega
    · simp only [Array.toList_append, List.append_assoc]
      rw [← List.append_assoc, ← hlen]
      exact List.take_left

theorem wpList_append_full {P : Program} {w : World} {ops : Array Oper} {rest : List Oper} {o : Oper} {a : Act} {Q : Exit → Act → World → Prop} (hgd : o.guard = none) (s x : Operand) (t : TypeId)
    (ho : o.op = .call { callee := .builtin .append, args := #[s, x], argTypes := #[t, t] })
    (e : TypeId) (i : TypeInfo) (z : Value) (size bytes : Nat) (ht : P.underlying t = some (.slice e)) (hi : P.info? e = some i) (hz : i.zero = some z)
    (hsize : i.size = size) (hby : i.bytes = bytes) (hzs : z.cells.size = size) (hsz : 0 < size)
    (A : Option Addr) (n : Nat) (xs : List Value) (hs : a.eval s = .slice A n n) (hsl : Sl w size (.slice A n n) n xs) (hA : A = none → n = 0)
    (ad : Addr) (m c : Nat) (news : List Value) (hx : a.eval x = .slice (some ad) m c) (hl : news.length = m * size) (hnews : ∀ j u, news[j]? = some u → w.cell? (ad.add j) = some u) (h1 : ∀ u ∈ news, u.oneCell' = true) (hm : 0 < m)
    (h63 : n + m ≤ maxLen) (hbytes : (n + m) * bytes ≤ 140737488355328)
    (h : ∀ v' w', w'.ownsRow w.heap.size e size v' (n + m) (xs ++ news) → Below w.heap.size w w' → wpList P ops Q rest (a.put o.dst v') w') : wpList P ops Q (o :: rest) a w :=
  wpList_plain hgd fun _ hK => by
    obtain ⟨v', w', hr, h2, h3⟩ := run_append_full (P := P) (ty := o.type) w ht hi hz hsize hby hzs hsz hsl hA hl hnews h1 hm h63 hbytes
    unfold Oper.wp execOp
    simp only [ho, resolve, invoke, builtin, Sem.run_bind, Sem.run_pure, Result.andThen_ok, List.map_toArray, List.map_cons, List.map_nil, hs, hx]
    rw [hr]
    exact hK _ _ (h v' w' h2 h3)
end Go.Ev

set_option linter.unusedVariables false
set_option linter.unusedSimpArgs false
namespace Go.Ev
open Go.Joins Go.ChangeShapes Go.WideShapes Go.RowKit Go.Deep

structure OpK where
  kind : Int
  key : Bytes

def opkCs (o : OpK) : List Value := [.int .i64 o.kind, strV o.key]
def opksCs : List OpK → List Value
  | [] => []
  | o :: l => opkCs o ++ opksCs l
theorem opksCs_len : ∀ l : List OpK, (opksCs l).length = l.length * 2
  | [] => rfl
  | o :: l => by simp [opksCs, opkCs, opksCs_len l]; omega
theorem opksCs_at : ∀ (l : List OpK) (k : Nat) (hk : k < l.length), (opksCs l)[k * 2]? = some (.int .i64 l[k].kind) ∧ (opksCs l)[k * 2 + 1]? = some (strV l[k].key)
  | o :: l, 0, _ => ⟨rfl, rfl⟩
  | o :: l, k + 1, h => by
    have ih := opksCs_at l k (by simpa using h)
    rw [show (k + 1) * 2 = k * 2 + 2 by omega]
    simpa [opksCs, opkCs] using ih

/-- A row that reads as these steps. -/
def OpksAt (w : World) (v : Value) (l : List OpK) : Prop := Sl w 2 v l.length (opksCs l) ∧ l.length ≤ maxLen ∧ ∀ o ∈ l, o.key.length ≤ maxLen

theorem OpksAt.below {w w' : World} {v : Value} {l : List OpK} (h : OpksAt w v l) (hb : Below w.heap.size w w') : OpksAt w' v l := ⟨h.1.below hb, h.2⟩

section
variable {H : Type} {enc : TypeId × Value → H} {P : Program} {w : World} {base : Nat} {spare : Nat → Bool} {held : Bool}

theorem slice_opks {t e : TypeId} {gs : Array Field} {fuel : Nat} {v : Value} {y : DataW H × List MemPlace} (ht : P.underlying t = some (.slice e)) (he : P.underlying e = some (.struct gs)) (hone : oneCellFields P gs = true) (hC : P.cellsOf e = 2)
    {g0 g1 : Field} (h0 : gs[0]? = some g0) (h1 : gs[1]? = some g1) (t0 : P.underlying g0.type = some (.int .i64)) (t1 : P.underlying g1.type = some .string)
    (h : DataW.trod enc P w base spare held fuel t [v] = some y) : ∃ l, OpksAt w v l := by
  rcases open_slice ht h with ⟨e0, _⟩ | ⟨a, len, cap, m, n, D, Pl, e0, hb, hl, hm, hmm, hx, hi⟩
  · simp only [List.cons.injEq, and_true] at e0
    subst e0
    exact ⟨[], Sl.nil .., Nat.zero_le _, fun o ho => by cases ho⟩
  · simp only [List.cons.injEq, and_true] at e0
    subst e0
    have hlm : len ≤ m := by rw [hmm]; split <;> omega
    rcases Nat.eq_zero_or_pos len with hz0 | hz0
    · subst hz0
      exact ⟨[], Sl.nil .., Nat.zero_le _, fun o ho => by cases ho⟩
    rw [hC] at hi
    have hsp : a.spot = none ∧ a.block < w.heap.size := by
      obtain ⟨cs', q1, q2⟩ := hi 0 (by omega)
      obtain ⟨_, hlen, hat⟩ := World.cells?_some q1
      have q3 := hat 0 (by omega)
      rw [List.getElem?_eq_getElem (by omega)] at q3
      simp [Addr.add] at q3
      unfold World.cell? at q3
      split at q3
      · rename_i c e' fz hq
        split at q3
        · cases q3
        · rename_i hs'
          exact ⟨by simpa using hs', (Array.getElem?_eq_some_iff.1 hq).1⟩
      · cases q3
    obtain ⟨bl, of, sp⟩ := a
    obtain ⟨hsp, hbl⟩ := hsp
    simp only at hsp
    subst hsp
    have hop : ∀ j, j < len → ∃ o : OpK, o.key.length ≤ maxLen ∧ ∀ r u, (opkCs o)[r]? = some u → w.cell? ⟨bl, of + (j * 2 + r), none⟩ = some u := by
      intro j hj
      obtain ⟨cs', q1, q2⟩ := hi j (by omega)
      obtain ⟨_, hlen, hat⟩ := World.cells?_some q1
      obtain ⟨xs, n', _, _, _, hxl, hf⟩ := DataW.trod_struct he q2
      have field : ∀ off g, gs[off]? = some g → off < 2 → ∃ y u, cs'[off]? = some u ∧ DataW.trod enc P w base spare held n' g.type [u] = some y ∧ w.cell? ⟨bl, of + (j * 2 + off), none⟩ = some u := by
        intro off g hg hoff
        obtain ⟨ho, hk⟩ := hone_of hone off g hg
        have q3 := hf off g hg
        have hgs : off < gs.size := (Array.getElem?_eq_some_iff.1 hg).1
        rw [ho, hk, List.getElem?_eq_getElem (by omega)] at q3
        have q4 : (cs'.drop off).take 1 = [cs'[off]'(by omega)] := by rw [List.drop_eq_getElem_cons (by omega)]; rfl
        rw [q4] at q3
        refine ⟨_, cs'[off]'(by omega), List.getElem?_eq_getElem (by omega), q3, ?_⟩
        have q7 := hat off hoff
        rw [List.getElem?_eq_getElem (by omega), addr_add, addr_add, Nat.add_assoc] at q7
        exact q7
      obtain ⟨_, u0, _, f0, c0⟩ := field 0 g0 h0 (by omega)
      obtain ⟨_, u1, _, f1, c1⟩ := field 1 g1 h1 (by omega)
      obtain ⟨k, e0, _, _⟩ := DataW.trod_int t0 f0
      obtain ⟨s1, e1, _, b1⟩ := DataW.trod_string t1 f1
      simp only [List.cons.injEq, and_true] at e0 e1
      subst e0 e1
      refine ⟨⟨k, s1.data.toList⟩, b1, fun r u hu => ?_⟩
      match r with
      | 0 => cases hu; exact c0
      | 1 => cases hu; exact c1
      | r + 2 => simp [opkCs] at hu
    obtain ⟨l, hlen, hl'⟩ := list_of hop
    subst hlen
    refine ⟨l, ⟨_, _, rfl, hl, opksCs_len l, fun _ => ⟨bl, of, rfl, hbl, fun j u hu => ?_⟩⟩, Nat.le_trans hl hm, fun o ho => ?_⟩
    · have hj : j < l.length * 2 := by rw [← opksCs_len]; exact (List.getElem?_eq_some_iff.1 hu).1
      have hd : j / 2 < l.length := by omega
      obtain ⟨a0, a1⟩ := opksCs_at l (j / 2) hd
      have := (hl' (j / 2) hd).2
      have hjj : j = j / 2 * 2 + j % 2 := by omega
      have hr : j % 2 = 0 ∨ j % 2 = 1 := by omega
      rw [hjj]
      rcases hr with hr | hr <;> rw [hr] at hjj ⊢ <;> rw [hjj] at hu
      · refine this 0 u ?_; rw [Nat.add_zero, a0] at hu; exact hu
      · refine this 1 u ?_; rw [a1] at hu; exact hu
    · obtain ⟨j, hj, rfl⟩ := List.getElem_of_mem ho
      exact (hl' j hj).1
end
end Go.Ev
