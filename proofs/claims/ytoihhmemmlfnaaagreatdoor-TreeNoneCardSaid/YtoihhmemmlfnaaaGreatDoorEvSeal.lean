/-
  A page is laid into a text, whatever it is: some text, some number of an error.
-/
import Derived.Test.YtoihhmemmlfnaaaGreatDoorEvBase
import Derived.Laws.MakeOwn
import Derived.Test.YtoihhmemmlfnaaaGreatDoorEvLayB
import Derived.Test.YtoihhmemmlfnaaaGreatDoorEvCrc
import Derived.Shelf.Strings.BuilderF
import Derived.Shelf.Strings.Repeat
namespace Go.Ev
open Go.Proofs Go.RowKit

/-- The first bytes of a number, the lowest first; the others are none yet. -/
def fixArr (v n j : Nat) : Array Value := ((List.range n).map fun k => Value.int .u8 (if k < j then ((v / 2 ^ (8 * k) % 256 : Nat) : Int) else 0)).toArray

theorem bytes_fix (W : World) (b k n : Nat) (c : Nat) (h : ∀ j, j < n → ∃ x : UInt8, W.cell? ⟨b, k + j, none⟩ = some (.int .u8 x.toNat)) :
    ∃ t : ByteArray, t.size = n ∧ (convert 135 9 (.slice (some ⟨b, k, none⟩) n c)).run Tryz.prog W = .ok (.string t) W := by
  rw [run_convert_bytes_string W _ _ 5 _ _ _ Tryz.underlying135 Tryz.underlying5 Tryz.underlying9]
  have h' : ∀ j, ∃ x : UInt8, j < n → W.cell? ⟨b, k + j, none⟩ = some (.int .u8 x.toNat) := fun j => by
    by_cases hj : j < n
    · obtain ⟨x, hx⟩ := h j hj; exact ⟨x, fun _ => hx⟩
    · exact ⟨0, fun e => absurd e hj⟩
  obtain ⟨f, hf⟩ := Classical.axiomOfChoice h'
  have hl := run_loadCells_list (P := Tryz.prog) (w := W) ⟨b, k, none⟩ ((((List.range n).map fun j => ((f j).toNat : Int))).map (Value.int .u8)) (fun j v hj => by
    rw [List.map_map, List.getElem?_map, Option.map_eq_some_iff] at hj
    obtain ⟨i, hi, rfl⟩ := hj
    obtain ⟨h1, h2⟩ := List.getElem?_eq_some_iff.1 hi
    rw [List.getElem_range] at h2
    subst h2
    rw [Addr.add_lit]
    exact hf _ (by simpa using h1))
  simp only [List.length_map, List.length_range] at hl
  have hr := run_bytesToString W ⟨b, k, none⟩ n c _ hl
  refine ⟨_, ?_, hr⟩
  have hsz : ∀ (l : List Int) (r : ByteArray), (l.foldl (fun r n => r.push (UInt8.ofNat n.toNat)) r).size = r.size + l.length := by
    intro l
    induction l with
    | nil => intro r; rfl
    | cons x l ih => intro r; rw [List.foldl_cons, ih, List.length_cons, ByteArray.size_push]; omega
  rw [hsz]
  simp

theorem fix_set (v n j : Nat) : (fixArr v n j).setIfInBounds j (Value.int .u8 ((v : Int) / 2 ^ (8 * j) % 256)) = fixArr v n (j + 1) := by
  apply Array.ext'
  unfold fixArr
  rw [Array.toList_setIfInBounds]
  apply List.ext_getElem?
  intro k
  rw [List.getElem?_set]
  by_cases hk : k < n
  · by_cases hj : j = k
    · subst hj
      simp [hk]
    · have e : (k < j + 1) ↔ (k < j) := by omega
      simp [hk, hj, e]
  · by_cases hj : j = k
    · subst hj
      simp [hk]
    · simp [hk, hj]

theorem fix_cell (v n j k : Nat) (hk : k < n) : (fixArr v n j)[k]? = some (.int .u8 (UInt8.ofNat (if k < j then v / 2 ^ (8 * k) % 256 else 0)).toNat) := by
  rw [UInt8.toNat_ofNat_of_lt' (by split <;> first | exact Nat.mod_lt _ (by decide) | decide)]
  unfold fixArr
  simp [hk]
  split <;> simp

theorem made_fix (v n : Nat) : madeCells #[Value.int .u8 0] (n * 1) = fixArr v n 0 := by
  apply Array.ext'
  simp [fixArr, madeCells, Nat.mod_one]

set_option maxHeartbeats 1000000 in
set_option maxRecDepth 100000 in
theorem fix_any (v n : Nat) (w : World) (hn1 : 1 ≤ n) (hn7 : n ≤ 7) (hv : v < 2 ^ (8 * n)) :
    Calls Tryz.prog 112 #[.int .i64 v, .int .i64 n] w fun e w' => (∃ t : ByteArray, e = .returned (.tuple #[.string t, .int .i64 0]) ∧ t.size = n) ∧ Below w.heap.size w w' := by
  obtain ⟨i0, hi, hz0, hz1, hz2⟩ := info_parts (show (Tryz.prog.info? 5).map (fun i => (i.zero, i.size, i.bytes)) = some (some (.int .u8 0), 1, 1) by kernel_rfl)
  have hmk := run_makeSlice (P := Tryz.prog) w 135 5 i0 (.int .u8 0) Tryz.underlying135 hi hz0 .i64 .i64 (n : Int) n (by omega) (by omega) (by rw [hz1]; omega) (by rw [hz2]; omega) (by omega)
  rw [hz1] at hmk
  simp only [Int.toNat_natCast] at hmk
  rw [show Value.cells (.int .u8 0) = #[.int .u8 0] from rfl, made_fix v n] at hmk
  go_enter Tryz.func112, Tryz.ntmps112
  go_wp2
  · rename_i h
    exfalso
    have h0 : (v : Int) / 2 ^ (8 * n) = 0 := by
      have : v / 2 ^ (8 * n) = 0 := Nat.div_eq_of_lt hv
      rw [← Int.natCast_zero, ← this]
      simp
    simp [h0] at h
    omega
  · clear hmk
    go_loopw [29] (fun i wr => ∃ j : Nat, j ≤ n ∧ i = .int .i64 (j : Int) ∧ wr = w.alloc (.cells (fixArr v n j) 5)) (fun i _ => n - (intOf i).toNat)
    case atStart => exact ⟨0, by omega, rfl, rfl⟩
    case round =>
      obtain ⟨j, hj, rfl, rfl⟩ := hrel
      rcases Nat.lt_or_ge j n with hlt | hge
      · have hcell := (World.cell?_alloc_at (w := w) (fixArr v n j) 5 w.heap.size j rfl).trans (fix_cell v n j j hlt)
        have hfz : (w.alloc (.cells (fixArr v n j) 5)).frozen? ⟨w.heap.size, j, none⟩ = false := World.frozen?_alloc_at _ _ w.heap.size j rfl
        go_wp2
        · refine ⟨⟨j + 1, by omega, rfl, by rw [fix_set]⟩, ?_⟩
          simp only [intOf]
          omega
      · obtain rfl : j = n := by omega
        obtain ⟨t, ht, hcv⟩ := bytes_fix (w.alloc (.cells (fixArr v j j) 5)) w.heap.size 0 j j (fun k hk => by
          rw [World.cell?_alloc_at _ _ w.heap.size _ rfl, Nat.zero_add]
          exact ⟨_, fix_cell v j j k hk⟩)
        go_wp2
        go_ret2
        exact ⟨⟨t, rfl, ht⟩, (Below.refl _ _).alloc (Nat.le_refl _) _⟩
end Go.Ev

namespace Go.Ev
open Go.Proofs Go.RowKit

/-- A builder that holds so many bytes. -/
def Bld (B b L : Nat) (w : World) : Prop := ∃ l : List UInt8, l.length = L ∧ Lib.IsBuilderF 137 5 B b (Lib.byteCells l) w

theorem at_below {T e : TypeId} {B b : Nat} {p : Value} {bs : List Value} {w w' : World} (h : Lib.BuilderAtF T e B b p bs w) (hb : Below w.heap.size w w') : Lib.BuilderAtF T e B b p bs w' := by
  have hlt := h.lt
  obtain ⟨hB, v, hbk, hown, hne⟩ := h
  exact ⟨hB, v, (hb.block b hlt).trans hbk, hown.kept (row := none) ⟨hb.os, hb.tape, hb.output, hb.size, fun k hk _ => hb.block k hk⟩ (by cases v.ownBlock <;> simp), hne⟩

theorem Bld.below {B b L : Nat} {w w' : World} (h : Bld B b L w) (hb : Below w.heap.size w w') : Bld B b L w' := by
  obtain ⟨l, hl, h | h⟩ := h
  · exact ⟨l, hl, .inl (at_below h hb)⟩
  · exact ⟨l, hl, .inr (at_below h hb)⟩

theorem Bld.fresh (w : World) : Bld w.heap.size w.heap.size 0 (w.alloc (.cells #[.pointer none, .slice none 0 0] 137)) :=
  ⟨[], rfl, .of (Lib.fresh_isBuilder _ _ w)⟩

theorem write_string {B b L : Nat} {w : World} (h : Bld B b L w) (s : ByteArray) (hL : L + s.size ≤ 1000000) (hBw : B ≤ w.heap.size) :
    Calls Tryz.prog 71 #[.pointer (some ⟨b, 0, none⟩), .string s] w fun e w' => e = .returned (.tuple #[.int .i64 s.size, .nilIface]) ∧ Bld B b (L + s.size) w' ∧ Below B w w' := by
  obtain ⟨l, rfl, h⟩ := h
  refine (Any.Builder_WriteString_f Tryz.bString Tryz.bX B b (Lib.byteCells l) s w h (by rw [Lib.byteCells_length]; omega) hBw).mono ?_
  rintro e w' ⟨rfl, h1, h2⟩
  refine ⟨rfl, ⟨l ++ s.data.toList, by rw [List.length_append, Lib.size_eq], .inr ?_⟩, h2⟩
  rw [Lib.byteCells_append, ← Lib.strCells_eq]
  exact h1

theorem write_first {B b : Nat} {w : World} (h : Lib.IsBuilder 137 5 B b [] w) (c : Int) (hc0 : 0 ≤ c) (hc : c < 256) (hBw : B ≤ w.heap.size) :
    Calls Tryz.prog 69 #[.pointer (some ⟨b, 0, none⟩), .int .u8 c] w fun e w' => e = .returned .nilIface ∧ Bld B b 1 w' ∧ Below B w w' := by
  refine (Any.Builder_WriteByte Tryz.bByte Tryz.bX B b [] c w h (by simp) hBw).mono ?_
  rintro e w' ⟨rfl, h1, h2⟩
  refine ⟨rfl, ⟨[UInt8.ofNat c.toNat], rfl, .of (.inr ?_)⟩, h2⟩
  have : ((UInt8.ofNat c.toNat).toNat : Int) = c := by
    rw [UInt8.toNat_ofNat_of_lt' (by show c.toNat < 256; omega)]; omega
  have e : Lib.byteCells [UInt8.ofNat c.toNat] = [] ++ [Value.int .u8 c] := by
    show [Value.int .u8 ((UInt8.ofNat c.toNat).toNat : Int)] = [Value.int .u8 c]
    rw [this]
  rw [e]
  exact h1

theorem build_len {B b L : Nat} {w : World} (h : Bld B b L w) :
    Calls Tryz.prog 73 #[.pointer (some ⟨b, 0, none⟩)] w fun e w' => e = .returned (.int .i64 L) ∧ w' = w := by
  obtain ⟨l, rfl, h⟩ := h
  refine (Any.Builder_Len_f Tryz.bLen B b (Lib.byteCells l) w h).mono ?_
  rintro e w' ⟨rfl, rfl⟩
  exact ⟨by rw [Lib.byteCells_length], rfl⟩

theorem build_text {B b L : Nat} {w : World} (h : Bld B b L w) (hBw : B ≤ w.heap.size) :
    Calls Tryz.prog 75 #[.pointer (some ⟨b, 0, none⟩)] w fun e w' => (∃ t : ByteArray, e = .returned (.string t) ∧ t.size = L) ∧ Bld B b L w' ∧ Below B w w' := by
  obtain ⟨l, rfl, h⟩ := h
  refine (Any.Builder_String_any_f Tryz.bText Tryz.bX B b l w h hBw).mono ?_
  rintro e w' ⟨rfl, h1, h2⟩
  exact ⟨⟨_, rfl, by simp [ByteArray.size]⟩, ⟨l, rfl, h1⟩, h2⟩

theorem rX : Builder.Extra Tryz.prog Tryz.repeatL_ren := {
  sizeBuilder := by kernel_rfl
  liesBuilder := by kernel_rfl
  t5 := Tryz.underlying5
  a5 := Tryz.isAgg5
  z5 := Tryz.sizeOf5
  v5 := Tryz.zeroValue5
  infoByte := by kernel_rfl
  cellsByte := by kernel_rfl
  sizeByte := by kernel_rfl
  neB5 := by decide
}

theorem repeat_zero (m : Int) (w : World) (hm : 0 ≤ m) (hn : m ≤ 1000000) :
    Calls Tryz.prog 72 #[.string ⟨#[0]⟩, .int .i64 m] w fun e w' => (∃ t : ByteArray, e = .returned (.string t) ∧ t.size = m.toNat) ∧ Below w.heap.size w w' := by
  obtain ⟨n, rfl⟩ : ∃ k : Nat, m = k := ⟨m.toNat, by omega⟩
  refine (Any.strings_Repeat Tryz.repeatL rX ⟨#[0]⟩ n w (by omega) (by show 1 * n ≤ _; omega)).mono ?_
  rintro e w' ⟨rfl, h2⟩
  exact ⟨⟨_, rfl, by simp [ByteArray.size, Lib.repeatL_length]⟩, h2⟩

set_option maxHeartbeats 1000000 in
theorem in_any (n a b : Int) (w : World) : Calls Tryz.prog 68 #[.int .i64 n, .int .i64 a, .int .i64 b] w fun e w' => e = .returned (.bool (decide (a ≤ n) && decide (n ≤ b))) ∧ w' = w := by
  go_enter Tryz.func68, Tryz.ntmps68
  go_wp2
  · rename_i h
    go_ret
    exact ⟨by simp [h], rfl⟩
  · rename_i h
    go_ret
    exact ⟨by simp [show ¬ a ≤ n by omega], rfl⟩

set_option maxHeartbeats 1000000 in
theorem put_any {B b L : Nat} {w : World} (h : Bld B b L w) (v m : Int) (n : Nat) (hm : m = n) (hn1 : 1 ≤ n) (hn7 : n ≤ 7) (hv0 : 0 ≤ v) (hv : v.toNat < 2 ^ (8 * n)) (hL : L + n ≤ 1000000) (hBw : B ≤ w.heap.size) :
    Calls Tryz.prog 70 #[.pointer (some ⟨b, 0, none⟩), .int .i64 v, .int .i64 m] w fun e w' => e = .returned (.tuple #[]) ∧ Bld B b (L + n) w' ∧ Below B w w' := by
  subst hm
  obtain ⟨v, rfl⟩ : ∃ k : Nat, v = k := ⟨v.toNat, by omega⟩
  simp only [Int.toNat_natCast] at hv
  go_enter Tryz.func70, Tryz.ntmps70
  go_wp2_with (first
    | (go_at_call 112; refine (fix_any v n _ hn1 hn7 hv).mono ?_; rintro e w1 ⟨⟨t, rfl, ht⟩, hb1⟩; have h1 := h.below hb1; have hz1 := hb1.size)
    | (go_at_call 71; refine (write_string h1 t (by omega) (by omega)).mono ?_; rintro e w2 ⟨rfl, h2, hb2⟩))
  refine bodyPost_end (results_none rfl _ _ _) rfl ?_
  exact ⟨rfl, ht ▸ h2, (hb1.mono hBw).trans hb2⟩

theorem Bld.alloc {B b L : Nat} {w : World} (h : Bld B b L w) (o : Obj) : Bld B b L (w.alloc o) := h.below ((Below.refl _ _).alloc (Nat.le_refl _) o)

theorem fresh_at (w : World) (o : Obj) : Lib.IsBuilder 137 5 (w.heap.size + 1) (w.heap.size + 1) [] ((w.alloc o).alloc (.cells #[.pointer none, .slice none 0 0] 137)) := by
  have := Lib.fresh_isBuilder 137 5 (w.alloc o)
  rwa [show (w.alloc o).heap.size = w.heap.size + 1 by simp] at this

theorem crc_lt (t : ByteArray) : (((crcT [t] [t].length ^^^ 0xffffffff : Nat) : Int)).toNat < 2 ^ (8 * 4) := by
  rw [Int.toNat_natCast]
  exact Nat.xor_lt_two_pow (n := 32) (allN_lt _ _ (by decide)) (by decide)

theorem crc_one (g : Nat) (t : ByteArray) (w : World) (ht : t.size ≤ 4294967296) (hc : w.cell? ⟨g, 0, none⟩ = some (.string t)) :
    Calls Tryz.prog 74 #[.slice (some ⟨g, 0, none⟩) 1 1] w fun e w' => e = .returned (.int .i64 (crcT [t] [t].length ^^^ 0xffffffff : Nat)) ∧ w' = w := by
  refine crc_any g 0 1 [t] w (by simp) (by simpa using ht) (fun j s hj => ?_)
  match j, hj with
  | 0, hj => cases hj; exact hc
  | j + 1, hj => simp at hj

set_option maxHeartbeats 2000000 in
set_option maxRecDepth 100000 in
theorem seal_any (id kind next : Int) (body : ByteArray) (w : World) :
    Calls Tryz.prog 31 #[.int .i64 id, .agg #[.int .i64 kind, .int .i64 next, .string body]] w fun e w' => (∃ (t : ByteArray) (k : Int), e = .returned (.tuple #[.string t, .int .i64 k])) ∧ Below w.heap.size w w' := by
  have hc : ∀ {W W' : World} (k : Nat) (v : Value), Below (w.heap.size + 1) W W' → W.cell? ⟨w.heap.size, k, none⟩ = some v → W'.cell? ⟨w.heap.size, k, none⟩ = some v := fun k v hb h => (hb.cell (p := ⟨w.heap.size, k, none⟩) (Nat.lt_succ_self _)).trans h
  have hA : Below w.heap.size w ((w.alloc (.cells #[.int .i64 kind, .int .i64 next, .string body] 23)).alloc (.cells #[.pointer none, .slice none 0 0] 137)) := ((Below.refl _ _).alloc (Nat.le_refl _) _).alloc (by simp) _
  have hN : ((w.alloc (.cells #[.int .i64 kind, .int .i64 next, .string body] 23)).alloc (.cells #[.pointer none, .slice none 0 0] 137)).cell? ⟨w.heap.size, 1, none⟩ = some (.int .i64 next) := (World.cell?_alloc_past _ _ _ (by simp)).trans (World.cell?_alloc_at _ _ _ 1 rfl)
  have hT : ((w.alloc (.cells #[.int .i64 kind, .int .i64 next, .string body] 23)).alloc (.cells #[.pointer none, .slice none 0 0] 137)).cell? ⟨w.heap.size, 2, none⟩ = some (.string body) := (World.cell?_alloc_past _ _ _ (by simp)).trans (World.cell?_alloc_at _ _ _ 2 rfl)
  go_enter Tryz.func31, Tryz.ntmps31
  go_wp2_with (first
    | (go_at_call 68; refine (in_any _ _ _ _).mono ?_; rintro e w1 ⟨rfl, rfl⟩)
    | (go_at_call 69; refine (write_first (fresh_at w _) _ (by omega) (by omega) (by simp <;> omega)).mono ?_; rintro e w1 ⟨rfl, g1, hb1⟩; have z1 := hb1.size; (try simp at z1); replace hN := hc 1 _ hb1 hN; replace hT := hc 2 _ hb1 hT)
    | (go_at_call 75; refine (build_text g8 (by omega)).mono ?_; rintro e w9 ⟨⟨t9, rfl, h9⟩, g9, hb9⟩)
    | (go_at_call 70; refine (put_any (g7.alloc _) _ 4 4 rfl (by decide) (by decide) (Int.natCast_nonneg _) (crc_lt _) (by omega) (by simp <;> omega)).mono ?_; rintro e w8 ⟨rfl, g8, hb8⟩; have z8 := hb8.size; (try simp at z8))
    | (go_at_call 74; refine (crc_one _ t7 _ (by omega) (World.cell?_alloc_at _ _ _ 0 rfl)).mono ?_; rintro e wc ⟨rfl, rfl⟩)
    | (go_at_call 75; refine (build_text g6 (by omega)).mono ?_; rintro e w7 ⟨⟨t7, rfl, h7⟩, g7, hb7⟩; have z7 := hb7.size)
    | (go_at_call 71; refine (write_string (g5.below hbr) tr (by omega) (by omega)).mono ?_; rintro e w6 ⟨rfl, g6, hb6⟩; have z6 := hb6.size)
    | (go_at_call 72; refine (repeat_zero _ _ (by omega) (by omega)).mono ?_; rintro e wr ⟨⟨tr, rfl, hr⟩, hbr⟩; have zr := hbr.size)
    | (go_at_call 73; refine (build_len g5).mono ?_; rintro e wl ⟨rfl, rfl⟩)
    | (go_at_call 71; refine (write_string g4 body (by omega) (by omega)).mono ?_; rintro e w5 ⟨rfl, g5, hb5⟩; have z5 := hb5.size)
    | (go_at_call 70; refine (put_any g3 _ 2 2 rfl (by decide) (by decide) (by omega) (by omega) (by omega) (by omega)).mono ?_; rintro e w4 ⟨rfl, g4, hb4⟩; have z4 := hb4.size; replace hN := hc 1 _ hb4 hN; replace hT := hc 2 _ hb4 hT)
    | (go_at_call 70; refine (put_any g2 _ 4 4 rfl (by decide) (by decide) (by omega) (by omega) (by omega) (by omega)).mono ?_; rintro e w3 ⟨rfl, g3, hb3⟩; have z3 := hb3.size; replace hN := hc 1 _ hb3 hN; replace hT := hc 2 _ hb3 hT)
    | (go_at_call 70; refine (put_any g1 _ 4 4 rfl (by decide) (by decide) (by omega) (by omega) (by omega) (by omega)).mono ?_; rintro e w2 ⟨rfl, g2, hb2⟩; have z2 := hb2.size; replace hN := hc 1 _ hb2 hN; replace hT := hc 2 _ hb2 hT))
  · go_ret2
    exact ⟨⟨_, _, rfl⟩, (Below.refl _ _).alloc (Nat.le_refl _) _⟩
  · go_ret2
    exact ⟨⟨_, _, rfl⟩, (Below.refl _ _).alloc (Nat.le_refl _) _⟩
  · go_ret2
    refine ⟨⟨_, _, rfl⟩, hA.trans ?_⟩
    exact ((((((((((hb1.trans hb2).trans hb3).trans hb4).trans hb5).trans (hbr.mono (by omega))).trans hb6).trans hb7).alloc (by omega) _).trans hb8).trans hb9).mono (by omega)
  · go_ret2
    exact ⟨⟨_, _, rfl⟩, (Below.refl _ _).alloc (Nat.le_refl _) _⟩
  · go_ret2
    exact ⟨⟨_, _, rfl⟩, (Below.refl _ _).alloc (Nat.le_refl _) _⟩
end Go.Ev
