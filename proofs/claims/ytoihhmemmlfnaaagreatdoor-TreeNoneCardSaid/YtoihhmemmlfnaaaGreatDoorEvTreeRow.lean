/-
  The law arboretumlaw11.TreeNone holds, whatever key, value and page it is handed: its text and the pager's Make are walked over what they call; the rest is evaluated, in the kernel, by an evaluator that is proved sound for every order and every answer of the tape; conditions: the row's own (the listed variables are as the program's text lays them).
-/
import Derived.Lib.SmallJoins
import Derived.Test.YtoihhmemmlfnaaaGreatDoorEvTreeLaw
import Derived.Test.YtoihhmemmlfnaaaGreatDoorTie
import Derived.Test.YtoihhmemmlfnaaaGreatDoorCards
import Derived.ProofKit
import Derived.OpenShut
import Derived.ChangeMaps5
import Derived.LaidMore
import Derived.Lay
import Derived.SevenTiedAt
import Derived.Stop.Joined
namespace Go.Ev
open Go.Joins Go.ChangeShapes Go.WideShapes Go.RowKit Go.Deep

def pgStr (P : Program) (f : Field) : Bool := match P.underlying f.type with | some .string => true | _ => false
def pgInt (P : Program) (f : Field) : Bool := match P.underlying f.type with | some (.int .i64) => true | _ => false
def pgB (P : Program) (t : TypeId) : Bool := P.cellsOf t == 3 && match P.underlying t with
  | some (.struct fs) => oneCellFields P fs && match fs.toList with
    | [f0, f1, f2] => pgInt P f0 && pgInt P f1 && pgStr P f2
    | _ => false
  | _ => false

theorem pgStr_of {P : Program} {f : Field} (h : pgStr P f = true) : P.underlying f.type = some .string := by
  unfold pgStr at h; split at h <;> simp_all
theorem pgInt_of {P : Program} {f : Field} (h : pgInt P f = true) : P.underlying f.type = some (.int .i64) := by
  unfold pgInt at h; split at h <;> simp_all

section
variable {H : Type} {enc : TypeId × Value → H} {P : Program} {w : World} {base : Nat} {spare : Nat → Bool} {held : Bool}

theorem pg_int {t : TypeId} (ht : P.underlying t = some (.int .i64)) {n : Int} (hn : (Lit.int .i64 n).wf = true) (m : Nat) : DataW.trod enc P w base spare held (m + 1) t [.int .i64 n] = some (.lit (.int .i64 n), []) := by simp [DataW.trod, ht, hn]
theorem pg_str {t : TypeId} (ht : P.underlying t = some .string) {s : ByteArray} (hs : s.size ≤ maxLen) (m : Nat) : DataW.trod enc P w base spare held (m + 1) t [.string s] = some (.lit (.string s.data.toList), []) := by simp [DataW.trod, ht, hs]

theorem open_page {r : Reach} {b0 : Nat} {t : TypeId} {v : Value} {d : DataW H} {p : List MemPlace} (hB : pgB P t = true) (hv : Value.okWide P w r b0 t v) (h : DataW.Trod enc P w base spare held t v d p) :
    ∃ (k s : Int) (a : ByteArray), v = .agg #[.int .i64 k, .int .i64 s, .string a] ∧ p = [] ∧ a.size ≤ maxLen ∧
      ∀ (w' : World) (base' : Nat) (spare' : Nat → Bool) (held' : Bool), DataW.Trod enc P w' base' spare' held' t v d [] := by
  unfold pgB at hB
  simp only [Bool.and_eq_true, beq_iff_eq] at hB
  obtain ⟨hC, hB⟩ := hB
  split at hB
  · rename_i fs hs
    simp only [Bool.and_eq_true] at hB
    obtain ⟨hone, hB⟩ := hB
    split at hB
    · rename_i f0 f1 f2 hf
      simp only [Bool.and_eq_true] at hB
      obtain ⟨⟨i0, i1⟩, s3⟩ := hB
      obtain ⟨l⟩ := fs
      simp at hf
      subst hf
      obtain ⟨cs, rfl, hsz⟩ := okWide_struct hs hv
      obtain ⟨cl⟩ := cs
      rw [hC] at hsz
      match cl, hsz with
      | [c0, c1, c2], _ =>
        obtain ⟨fuel, hf⟩ := h
        obtain ⟨xs, n, _, hx, _, hlen, hg⟩ := DataW.trod_struct hs hf
        obtain ⟨o0, k0⟩ := hone_of hone 0 f0 rfl
        obtain ⟨o1, k1⟩ := hone_of hone 1 f1 rfl
        obtain ⟨o2, k2⟩ := hone_of hone 2 f2 rfl
        match xs, hlen with
        | [y0, y1, y2], _ =>
          have g0 : DataW.trod enc P w base spare held n f0.type [c0] = some y0 := by simpa [Value.cells, o0, k0] using hg 0 f0 rfl
          have g1 : DataW.trod enc P w base spare held n f1.type [c1] = some y1 := by simpa [Value.cells, o1, k1] using hg 1 f1 rfl
          have g2 : DataW.trod enc P w base spare held n f2.type [c2] = some y2 := by simpa [Value.cells, o2, k2] using hg 2 f2 rfl
          obtain ⟨k, e0, rfl, w0⟩ := DataW.trod_int (pgInt_of i0) g0
          obtain ⟨s, e1, rfl, w1⟩ := DataW.trod_int (pgInt_of i1) g1
          obtain ⟨a, e2, rfl, w2⟩ := DataW.trod_string (pgStr_of s3) g2
          simp only [List.cons.injEq, and_true] at e0 e1 e2
          subst e0 e1 e2
          simp only [Prod.mk.injEq, List.map_cons, List.map_nil, List.flatMap_cons, List.flatMap_nil, List.append_nil] at hx
          obtain ⟨rfl, rfl⟩ := hx
          refine ⟨k, s, a, rfl, rfl, w2, fun w' base' spare' held' => ⟨2, ?_⟩⟩
          have := trod_struct_mk (enc := enc) (w := w') (base := base') (spare := spare') (held := held') (n := 1) (cs := [.int .i64 k, .int .i64 s, .string a])
            (xs := [(.lit (.int .i64 k), []), (.lit (.int .i64 s), []), (.lit (.string a.data.toList), [])]) hs (by simp [hC])
            (by simp [o0, o1, o2, k0, k1, k2, pg_int (pgInt_of i0) w0 0, pg_int (pgInt_of i1) w1 0, pg_str (pgStr_of s3) w2 0])
          simpa [Value.cells] using this
    · cases hB
  · cases hB
end
end Go.Ev

namespace Go.Proofs.YtoihhmemmlfnaaaGreatDoor
open Go.ChangeShapes Go.WideShapes Go.ChangeAt Go.RowKit

theorem own : ownKnob Tryz.prog.godebug = none := by kernel_rfl

set_option maxRecDepth 100000 in
theorem treeNone_lifted (os : Os) (started : os.Started) (H : Type) (enc : TypeId × Value → H) :
    ReturnsInHanded {} Tryz.checked os 3 .any (fun w args => (Rows.treeNoneSpec.pre enc Tryz.prog Tryz.f3 [] false w args ∧ laidMetH Tryz.prog Rows.treeNoneRow.laid w) ∧ sizedMet enc Tryz.prog Tryz.f3 (OpenSpec.ofChange Rows.treeNoneSpec) false w args)
      (Rows.treeNoneSpec.post enc Tryz.prog Tryz.f3 false true false false) := by
  refine returnsInHanded_of_change_and (C := Tryz.checked) (X := fun w _ => laidMetH Tryz.prog Rows.treeNoneRow.laid w) (fun _ _ _ hh h => h.of_heap hh) own started (by kernel_rfl) Tryz.func3
    (ChangeSpec.witness_shaped (enc := enc) (C := Tryz.checked) (os := os) (X := fun w _ => laidMetH Tryz.prog Rows.treeNoneRow.laid w) false (World.laidAll Tryz.prog os Rows.treeNoneRow.laid) #[.string ByteArray.empty, .string ByteArray.empty, .agg #[.int .i64 0, .int .i64 0, .string ByteArray.empty]] 8 (World.laidAll_os _ _ _)
      (World.shaped_of_ZipB (by kernel_rfl) (by kernel_rfl)) (by kernel_rfl) (by kernel_rfl) (by kernel_rfl)
      (by rw [MakeChecks.laidMetH_plain _ _ _ (by kernel_rfl)]; exact laidMet_laidAll _ (by kernel_rfl) (by kernel_rfl))) ?_
  intro W base args ds gs before hval0 hW _ _ hL _
  have hval : ∀ (j : Nat) t v, Tryz.f3.params[j]? = some t → args[j]? = some v → Value.okWide Tryz.prog W .any base t v := hval0
  have hW' := hW
  obtain ⟨p, q, hA0, hV, rfl, _, _⟩ := hW
  have hA : DataW.TrodAll enc Tryz.prog W 0 (fun _ => true) true Tryz.f3.params.toList args.toList ds p := hA0
  rw [Tryz.params3] at hA hval
  obtain ⟨v0, v1, v2, d0, d1, d2, p0, p1, p2, rfl, rfl, rfl, h0, h1, h2⟩ := trodAll_three hA
  obtain ⟨rfl, rfl⟩ := trodVars_none hV
  obtain ⟨key, rfl, rfl, rfl, hkey⟩ := Go.ChangeMaps.open_string Tryz.underlying9 (hval 0 9 v0 rfl rfl) h0
  obtain ⟨value, rfl, rfl, rfl, hvalue⟩ := Go.ChangeMaps.open_string Tryz.underlying9 (hval 1 9 v1 rfl rfl) h1
  obtain ⟨kind, next, body, rfl, rfl, _, hsame⟩ := Ev.open_page (by kernel_rfl) (hval 2 23 v2 rfl rfl) h2
  simp only [List.append_nil] at hW'
  refine (Ev.tree_walk key value kind next body W).mono fun e W' ⟨he, hw⟩ => ?_
  subst he
  exact ⟨_, rfl, _, _, _, [], [], [], hW', trodAll_mk1 (shut_bool Tryz.underlying4 true), trodAll_mk3 (Go.ChangeMaps.shut_string Tryz.underlying9 hkey) (Go.ChangeMaps.shut_string Tryz.underlying9 hvalue) (hsame _ _ _ _), rfl, hw.frame _, fun h => by cases h⟩

set_option maxHeartbeats 40000000 in
set_option maxRecDepth 100000 in
theorem treeNone_closure : Tryz.prog.closure 3 = [3, 4, 13, 28, 57, 58, 59, 104, 105, 72, 113, 150, 151, 114, 152, 115, 111, 149, 153, 180, 71, 73, 75, 60, 106, 61, 102, 103, 144, 177, 62, 107, 29, 63, 65, 109, 146, 179, 145, 178, 189, 53, 99, 140, 141, 98, 131, 137, 168, 132, 163, 133, 164, 165, 134, 166, 167, 184, 135, 136, 138, 139, 66, 64, 108, 67, 110, 147, 148, 154, 5, 14, 30, 32, 76, 116, 77, 31, 68, 69, 70, 112, 74, 33, 78, 117, 79, 7, 15, 16, 34, 54, 100, 101, 142, 169, 143, 171, 170, 172, 174, 185, 173, 176, 188, 192, 186, 190, 187, 191, 193, 197, 198, 194, 195, 196, 175, 85, 121, 80, 118, 155, 156, 157, 158, 181, 160, 182, 183, 159, 42, 86, 122, 161, 87, 123, 125, 124, 119, 94, 128, 129, 35, 19, 17, 36, 37, 38, 81, 40, 82, 20, 41, 84, 83, 120, 27, 55, 56, 21, 23, 45, 46, 89, 90, 126, 162, 22, 43, 44, 88, 24, 47, 91, 48, 92, 93, 127, 49, 50, 95, 130, 6, 18, 39, 8, 25, 51, 10, 26, 52, 96, 97, 9, 11, 12] := by kernel_rfl

set_option maxHeartbeats 40000000 in
theorem treeNone_facts : joinedFacts Tryz.prog 3 Tryz.f3 Rows.treeNoneSpec Rows.treeNoneRow = true := by
  unfold joinedFacts
  simp only [Bool.and_eq_true]
  repeat' apply And.intro
  all_goals (try unfold Program.recurses)
  all_goals (try unfold Program.inPlace)
  all_goals (try unfold Program.unfollowed)
  all_goals (try unfold Program.varsNamed)
  all_goals (try rw [treeNone_closure])
  all_goals (as_aux_lemma => kernel_rfl)

set_option maxHeartbeats 40000000 in
theorem treeNone_row : Rows.TreeNoneSaid :=
  OpenClaim.holds_of_wide 3 Tryz.f3 rfl rfl rfl rfl rfl rfl rfl ⟨rfl, rfl, rfl, rfl, rfl⟩ rfl rfl rfl rfl rfl (by as_aux_lemma => kernel_rfl) Tryz.func3 treeNone_facts
    (of_decide_eq_true (by as_aux_lemma => kernel_rfl)) (by unfold Func.isWrapper; first | (rw [if_pos (by decide +kernel)]; kernel_rfl) | (rw [if_neg (by decide +kernel)]; exact ⟨rfl, rfl⟩))
    (fun os started H enc _ => treeNone_lifted os started H enc)
end Go.Proofs.YtoihhmemmlfnaaaGreatDoor
