/-
  The law arboretumlaw28.NodeNone holds, whatever packet it is handed: its text is walked over what it calls; what it calls is evaluated, in the kernel, by an evaluator that is proved sound for every order and every answer of the tape; conditions: the row's own (the listed variables are as the program's text lays them).
-/
import Derived.Test.YtdopajkecfomdaaGreatDoorEvNodeLaw
import Derived.Test.YtdopajkecfomdaaGreatDoorEvNodeMemoB
import Derived.Lib.SmallJoins
import Derived.Test.YtdopajkecfomdaaGreatDoorEvNodeF2
import Derived.Test.YtdopajkecfomdaaGreatDoorTie
import Derived.Test.YtdopajkecfomdaaGreatDoorCards
import Derived.ProofKit
import Derived.OpenShut
import Derived.ChangeMaps5
import Derived.LaidMore
import Derived.Lay
import Derived.SevenTiedAt
import Derived.Stop.Joined
namespace Go.Ev
open Go.Proofs Go.RowKit Go.Proofs.YtdopajkecfomdaaGreatDoor

theorem alive28 : okB ((fns (prims K0 [] msNode) 100000).call 16 [] ⟨.nil, 0⟩) = true := by kernel_rfl

theorem hSn : Sound 100000 (fns (prims K0 [] []) 100000) := soundAll aloneNil memosNil 100000

theorem nilNode : NilNode where
  alive := closed_true (soundAll aloneNil memosNode 100000) alive28
  opn W := closed_val hSn (args := [.nilp]) (v := .tup [.nilp, .int .i64 (.ofNat 1)]) (by kernel_rfl) ⟨trivial, trivial⟩ ⟨trivial, trivial, trivial⟩ W
  change W := closed_val hSn (args := [.nilp, .bool true, .int .i64 (.ofNat 2)]) (v := .tup [.nils, .int .i64 (.ofNat 14)]) (by kernel_rfl) ⟨trivial, trivial, trivial, trivial⟩ ⟨trivial, trivial, trivial⟩ W
  get W := closed_val hSn (args := [.nilp, .str [107]]) (v := .tup [.agg [.int .i64 (.ofNat 0), .str [], .int .i64 (.ofNat 0)], .int .i64 (.ofNat 14)]) (by kernel_rfl) ⟨trivial, trivial, trivial⟩ ⟨⟨trivial, trivial, trivial, trivial⟩, trivial, trivial⟩ W
  waiting W := closed_val hSn (args := [.nilp]) (v := .tup [.int .i64 (.ofNat 0), .int .i64 (.ofNat 0)]) (by kernel_rfl) ⟨trivial, trivial⟩ ⟨trivial, trivial, trivial⟩ W
  tick W := closed_val hSn (args := [.nilp, .int .i64 (.ofNat 0)]) (v := .nils) (by kernel_rfl) ⟨trivial, trivial, trivial⟩ trivial W
  enter W := closed_val hSn (args := [.nilp]) (v := .bool false) (by kernel_rfl) ⟨trivial, trivial⟩ trivial W
  applied W := closed_val hSn (args := [.nilp]) (v := .int .i64 (.ofNat 0)) (by kernel_rfl) ⟨trivial, trivial⟩ trivial W
  txn W := closed_val hSn (args := [.nilp]) (v := .int .i64 (.ofNat 0)) (by kernel_rfl) ⟨trivial, trivial⟩ trivial W
  up W := closed_val hSn (args := [.nilp]) (v := .bool false) (by kernel_rfl) ⟨trivial, trivial⟩ trivial W
end Go.Ev

namespace Go.Ev
open Go.Joins Go.ChangeShapes Go.WideShapes Go.RowKit Go.Deep

def pgStr (P : Program) (f : Field) : Bool := match P.underlying f.type with | some .string => true | _ => false
def pgInt (P : Program) (f : Field) : Bool := match P.underlying f.type with | some (.int .i64) => true | _ => false
def pgB (P : Program) (t : TypeId) : Bool := P.cellsOf t == 3 && match P.underlying t with
  | some (.struct fs) => oneCellFields P fs && match fs.toList with
    | [f0, f1, f2] => pgInt P f0 && pgInt P f1 && pgStr P f2
    | _ => false
  | _ => false

theorem pgStr_of {P : Program} {f : Field} (h : pgStr P f = true) : P.underlying f.type = some .string := by
  unfold pgStr at h; split at h <;> simp_all
theorem pgInt_of {P : Program} {f : Field} (h : pgInt P f = true) : P.underlying f.type = some (.int .i64) := by
  unfold pgInt at h; split at h <;> simp_all

section
variable {H : Type} {enc : TypeId × Value → H} {P : Program} {w : World} {base : Nat} {spare : Nat → Bool} {held : Bool}

theorem pg_int {t : TypeId} (ht : P.underlying t = some (.int .i64)) {n : Int} (hn : (Lit.int .i64 n).wf = true) (m : Nat) : DataW.trod enc P w base spare held (m + 1) t [.int .i64 n] = some (.lit (.int .i64 n), []) := by simp [DataW.trod, ht, hn]
theorem pg_str {t : TypeId} (ht : P.underlying t = some .string) {s : ByteArray} (hs : s.size ≤ maxLen) (m : Nat) : DataW.trod enc P w base spare held (m + 1) t [.string s] = some (.lit (.string s.data.toList), []) := by simp [DataW.trod, ht, hs]

theorem open_page {r : Reach} {b0 : Nat} {t : TypeId} {v : Value} {d : DataW H} {p : List MemPlace} (hB : pgB P t = true) (hv : Value.okWide P w r b0 t v) (h : DataW.Trod enc P w base spare held t v d p) :
    ∃ (k s : Int) (a : ByteArray), v = .agg #[.int .i64 k, .int .i64 s, .string a] ∧ p = [] ∧ a.size ≤ maxLen ∧
      ∀ (w' : World) (base' : Nat) (spare' : Nat → Bool) (held' : Bool), DataW.Trod enc P w' base' spare' held' t v d [] := by
  unfold pgB at hB
  simp only [Bool.and_eq_true, beq_iff_eq] at hB
  obtain ⟨hC, hB⟩ := hB
  split at hB
  · rename_i fs hs
    simp only [Bool.and_eq_true] at hB
    obtain ⟨hone, hB⟩ := hB
    split at hB
    · rename_i f0 f1 f2 hf
      simp only [Bool.and_eq_true] at hB
      obtain ⟨⟨i0, i1⟩, s3⟩ := hB
      obtain ⟨l⟩ := fs
      simp at hf
      subst hf
      obtain ⟨cs, rfl, hsz⟩ := okWide_struct hs hv
      obtain ⟨cl⟩ := cs
      rw [hC] at hsz
      match cl, hsz with
      | [c0, c1, c2], _ =>
        obtain ⟨fuel, hf⟩ := h
        obtain ⟨xs, n, _, hx, _, hlen, hg⟩ := DataW.trod_struct hs hf
        obtain ⟨o0, k0⟩ := hone_of hone 0 f0 rfl
        obtain ⟨o1, k1⟩ := hone_of hone 1 f1 rfl
        obtain ⟨o2, k2⟩ := hone_of hone 2 f2 rfl
        match xs, hlen with
        | [y0, y1, y2], _ =>
          have g0 : DataW.trod enc P w base spare held n f0.type [c0] = some y0 := by simpa [Value.cells, o0, k0] using hg 0 f0 rfl
          have g1 : DataW.trod enc P w base spare held n f1.type [c1] = some y1 := by simpa [Value.cells, o1, k1] using hg 1 f1 rfl
          have g2 : DataW.trod enc P w base spare held n f2.type [c2] = some y2 := by simpa [Value.cells, o2, k2] using hg 2 f2 rfl
          obtain ⟨k, e0, rfl, w0⟩ := DataW.trod_int (pgInt_of i0) g0
          obtain ⟨s, e1, rfl, w1⟩ := DataW.trod_int (pgInt_of i1) g1
          obtain ⟨a, e2, rfl, w2⟩ := DataW.trod_string (pgStr_of s3) g2
          simp only [List.cons.injEq, and_true] at e0 e1 e2
          subst e0 e1 e2
          simp only [Prod.mk.injEq, List.map_cons, List.map_nil, List.flatMap_cons, List.flatMap_nil, List.append_nil] at hx
          obtain ⟨rfl, rfl⟩ := hx
          refine ⟨k, s, a, rfl, rfl, w2, fun w' base' spare' held' => ⟨2, ?_⟩⟩
          have := trod_struct_mk (enc := enc) (w := w') (base := base') (spare := spare') (held := held') (n := 1) (cs := [.int .i64 k, .int .i64 s, .string a])
            (xs := [(.lit (.int .i64 k), []), (.lit (.int .i64 s), []), (.lit (.string a.data.toList), [])]) hs (by simp [hC])
            (by simp [o0, o1, o2, k0, k1, k2, pg_int (pgInt_of i0) w0 0, pg_int (pgInt_of i1) w1 0, pg_str (pgStr_of s3) w2 0])
          simpa [Value.cells] using this
    · cases hB
  · cases hB
end
end Go.Ev

namespace Go.Proofs.YtdopajkecfomdaaGreatDoor
open Go.ChangeShapes Go.WideShapes Go.ChangeAt Go.RowKit

theorem own : ownKnob Tryz.prog.godebug = none := by kernel_rfl

set_option maxRecDepth 100000 in
theorem nodeNone_lifted (os : Os) (started : os.Started) (H : Type) (enc : TypeId × Value → H) :
    ReturnsInHanded {} Tryz.checked os 4 .any (fun w args => (Rows.nodeNoneSpec.pre enc Tryz.prog Tryz.f4 [] false w args ∧ laidMetH Tryz.prog Rows.nodeNoneRow.laid w) ∧ sizedMet enc Tryz.prog Tryz.f4 (OpenSpec.ofChange Rows.nodeNoneSpec) false w args)
      (Rows.nodeNoneSpec.post enc Tryz.prog Tryz.f4 false true false false) := by
  refine returnsInHanded_of_change_and (C := Tryz.checked) (X := fun w _ => laidMetH Tryz.prog Rows.nodeNoneRow.laid w) (fun _ _ _ hh h => h.of_heap hh) own started (by kernel_rfl) Tryz.func4
    (ChangeSpec.witness_shaped (enc := enc) (C := Tryz.checked) (os := os) (X := fun w _ => laidMetH Tryz.prog Rows.nodeNoneRow.laid w) false (World.laidAll Tryz.prog os Rows.nodeNoneRow.laid) #[.agg #[.int .i64 0, .int .i64 0, .string ByteArray.empty]] 8 (World.laidAll_os _ _ _)
      (World.shaped_of_ZipB (by kernel_rfl) (by kernel_rfl)) (by kernel_rfl) (by kernel_rfl) (by kernel_rfl)
      (by rw [MakeChecks.laidMetH_plain _ _ _ (by kernel_rfl)]; exact laidMet_laidAll _ (by kernel_rfl) (by kernel_rfl))) ?_
  intro W base args ds gs before hval0 hW _ _ hL _
  have hval : ∀ (j : Nat) t v, Tryz.f4.params[j]? = some t → args[j]? = some v → Value.okWide Tryz.prog W .any base t v := hval0
  have hW' := hW
  obtain ⟨p, q, hA0, hV, rfl, _, _⟩ := hW
  have hA : DataW.TrodAll enc Tryz.prog W 0 (fun _ => true) true Tryz.f4.params.toList args.toList ds p := hA0
  rw [Tryz.params4] at hA hval
  obtain ⟨v0, d0, rfl, rfl, h0⟩ := trodAll_one hA
  obtain ⟨rfl, rfl⟩ := trodVars_none hV
  obtain ⟨from', to', data, rfl, rfl, _, hsame⟩ := Ev.open_page (by kernel_rfl) (hval 0 45 v0 rfl rfl) h0
  simp only [List.append_nil] at hW'
  refine (Ev.node_walk Ev.nilNode from' to' data W).mono fun e W' ⟨he, hw⟩ => ?_
  subst he
  exact ⟨_, rfl, _, _, _, [], [], [], hW', trodAll_mk1 (shut_bool Tryz.underlying4 true), trodAll_mk1 (hsame _ _ _ _), rfl, hw.frame _, fun h => by cases h⟩

set_option maxHeartbeats 40000000 in
theorem nodeNone_facts : joinedFacts Tryz.prog 4 Tryz.f4 Rows.nodeNoneSpec Rows.nodeNoneRow = true := by
  unfold joinedFacts
  simp only [Bool.and_eq_true]
  repeat' apply And.intro
  all_goals first
    | with_reducible exact nodeNone_laidOut
    | with_reducible exact nodeNone_mapsRowed
    | with_reducible exact nodeNone_stops
    | with_reducible exact nodeNone_stopKnobs
    | with_reducible exact nodeNone_inPlace
    | with_reducible exact nodeNone_unfollowed
    | with_reducible exact nodeNone_recurses
    | with_reducible exact nodeNone_named
    | (as_aux_lemma => kernel_rfl)

set_option maxHeartbeats 40000000 in
theorem nodeNone_row : Rows.NodeNoneSaid :=
  OpenClaim.holds_of_wide 4 Tryz.f4 rfl rfl rfl rfl rfl rfl rfl ⟨rfl, rfl, rfl, rfl, rfl⟩ rfl rfl rfl rfl rfl (by as_aux_lemma => kernel_rfl) Tryz.func4 nodeNone_facts
    (of_decide_eq_true (by as_aux_lemma => kernel_rfl)) (by unfold Func.isWrapper; first | (rw [if_pos (by decide +kernel)]; kernel_rfl) | (rw [if_neg (by decide +kernel)]; exact ⟨rfl, rfl⟩))
    (fun os started H enc _ => nodeNone_lifted os started H enc)
end Go.Proofs.YtdopajkecfomdaaGreatDoor
