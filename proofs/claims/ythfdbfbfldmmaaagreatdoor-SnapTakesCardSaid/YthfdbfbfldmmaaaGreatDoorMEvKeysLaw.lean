/-
  slices.Sorted and slices.Collect at the keys of a map: the library's contracts, laid at this program.
-/
import Derived.Test.YthfdbfbfldmmaaaGreatDoorMEvKeys
import Derived.Test.YthfdbfbfldmmaaaGreatDoorMGvRows
import Derived.Test.YthfdbfbfldmmaaaGreatDoorMEvFacts
set_option linter.unusedVariables false
set_option linter.unusedSimpArgs false
set_option linter.unusedVariables false
set_option linter.unusedSimpArgs false
namespace Go.Ev
open Go.Proofs Go.RowKit Go.Maps Go.Sort Go.Shelf
theorem sortsZ (m : Nat) : AnyZI.SortsIn Tryz.prog Tryz.sortedZ_ren Fence.wide m :=
  ⟨fun blk off cap ss W hH hblk hsz => callsIn_wide.2 (AnyM.slices_Sort_int Tryz.sortZ blk off cap ss W hH hblk hsz),
   fun p cap W => callsIn_wide.2 (AnyM.slices_Sort_int_none Tryz.sortZ p cap W)⟩
def anyR : Value → Option (DataW Unit × List MemPlace) := fun _ => some (.lit (.bool true), [])
theorem owned {w : World} {b : Nat} {l : List Int} (h : KeysAt w b l) :
    ∃ D : DataW Unit, w.ownsMap Tryz.prog 3 anyR b l.length D ∧ (intKeys D).Perm l ∧ Maps.size D = l.length := by
  obtain ⟨es, clock, h1, h2, h3, h4, h5, h6⟩ := h
  have hlen : es.size = l.length := by
    have := congrArg List.length h3
    simpa using this
  have hrd : ∀ x ∈ es.toList, ∃ n : Int, x.key = .int .i64 n ∧ WideElems.rd (H := Unit) Tryz.prog 3 anyR x = some (.int .i64 n, .lit (.bool true)) := by
    intro x hx
    have hm : x.key ∈ es.toList.map (·.key) := List.mem_map.2 ⟨x, hx, rfl⟩
    rw [h3] at hm
    obtain ⟨n, hn, hk⟩ := List.mem_map.1 hm
    obtain ⟨p1, p2⟩ := h5 n hn
    refine ⟨n, hk.symm, ?_⟩
    have hw : (Lit.int .i64 n).wf = true := by
      simp only [Lit.wf, IntKind.min, IntKind.max, IntKind.signed, IntKind.bits]
      simp
      omega
    unfold WideElems.rd
    rw [← hk, Maps.keyOf_int_mk Tryz.underlying3 hw]
    rfl
  have hkeys : (es.toList.map (WideElems.rg (H := Unit) Tryz.prog 3 anyR)).map (fun p => Go.intOf p.1) = l := by
    have e : (es.toList.map (·.key)).map (fun v => match v with | .int _ n => n | _ => 0) = l := by
      rw [h3, List.map_map]
      conv => rhs; rw [← List.map_id l]
      exact List.map_congr_left fun n _ => rfl
    rw [← e, List.map_map, List.map_map]
    refine List.map_congr_left fun x hx => ?_
    obtain ⟨n, k1, k2⟩ := hrd x hx
    simp only [Function.comp, WideElems.rg, k2, Option.getD_some, k1, Go.intOf]
  refine ⟨.map ((es.toList.map (WideElems.rg Tryz.prog 3 anyR)).foldr DataW.insert []), ⟨es, clock, h1, ⟨?_, h2, fun x hx => ?_⟩, by omega, rfl⟩, ?_, ?_⟩
  · rw [hlen]; unfold maxLen; omega
  · obtain ⟨n, _, k2⟩ := hrd x hx
    exact ⟨_, k2⟩
  · show (((es.toList.map (WideElems.rg (H := Unit) Tryz.prog 3 anyR)).foldr DataW.insert []).map fun p => Go.intOf p.1).Perm l
    rw [← hkeys]
    exact (WideShapes.sorted_perm _).map _
  · show ((es.toList.map (WideElems.rg (H := Unit) Tryz.prog 3 anyR)).foldr DataW.insert []).length = l.length
    rw [(WideShapes.sorted_perm _).length_eq]
    simpa using hlen
def Gives (g : Nat) : Prop := ∀ (w : World) (Bm : Nat) (l : List Int), Captured w Bm l → SeqGives Fence.wide 2 Tryz.prog g #[.pointer (some ⟨Bm, 0, none⟩)] encZ (fun ss => ss.Perm l) l.length w
theorem gives_mono {g : Nat} {lb : Array Value} {S S' : List Int → Prop} {N : Nat} {w : World} (h : SeqGives Fence.wide 2 Tryz.prog g lb encZ S N w) (hs : ∀ ss, S ss → S' ss) : SeqGives Fence.wide 2 Tryz.prog g lb encZ S' N w :=
  fun l J W hW hJ hY h0 => (h l J W hW hJ hY h0).mono fun _ _ ⟨hv, xs, k1, k2⟩ => ⟨hv, xs, hs _ k1, k2⟩
theorem gives_of {ρ : Ren} {g : Nat} (L : SlLaysZI.n10 Tryz.prog ρ) (hg : ρ.f 10 = g) (hk : ρ.t 26 = 3) : Gives g := by
  subst hg
  rintro w Bm l ⟨hlt, ⟨hc, rfl⟩ | ⟨b, hc, hb⟩⟩
  · refine gives_mono (AnyZI.keys_gives_nil L Fence.wide 2 trivial rfl Bm w hlt hc) ?_
    rintro ss rfl
    exact .refl _
  · obtain ⟨D, h1, h2, h3⟩ := owned hb
    rw [← hk] at h1
    have := AnyZI.keys_gives L Fence.wide 2 trivial rfl (by omega) Bm b l.length D w hlt hc h1
    rw [h3] at this
    exact gives_mono this (fun ss hs => hs.trans h2)
theorem sortedLaw {g : Nat} (hg : Gives g) (eg : ∀ args w, (callFunc g args).run Tryz.prog w = .ok (.enter g args) w) (w : World) (Bm : Nat) (l : List Int) (h : Captured w Bm l) (hl : l.length ≤ 1000000) :
    CallsIn Fence.wide 0 PP 236 #[.func (.func g) #[] #[.pointer (some ⟨Bm, 0, none⟩)]] w fun e w' => ∃ v, e = .returned v ∧ w'.ownsRow w.heap.size 3 1 v l.length ((l.mergeSort leI).map encZ) ∧ (v = .slice none 0 0 ↔ l = []) ∧ Below w.heap.size w w' := by
  rw [pp_eq]
  have c := AnyZI.sorted_in Tryz.sortedZ Fence.wide 5 trivial trivial trivial trivial rfl (by omega) (sortsZ _) (enters_of Tryz.func209 (by kernel_rfl) rfl) g #[.pointer (some ⟨Bm, 0, none⟩)] trivial eg _ _ (by unfold maxLen; omega) (by omega) w (hg w Bm l h)
  refine (callsIn_wide.2 (callsIn_wide.1 c)).mono fun e w' ⟨v, ss, h1, h2, h3, h4, h5⟩ => ⟨v, h1, ?_, ?_, h5⟩
  · rw [← mergeSort_of_perm_i h2, ← h2.length_eq]
    exact h3
  · rw [h4]
    exact ⟨fun e => by rw [e] at h2; exact h2.symm.eq_nil, fun e => by rw [e] at h2; exact h2.eq_nil⟩
theorem collectLaw {g : Nat} (hg : Gives g) (eg : ∀ args w, (callFunc g args).run Tryz.prog w = .ok (.enter g args) w) (w : World) (Bm : Nat) (l : List Int) (h : Captured w Bm l) (hl : l.length ≤ 1) :
    CallsIn Fence.wide 0 PP 187 #[.func (.func g) #[] #[.pointer (some ⟨Bm, 0, none⟩)]] w fun e w' => ∃ v, e = .returned v ∧ w'.ownsRow w.heap.size 3 1 v l.length (l.map encZ) ∧ (v = .slice none 0 0 ↔ l = []) ∧ Below w.heap.size w w' := by
  rw [pp_eq]
  have c := AnyZI.collect_in { Tryz.sortedZ with } Fence.wide 4 trivial trivial rfl (by omega) g #[.pointer (some ⟨Bm, 0, none⟩)] trivial eg _ _ (by unfold maxLen; omega) (by omega) w (hg w Bm l h)
  refine (callsIn_wide.2 (callsIn_wide.1 c)).mono fun e w' ⟨v, ss, h1, h2, h3, h4, h5⟩ => ⟨v, h1, ?_, ?_, h5⟩
  · have : ss = l := by
      match l, hl, h2 with
      | [], _, h2 => exact h2.eq_nil
      | [x], _, h2 => exact List.perm_singleton.1 h2
    rw [this] at h3
    exact h3
  · rw [h4]
    exact ⟨fun e => by rw [e] at h2; exact h2.symm.eq_nil, fun e => by rw [e] at h2; exact h2.eq_nil⟩
def K0 : Ids := ⟨202, 265, 236, 187, [297, 298, 242], 3, true, 291, 154⟩
theorem givesA : Gives 297 := gives_of { Tryz.keysA with } rfl rfl
theorem givesB : Gives 298 := gives_of { Tryz.keysB with } rfl rfl
theorem givesC : Gives 242 := gives_of { Tryz.keysC with } rfl rfl
theorem captured_le {w : World} {Bm : Nat} {l : List Int} (h : Captured w Bm l) : l.length ≤ 1000000 := by
  obtain ⟨_, ⟨_, rfl⟩ | ⟨b, _, es, clock, _, _, _, _, _, h⟩⟩ := h
  · simp
  · exact h
theorem keysLaw : KeysLaw K0 where
  sorted := by
    intro g hg w Bm l h
    have hl := captured_le h
    rcases List.mem_cons.1 hg with rfl | hg
    · exact sortedLaw givesA (enters_of Tryz.func297 (by kernel_rfl) rfl) w Bm l h hl
    rcases List.mem_cons.1 hg with rfl | hg
    · exact sortedLaw givesB (enters_of Tryz.func298 (by kernel_rfl) rfl) w Bm l h hl
    rcases List.mem_cons.1 hg with rfl | hg
    · exact sortedLaw givesC (enters_of Tryz.func242 (by kernel_rfl) rfl) w Bm l h hl
    cases hg
  collect := by
    intro g hg w Bm l h hl
    rcases List.mem_cons.1 hg with rfl | hg
    · exact collectLaw givesA (enters_of Tryz.func297 (by kernel_rfl) rfl) w Bm l h hl
    rcases List.mem_cons.1 hg with rfl | hg
    · exact collectLaw givesB (enters_of Tryz.func298 (by kernel_rfl) rfl) w Bm l h hl
    rcases List.mem_cons.1 hg with rfl | hg
    · exact collectLaw givesC (enters_of Tryz.func242 (by kernel_rfl) rfl) w Bm l h hl
    cases hg
end Go.Ev
