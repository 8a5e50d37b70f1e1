/-
  What is not walked by the evaluator is so: the check sum, and calls that are evaluated by themselves.
-/
import Derived.Test.YthfdbfbfldmmaaaGreatDoorMEvFacts
import Derived.Test.YthfdbfbfldmmaaaGreatDoorMEvMemo
import Derived.Test.YthfdbfbfldmmaaaGreatDoorMGvAppendE
import Derived.Test.YthfdbfbfldmmaaaGreatDoorMGvRows
import Derived.Test.YthfdbfbfldmmaaaGreatDoorMEvKeysLaw
import Derived.Test.YthfdbfbfldmmaaaGreatDoorMEvInsertOk
set_option linter.unusedVariables false
set_option linter.unusedSimpArgs false
set_option linter.unusedVariables false
set_option linter.unusedSimpArgs false
namespace Go.Ev
open Go.Proofs Go.RowKit
section
variable {B : World} {Fm : Nat → Option Obj} {σ : Sig} {D : Nat → Prop} {s : St} {w : World}
theorem crcBit_eq (x : Nat) : crcBit x = stepBit x := by
  unfold crcBit stepBit
  rw [ifB_eq, nbeq]
  by_cases h : x % 2 = 1
  · simp [h]
  · simp [h]
theorem crcBytes_eq : ∀ (l : List UInt8) (x : Nat), crcBytes l x = bytesN l x
  | [], _ => rfl
  | b :: l, x => by
    have h1 : ∀ y, natC y (crcBytes l 0) (fun y => crcBytes l (Nat.succ y)) = crcBytes l y := fun y => by cases y <;> rfl
    unfold crcBytes bytesN
    rw [h1, crcBytes_eq l]
    congr 1
    unfold crcByte
    simp only [crcBit_eq, stepN]
    rfl
theorem crcAll_of (σ : Sig) : ∀ {l : List AV} {x y : Nat}, crcAll l x = some y → ∃ ss : List ByteArray, concL σ l = ss.map Value.string ∧ y = allN (ss.map (·.data.toList)) x ∧ ∀ t ∈ ss, t.size ≤ 4294967296
  | [], x, y, h => by cases h; exact ⟨[], rfl, rfl, by simp⟩
  | v :: l, x, y, h => by
    cases v <;> first | (cases h; done) | skip
    · rename_i t
      replace h : gd (Nat.ble (lenL t) 4294967296) (crcAll l (crcBytes t x)) = some y := h
      (have ⟨h1, hNew⟩ := gd_of h; replace h := hNew; clear hNew)
      obtain ⟨ss, k1, k2, k3⟩ := crcAll_of σ h
      have h1 : t.length ≤ 4294967296 := by simpa [nble, lenL_eq] using h1
      refine ⟨⟨t.toArray⟩ :: ss, by simp [concL, conc, k1], ?_, fun u hu => ?_⟩
      · rw [k2, crcBytes_eq]; rfl
      · rcases List.mem_cons.1 hu with rfl | hu
        · simpa [ByteArray.size] using h1
        · exact k3 u hu
theorem crcA_of {args : List AV} {p : AV × St} (h : crcA args s = some p) (g : Good B Fm σ D s w) : CallsIn Fence.wide 0 PP 202 (concL σ args).toArray w (Ret B Fm σ D p) := by
  unfold crcA at h
  split at h
  · rename_i b off len c
    (have ⟨h0, hNew⟩ := gd_of h; replace h := hNew; clear hNew)
    (have ⟨r, h1, hNew⟩ := oB_of h; replace h := hNew; clear hNew)
    (have ⟨l, h2, hNew⟩ := oB_of h; replace h := hNew; clear hNew)
    (have ⟨x, h3, hNew⟩ := oB_of h; replace h := hNew; clear hNew)
    cases h
    have h0 : len ≤ 4294967296 := by simpa [nble] using h0
    obtain ⟨ss, k1, k2, k3⟩ := crcAll_of σ h3
    obtain ⟨c1, c2, rfl⟩ := (cut_some _ _ _ _).1 h2
    have hlen : ss.length = len := by
      have := congrArg List.length k1
      rw [concL_length, List.length_map] at this
      rw [← this]
      simp
      omega
    obtain ⟨cap, hcap⟩ : ∃ cap, conc σ (.sl b off len c) = .slice (some ⟨(σ b).b, off, none⟩) ss.length cap := by
      rw [hlen]
      cases c
      · exact ⟨_, rfl⟩
      · exact ⟨_, rfl⟩
    simp only [concL, hcap]
    rw [pp_eq]
    refine callsIn_wide.2 ((crc_any (σ b).b off cap ss w (by omega) k3 fun j t hj => ?_).mono fun e w' he => ?_)
    · have e1 : (concL σ ((r.c.drop off).take len))[j]? = some (.string t) := by rw [k1, List.getElem?_map, hj]; rfl
      rw [concL_eq, List.getElem?_map, Option.map_eq_some_iff] at e1
      obtain ⟨v, e2, e3⟩ := e1
      rw [List.getElem?_take] at e2
      split at e2
      · rw [List.getElem?_drop] at e2
        rw [← e3]
        exact (g.cell h1 e2).1
      · cases e2
    · obtain ⟨rfl, rfl⟩ := he
      refine ⟨σ, D, ?_, g, Ext.refl _ _, by simp [On]⟩
      simp only [conc]
      congr 2
      rw [k2]
      unfold crcT
      rw [List.take_of_length_le (Nat.le_refl _)]
      rfl
  · cases h
structure Kept (w w' : World) : Prop where
  os : w'.os = w.os
  tape : w'.tape = w.tape
  output : w'.output = w.output
  heap : ∀ (i : Nat) (o : Obj), w.heap[i]? = some o → w'.heap[i]? = some o
theorem Kept.size {w w' : World} (h : Kept w w') : w.heap.size ≤ w'.heap.size := by
  rcases Nat.eq_zero_or_pos w.heap.size with h0 | h0
  · omega
  · have h1 : w.heap[w.heap.size - 1]? = some w.heap[w.heap.size - 1] := by simp
    have := (Array.getElem?_eq_some_iff.1 (h.heap _ _ h1)).1
    omega
theorem Kept.good {w w' : World} (h : Kept w w') (g : Good B Fm σ D s w) : Good B Fm σ D s w' :=
  ⟨h.os.trans g.os, h.tape.trans g.tape, h.output.trans g.output, Nat.le_trans g.most h.size, g.lim, g.below, fun b o h1 h2 => by
    obtain ⟨k1, ob, k2, k3⟩ := g.heap b o h1 h2
    exact ⟨k1, ob, h.heap _ _ k2, k3⟩, g.inj, fun b hb => Nat.lt_of_lt_of_le (g.size b hb) h.size, fun i o hi => h.heap i o (g.frame i o hi), g.apart⟩
def okB : Option (AV × St) → Bool
  | some (.bool true, _) => true
  | _ => false
theorem okB_of {o : Option (AV × St)} (h : okB o = true) : ∃ s, o = some (.bool true, s) := by
  unfold okB at h
  split at h
  · exact ⟨_, rfl⟩
  · cases h
theorem closed_call {k : Nat} {F : Fns} (hS : Sound k F) {f : FuncId} {args : List AV} (h : okB (F.call f args ⟨.nil, 0⟩) = true) (ho : OnL (fun _ => False) args) (w : World) :
    CallsIn Fence.wide 0 PP f (concL (fun _ => ⟨0, 0⟩) args).toArray w fun e w' => e = .returned (.bool true) ∧ Kept w w' := by
  obtain ⟨s', hs⟩ := okB_of h
  refine (hS.call hs (good_frame w) ho).mono fun e w' he => ?_
  obtain ⟨σ', D', rfl, g, _, _⟩ := he
  exact ⟨by simp [conc], g.os, g.tape, g.output, fun i o hi => g.frame i o hi⟩
def AloneOk (l : List FuncId) : Prop := ∀ f ∈ l, ∀ w, CallsIn Fence.wide 0 PP f #[] w fun e w' => e = .returned (.bool true) ∧ Kept w w'
theorem trimA_of {args : List AV} {p : AV × St} (h : trimA args s = some p) (g : Good B Fm σ D s w) : CallsIn Fence.wide 0 PP 265 (concL σ args).toArray w (Ret B Fm σ D p) := by
  unfold trimA at h
  split at h
  · rename_i l c
    (have ⟨h0, hNew⟩ := gd_of h; replace h := hNew; clear hNew)
    cases h
    simp only [Bool.and_eq_true, nble, nblt, decide_eq_true_eq, lenL_eq] at h0
    obtain ⟨h1, h2⟩ := h0
    have hc : ((UInt8.ofNat c).toNat : Int) = Int.ofNat c := by
      rw [UInt8.toNat_ofNat_of_lt' (by simpa using h2)]; rfl
    have hcn : (UInt8.ofNat c).toNat = c := UInt8.toNat_ofNat_of_lt' (by simpa using h2)
    have e : (concL σ [AV.str l, .int .u8 (Int.ofNat c)]).toArray = #[.string ⟨l.toArray⟩, .int .u8 ((UInt8.ofNat c).toNat : Int)] := by
      rw [hc]; simp [concL, conc]
    rw [e, pp_eq]
    refine callsIn_wide.2 ((trim_any ⟨l.toArray⟩ (UInt8.ofNat c) w (by simpa [ByteArray.size] using h1)).mono fun e w' he => ?_)
    obtain ⟨rfl, rfl⟩ := he
    refine ⟨σ, D, ?_, g, Ext.refl _ _, by simp [On]⟩
    simp only [conc]
    congr 2
    apply ByteArray.ext
    have k := trimL_eq (UInt8.ofNat c) l.length l rfl
    rw [hcn] at k
    rw [k]
    apply Array.ext'
    simp [ByteArray.size]
  · cases h
structure IdsOk (K : Ids) : Prop where
  crc : K.crc = 202
  trim : K.trim = 265
  keys : KeysLaw K
  insert : K.ins = true → ∀ {B : World} {Fm : Nat → Option Obj} {σ : Sig} {D : Nat → Prop} {s : St} {w : World} {args : List AV} {p : AV × St}, insertA s K.itemT 4 args = some p → Good B Fm σ D s w → CallsIn Fence.wide 0 PP K.insert (concL σ args).toArray w (Ret B Fm σ D p)
theorem knownOk {K : Ids} (hK : IdsOk K) {f : FuncId} {args : List AV} {p : AV × St} (h : known K f args s = some p) (g : Good B Fm σ D s w) : CallsIn Fence.wide 0 PP f (concL σ args).toArray w (Ret B Fm σ D p) := by
  unfold known at h
  cases e : Nat.beq f K.crc with
  | true =>
    rw [e, ifB_true] at h
    have := Nat.eq_of_beq_eq_true e
    rw [hK.crc] at this
    subst this
    exact crcA_of h g
  | false =>
  rw [e, ifB_false] at h
  cases e : Nat.beq f K.trim with
  | true =>
    rw [e, ifB_true] at h
    have := Nat.eq_of_beq_eq_true e
    rw [hK.trim] at this
    subst this
    exact trimA_of h g
  | false =>
  rw [e, ifB_false] at h
  cases e : Nat.beq f K.sorted with
  | true =>
    rw [e, ifB_true] at h
    have := Nat.eq_of_beq_eq_true e
    subst this
    (have ⟨l, h1, hNew⟩ := oB_of h; replace h := hNew; clear hNew)
    exact sortedA_of hK.keys h1 h g
  | false =>
  rw [e, ifB_false] at h
  cases e : Nat.beq f K.collect with
  | true =>
    rw [e, ifB_true] at h
    have := Nat.eq_of_beq_eq_true e
    subst this
    (have ⟨l, h1, hNew⟩ := oB_of h; replace h := hNew; clear hNew)
    (have ⟨r, h2, hNew⟩ := oB_of h; replace h := hNew; clear hNew)
    exact collectA_of hK.keys h1 h2 h g
  | false =>
  rw [e, ifB_false] at h
  cases e : (K.ins && Nat.beq f K.insert) with
  | true =>
    rw [e, ifB_true] at h
    simp only [Bool.and_eq_true] at e
    have := Nat.eq_of_beq_eq_true e.2
    subst this
    exact hK.insert e.1 h g
  | false =>
  rw [e, ifB_false] at h
  cases h
theorem primsOk {K : Ids} (hK : IdsOk K) {l : List FuncId} {ms : List Memo} (hl : AloneOk l) (hms : MemosOk ms) : PrimsOk (prims K l ms) := by
  intro B Fm σ D s w f args p h g ho
  unfold prims at h
  split at h
  · rename_i r hr
    cases h
    exact knownOk hK hr g
  · cases e2 : memN f l with
    | false => rw [e2, ifB_false] at h; exact memosA_of hms h g ho
    | true =>
      rw [e2, ifB_true] at h
      cases args with
      | cons a r => cases h
      | nil =>
        cases h
        refine (hl f (memN_mem e2) w).mono fun e w' ⟨h1, h2⟩ => ?_
        exact ⟨σ, D, by rw [h1]; simp [conc], h2.good g, Ext.refl _ _, by simp [On]⟩
theorem idsOk : IdsOk K0 := ⟨rfl, rfl, keysLaw, fun _ _ _ _ _ _ _ _ _ h g => insertA_of h g⟩
theorem soundAll {l : List FuncId} {ms : List Memo} (hl : AloneOk l) (hms : MemosOk ms) (k : Nat) : Sound k (fns (prims K0 l ms) k) := sound facts (drawOk mixed) (primsOk idsOk hl hms) k
theorem aloneNil : AloneOk [] := fun f hf => by cases hf
theorem AloneOk.cons {f : FuncId} {l l' : List FuncId} {ms : List Memo} (hl : AloneOk l) (hms : MemosOk ms) (hl' : AloneOk l') {k : Nat} (h : okB ((fns (prims K0 l ms) k).call f [] ⟨.nil, 0⟩) = true) : AloneOk (f :: l') := by
  intro f' hf w
  rcases List.mem_cons.1 hf with rfl | hf
  · exact closed_call (soundAll hl hms k) h (by simp [OnL]) w
  · exact hl' f' hf w
end
end Go.Ev
