/-
  The runs for the law arboretumlaw24.SessNone.
-/
import Derived.Test.YtjmneomkkcbleaaGreatDoorEvClosed
import Derived.Test.YtjmneomkkcbleaaGreatDoorEvSessWalk
import Derived.Test.YtjmneomkkcbleaaGreatDoorEvDigits
import Derived.Test.YtjmneomkkcbleaaGreatDoorEvSessMemo
namespace Go.Proofs.YtjmneomkkcbleaaGreatDoor
open Go.Ev Go.RowKit
theorem alive24 : okB ((fns (prims K0 [] msSess) 100000).call 29 [] ⟨.nil, 0⟩) = true := by kernel_rfl

theorem sessTree : valB ((fns (prims K0 [] []) 100000).call 108 [.nilp, .str [115, 101, 115, 115]] ⟨.nil, 0⟩) (.tup [.int .i64 0, .int .i64 1]) = true := by kernel_rfl
theorem sessList : valB ((fns (prims K0 [] []) 100000).call 28 [.nilp] ⟨.nil, 0⟩) (.tup [.nils, .int .i64 1]) = true := by kernel_rfl
theorem sessRegister (v : Int) : valB ((fns (prims K0 [] []) 100000).call 26 [.nilp, .int .i64 v] ⟨.nil, 0⟩) (.tup [.int .i64 0, .int .i64 1]) = true := by kernel_rfl
theorem rep0 : valB ((fns (prims K0 [] []) 100000).call 222 [.str [48], .int .i64 0] ⟨.nil, 0⟩) (.str (List.replicate 0 48)) = true := by kernel_rfl
theorem rep1 : valB ((fns (prims K0 [] []) 100000).call 222 [.str [48], .int .i64 1] ⟨.nil, 0⟩) (.str (List.replicate 1 48)) = true := by kernel_rfl
theorem rep2 : valB ((fns (prims K0 [] []) 100000).call 222 [.str [48], .int .i64 2] ⟨.nil, 0⟩) (.str (List.replicate 2 48)) = true := by kernel_rfl
theorem rep3 : valB ((fns (prims K0 [] []) 100000).call 222 [.str [48], .int .i64 3] ⟨.nil, 0⟩) (.str (List.replicate 3 48)) = true := by kernel_rfl
theorem rep4 : valB ((fns (prims K0 [] []) 100000).call 222 [.str [48], .int .i64 4] ⟨.nil, 0⟩) (.str (List.replicate 4 48)) = true := by kernel_rfl
theorem rep5 : valB ((fns (prims K0 [] []) 100000).call 222 [.str [48], .int .i64 5] ⟨.nil, 0⟩) (.str (List.replicate 5 48)) = true := by kernel_rfl
theorem rep6 : valB ((fns (prims K0 [] []) 100000).call 222 [.str [48], .int .i64 6] ⟨.nil, 0⟩) (.str (List.replicate 6 48)) = true := by kernel_rfl
theorem rep7 : valB ((fns (prims K0 [] []) 100000).call 222 [.str [48], .int .i64 7] ⟨.nil, 0⟩) (.str (List.replicate 7 48)) = true := by kernel_rfl
theorem rep8 : valB ((fns (prims K0 [] []) 100000).call 222 [.str [48], .int .i64 8] ⟨.nil, 0⟩) (.str (List.replicate 8 48)) = true := by kernel_rfl
theorem rep (k : Nat) (h : k ≤ 8) : valB ((fns (prims K0 [] []) 100000).call 222 [.str [48], .int .i64 k] ⟨.nil, 0⟩) (.str (List.replicate k 48)) = true := by
  match k, h with
  | 0, _ => exact rep0
  | 1, _ => exact rep1
  | 2, _ => exact rep2
  | 3, _ => exact rep3
  | 4, _ => exact rep4
  | 5, _ => exact rep5
  | 6, _ => exact rep6
  | 7, _ => exact rep7
  | 8, _ => exact rep8

theorem call_sessNone (v : Int) (w : World) : Calls Tryz.prog 5 #[.int .i64 v] w (TrueB w) := by
  have hTree : ∀ W, Calls Tryz.prog 108 #[.pointer none, sSess] W (Gives0 (.tuple #[.int .i64 0, .int .i64 1]) W) := fun W => by
    simpa [concL, conc] using closed_val (soundAll aloneNil memosNil 100000) sessTree (by simp [OnL, On]) (by simp [OnL, On]) W
  have hList : ∀ W, Calls Tryz.prog 28 #[.pointer none] W (Gives0 (.tuple #[.slice none 0 0, .int .i64 1]) W) := fun W => by
    simpa [concL, conc] using closed_val (soundAll aloneNil memosNil 100000) sessList (by simp [OnL, On]) (by simp [OnL, On]) W
  have hReg : ∀ (v : Int) W, Calls Tryz.prog 26 #[.pointer none, .int .i64 v] W (Gives0 (.tuple #[.int .i64 0, .int .i64 1]) W) := fun v W => by
    simpa [concL, conc] using closed_val (soundAll aloneNil memosNil 100000) (sessRegister v) (by simp [OnL, On]) (by simp [OnL, On]) W
  have hRep : ∀ (k : Int) (W : World), 0 ≤ k → k ≤ 8 → Calls Tryz.prog 222 #[.string ⟨#[48]⟩, .int .i64 k] W (SomeStr 8 W) := fun k W h0 h1 => by
    obtain ⟨n, rfl⟩ : ∃ n : Nat, k = n := ⟨k.toNat, by omega⟩
    have h := closed_val (soundAll aloneNil memosNil 100000) (rep n (by omega)) (by simp [OnL, On]) (by simp [On]) W
    simp only [concL, conc] at h
    exact h.mono fun e W' ⟨he, hb⟩ => ⟨⟨_, he, by simp [ByteArray.size]; omega⟩, hb⟩
  have hKey := fun v W h0 h1 => key_any (fun v W h0 h1 => digits_any v W h0 h1) hRep v W h0 h1
  have hFind := find_any hKey hTree
  have hLook := look_any hFind
  exact sess_walk (closed_true (soundAll aloneNil memosSess 100000) alive24) hReg hList hLook (expire_any hFind) (save_any hLook) v w
end Go.Proofs.YtjmneomkkcbleaaGreatDoor
