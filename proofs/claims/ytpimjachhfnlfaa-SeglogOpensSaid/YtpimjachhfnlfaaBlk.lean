/-
  A block of five numbers as bytes, and as a struct; (*Block).numbers. No condition.
-/
import Derived.Test.YtpimjachhfnlfaaOpen
import Derived.Laws.StructEq
namespace Go.Proofs.Ytpimjachhfnlfaa
open Go.RowKit

structure Blk where
  gen : Nat
  epoch : Nat
  first : Nat
  from_ : Nat
  count : Nat
deriving DecidableEq

def Blk.val (b : Blk) : Value := .agg #[intv b.gen, intv b.epoch, intv b.first, intv b.from_, intv b.count]
def Blk.list (b : Blk) : List Nat := [b.gen, b.epoch, b.first, b.from_, b.count]

set_option maxRecDepth 100000 in
theorem eq5_hd (a0 a1 a2 a3 a4 b0 b1 b2 b3 b4 : Int) (w : World) :
    (Op.equalIn 10000 144 (.agg #[.int .i64 a0, .int .i64 a1, .int .i64 a2, .int .i64 a3, .int .i64 a4]) (.agg #[.int .i64 b0, .int .i64 b1, .int .i64 b2, .int .i64 b3, .int .i64 b4])).run Try.prog w
      = .ok (decide (a0 = b0 ∧ a1 = b1 ∧ a2 = b2 ∧ a3 = b3 ∧ a4 = b4)) w := by
  have u3 := Try.underlying3
  have a3' := Try.isAgg3
  have z3 := Try.sizeOf3
  have hS : Try.prog.underlying 144 = some (.struct (Try.prog.fieldsOf 144)) := by kernel_rfl
  have hp : Try.prog.stoodInHeld 144 = false := by kernel_rfl
  rw [show (10000 : Nat) = 9999 + 1 from rfl, run_equalIn_agg w 9999 144 _ _ hS hp]
  simp only [Program.fieldsOf, Try.underlying144]
  go_simp
  by_cases h0 : a0 = b0 <;> by_cases h1 : a1 = b1 <;> by_cases h2 : a2 = b2 <;> by_cases h3 : a3 = b3 <;> by_cases h4 : a4 = b4 <;> simp [h0, h1, h2, h3, h4]

set_option maxRecDepth 100000 in
theorem eq5_blk (a0 a1 a2 a3 a4 b0 b1 b2 b3 b4 : Int) (w : World) :
    (Op.equalIn 10000 61 (.agg #[.int .i64 a0, .int .i64 a1, .int .i64 a2, .int .i64 a3, .int .i64 a4]) (.agg #[.int .i64 b0, .int .i64 b1, .int .i64 b2, .int .i64 b3, .int .i64 b4])).run Try.prog w
      = .ok (decide (a0 = b0 ∧ a1 = b1 ∧ a2 = b2 ∧ a3 = b3 ∧ a4 = b4)) w := by
  have u3 := Try.underlying3
  have a3' := Try.isAgg3
  have z3 := Try.sizeOf3
  have hS : Try.prog.underlying 61 = some (.struct (Try.prog.fieldsOf 61)) := by kernel_rfl
  have hp : Try.prog.stoodInHeld 61 = false := by kernel_rfl
  rw [show (10000 : Nat) = 9999 + 1 from rfl, run_equalIn_agg w 9999 61 _ _ hS hp]
  simp only [Program.fieldsOf, Try.underlying61]
  go_simp
  by_cases h0 : a0 = b0 <;> by_cases h1 : a1 = b1 <;> by_cases h2 : a2 = b2 <;> by_cases h3 : a3 = b3 <;> by_cases h4 : a4 = b4 <;> simp [h0, h1, h2, h3, h4]

def ptrs (g : Nat) : Value := .agg #[.pointer (some ⟨g, 0, none⟩), .pointer (some ⟨g, 1, none⟩), .pointer (some ⟨g, 2, none⟩), .pointer (some ⟨g, 3, none⟩), .pointer (some ⟨g, 4, none⟩)]

theorem ptrs_at (g : Nat) : (∀ w, (Instr.index 139 (ptrs g) (.int .i64 0)).run Try.prog w = .ok (.pointer (some ⟨g, 0, none⟩)) w) ∧ (∀ w, (Instr.index 139 (ptrs g) (.int .i64 1)).run Try.prog w = .ok (.pointer (some ⟨g, 1, none⟩)) w) ∧ (∀ w, (Instr.index 139 (ptrs g) (.int .i64 2)).run Try.prog w = .ok (.pointer (some ⟨g, 2, none⟩)) w) ∧ (∀ w, (Instr.index 139 (ptrs g) (.int .i64 3)).run Try.prog w = .ok (.pointer (some ⟨g, 3, none⟩)) w) ∧ (∀ w, (Instr.index 139 (ptrs g) (.int .i64 4)).run Try.prog w = .ok (.pointer (some ⟨g, 4, none⟩)) w) :=
  ⟨fun _ => by kernel_rfl, fun _ => by kernel_rfl, fun _ => by kernel_rfl, fun _ => by kernel_rfl, fun _ => by kernel_rfl⟩

set_option maxRecDepth 100000 in
set_option maxHeartbeats 1000000 in
theorem numbers_any (g : Nat) (w : World) : Calls Try.prog 83 #[.pointer (some ⟨g, 0, none⟩)] w fun e w' => e = .returned (ptrs g) ∧ Fr No w w' := by
  go_enter Try.func83, Try.ntmps83
  go_wp2_with fail
  go_region
  go_wp2_with fail
  exact bodyPost_ret (v := ptrs g) (by simp [results, Try.results83, go_sem, ptrs]) rfl ⟨rfl, (Fr.alloc _ _).step (Fr.drew _)⟩

end Go.Proofs.Ytpimjachhfnlfaa
