/- The status seat: the names, the numbers. -/
import Derived.Test.YtkcjcpcnfjffoaaDoorShelf
import Derived.Test.YtkcjcpcnfjffoaaDoorRows
import Derived.WalkKit
import Derived.WalkSpells
import Derived.WalkLawsBesides
import Derived.ProofKit
import Derived.OpenShut
import Derived.Lib.LaidTab
namespace Go.Proofs.YtkcjcpcnfjffoaaDoor
open Go.RowKit
set_option linter.unusedVariables false

def unknownName : ByteArray := ⟨#[117, 110, 107, 110, 111, 119, 110]⟩
def phaseName (p : Int) : ByteArray :=
  if p = 0 then ⟨#[115, 116, 97, 98, 108, 101]⟩ else
  if p = 1 then ⟨#[112, 114, 101, 119, 97, 114, 109]⟩ else
  if p = 2 then ⟨#[112, 114, 101, 45, 103, 97, 116, 101]⟩ else
  if p = 3 then ⟨#[99, 117, 116, 111, 118, 101, 114]⟩ else
  if p = 4 then ⟨#[112, 111, 115, 116, 45, 103, 97, 116, 101]⟩ else
  if p = 5 then ⟨#[100, 101, 108, 97, 121]⟩ else
  if p = 6 then ⟨#[114, 111, 108, 108, 98, 97, 99, 107]⟩ else
  if p = 7 then ⟨#[114, 101, 116, 105, 114, 101]⟩ else
  unknownName
def errName (p : Int) : ByteArray :=
  if p = 0 then ⟨#[111, 107]⟩ else
  if p = 1 then ⟨#[114, 97, 110, 103, 101]⟩ else
  if p = 2 then ⟨#[104, 97, 108, 116]⟩ else
  if p = 3 then ⟨#[102, 117, 108, 108]⟩ else
  if p = 4 then ⟨#[102, 111, 114, 109]⟩ else
  if p = 5 then ⟨#[108, 111, 110, 103]⟩ else
  if p = 6 then ⟨#[107, 105, 110, 100]⟩ else
  if p = 7 then ⟨#[112, 104, 97, 115, 101]⟩ else
  if p = 8 then ⟨#[116, 119, 105, 99, 101]⟩ else
  if p = 9 then ⟨#[111, 118, 101, 114]⟩ else
  if p = 10 then ⟨#[114, 111, 117, 116, 101, 114]⟩ else
  if p = 11 then ⟨#[115, 116, 97, 108, 101]⟩ else
  if p = 12 then ⟨#[110, 111, 110, 101]⟩ else
  if p = 13 then ⟨#[114, 101, 118]⟩ else
  if p = 14 then ⟨#[111, 114, 100, 101, 114]⟩ else
  unknownName
theorem phaseName_0 : phaseName 0 = ⟨#[115, 116, 97, 98, 108, 101]⟩ := rfl
theorem phaseName_1 : phaseName 1 = ⟨#[112, 114, 101, 119, 97, 114, 109]⟩ := rfl
theorem phaseName_2 : phaseName 2 = ⟨#[112, 114, 101, 45, 103, 97, 116, 101]⟩ := rfl
theorem phaseName_3 : phaseName 3 = ⟨#[99, 117, 116, 111, 118, 101, 114]⟩ := rfl
theorem phaseName_4 : phaseName 4 = ⟨#[112, 111, 115, 116, 45, 103, 97, 116, 101]⟩ := rfl
theorem phaseName_5 : phaseName 5 = ⟨#[100, 101, 108, 97, 121]⟩ := rfl
theorem phaseName_6 : phaseName 6 = ⟨#[114, 111, 108, 108, 98, 97, 99, 107]⟩ := rfl
theorem phaseName_7 : phaseName 7 = ⟨#[114, 101, 116, 105, 114, 101]⟩ := rfl
theorem phaseName_out {p : Int} (h : p < 0 ∨ 8 ≤ p) : phaseName p = unknownName := by
  unfold phaseName
  rw [if_neg (by omega)]
  rw [if_neg (by omega)]
  rw [if_neg (by omega)]
  rw [if_neg (by omega)]
  rw [if_neg (by omega)]
  rw [if_neg (by omega)]
  rw [if_neg (by omega)]
  rw [if_neg (by omega)]
theorem errName_0 : errName 0 = ⟨#[111, 107]⟩ := rfl
theorem errName_1 : errName 1 = ⟨#[114, 97, 110, 103, 101]⟩ := rfl
theorem errName_2 : errName 2 = ⟨#[104, 97, 108, 116]⟩ := rfl
theorem errName_3 : errName 3 = ⟨#[102, 117, 108, 108]⟩ := rfl
theorem errName_4 : errName 4 = ⟨#[102, 111, 114, 109]⟩ := rfl
theorem errName_5 : errName 5 = ⟨#[108, 111, 110, 103]⟩ := rfl
theorem errName_6 : errName 6 = ⟨#[107, 105, 110, 100]⟩ := rfl
theorem errName_7 : errName 7 = ⟨#[112, 104, 97, 115, 101]⟩ := rfl
theorem errName_8 : errName 8 = ⟨#[116, 119, 105, 99, 101]⟩ := rfl
theorem errName_9 : errName 9 = ⟨#[111, 118, 101, 114]⟩ := rfl
theorem errName_10 : errName 10 = ⟨#[114, 111, 117, 116, 101, 114]⟩ := rfl
theorem errName_11 : errName 11 = ⟨#[115, 116, 97, 108, 101]⟩ := rfl
theorem errName_12 : errName 12 = ⟨#[110, 111, 110, 101]⟩ := rfl
theorem errName_13 : errName 13 = ⟨#[114, 101, 118]⟩ := rfl
theorem errName_14 : errName 14 = ⟨#[111, 114, 100, 101, 114]⟩ := rfl
theorem errName_out {p : Int} (h : p < 0 ∨ 15 ≤ p) : errName p = unknownName := by
  unfold errName
  rw [if_neg (by omega)]
  rw [if_neg (by omega)]
  rw [if_neg (by omega)]
  rw [if_neg (by omega)]
  rw [if_neg (by omega)]
  rw [if_neg (by omega)]
  rw [if_neg (by omega)]
  rw [if_neg (by omega)]
  rw [if_neg (by omega)]
  rw [if_neg (by omega)]
  rw [if_neg (by omega)]
  rw [if_neg (by omega)]
  rw [if_neg (by omega)]
  rw [if_neg (by omega)]
  rw [if_neg (by omega)]

set_option maxHeartbeats 4000000 in
theorem phase (p : Int) (w : World) : Calls Tryd.prog 11 #[.int .i64 p] w fun e w' => e = .returned (.string (phaseName p)) ∧ Below w.heap.size w w' := by
  have hB := Below.refl w.heap.size w
  by_cases hin : 0 ≤ p ∧ p < 8
  · have hc : p = 0 ∨ p = 1 ∨ p = 2 ∨ p = 3 ∨ p = 4 ∨ p = 5 ∨ p = 6 ∨ p = 7 := by omega
    clear hin
    rcases hc with rfl | rfl | rfl | rfl | rfl | rfl | rfl | rfl
    all_goals go_enter Tryd.func11, Tryd.ntmps11
    all_goals go_wp2
    all_goals go_ret
    all_goals exact ⟨rfl, by first | exact hB | exact hB.alloc (Nat.le_refl _) _ | exact (hB.drew).alloc (Nat.le_refl _) _ | exact (hB.alloc (Nat.le_refl _) _).drew⟩
  · rw [phaseName_out (by omega)]
    have hc : p < 0 ∨ (¬ p < 0 ∧ 8 ≤ p) := by omega
    clear hin
    rcases hc with h1 | ⟨h1, h2⟩
    all_goals go_enter Tryd.func11, Tryd.ntmps11
    all_goals go_wp2
    all_goals go_ret
    all_goals exact ⟨rfl, by first | exact hB | exact hB.alloc (Nat.le_refl _) _ | exact (hB.drew).alloc (Nat.le_refl _) _ | exact (hB.alloc (Nat.le_refl _) _).drew⟩

set_option maxHeartbeats 4000000 in
theorem phase_ref (p : Int) (w : World) : Calls Tryd.prog 12 #[.int .i64 p] w fun e w' => e = .returned (.string (phaseName p)) ∧ Below w.heap.size w w' := by
  have hB := Below.refl w.heap.size w
  by_cases hin : 0 ≤ p ∧ p < 8
  · have hc : p = 0 ∨ p = 1 ∨ p = 2 ∨ p = 3 ∨ p = 4 ∨ p = 5 ∨ p = 6 ∨ p = 7 := by omega
    clear hin
    rcases hc with rfl | rfl | rfl | rfl | rfl | rfl | rfl | rfl
    all_goals go_enter Tryd.func12, Tryd.ntmps12
    all_goals go_wp2
    all_goals go_ret
    all_goals exact ⟨rfl, by first | exact hB | exact hB.alloc (Nat.le_refl _) _ | exact (hB.drew).alloc (Nat.le_refl _) _ | exact (hB.alloc (Nat.le_refl _) _).drew⟩
  · rw [phaseName_out (by omega)]
    have hc : p < 0 ∨ (¬ p < 0 ∧ 8 ≤ p) := by omega
    have b0 : (p == 0) = false := by simp; omega
    have b1 : (p == 1) = false := by simp; omega
    have b2 : (p == 2) = false := by simp; omega
    have b3 : (p == 3) = false := by simp; omega
    have b4 : (p == 4) = false := by simp; omega
    have b5 : (p == 5) = false := by simp; omega
    have b6 : (p == 6) = false := by simp; omega
    have b7 : (p == 7) = false := by simp; omega
    clear hin
    rcases hc with h1 | ⟨h1, h2⟩
    all_goals go_enter Tryd.func12, Tryd.ntmps12
    all_goals go_wp2
    all_goals go_ret
    all_goals exact ⟨rfl, by first | exact hB | exact hB.alloc (Nat.le_refl _) _ | exact (hB.drew).alloc (Nat.le_refl _) _ | exact (hB.alloc (Nat.le_refl _) _).drew⟩

set_option maxHeartbeats 4000000 in
theorem error (p : Int) (w : World) : Calls Tryd.prog 13 #[.int .i64 p] w fun e w' => e = .returned (.string (errName p)) ∧ Below w.heap.size w w' := by
  have hB := Below.refl w.heap.size w
  by_cases hin : 0 ≤ p ∧ p < 15
  · have hc : p = 0 ∨ p = 1 ∨ p = 2 ∨ p = 3 ∨ p = 4 ∨ p = 5 ∨ p = 6 ∨ p = 7 ∨ p = 8 ∨ p = 9 ∨ p = 10 ∨ p = 11 ∨ p = 12 ∨ p = 13 ∨ p = 14 := by omega
    clear hin
    rcases hc with rfl | rfl | rfl | rfl | rfl | rfl | rfl | rfl | rfl | rfl | rfl | rfl | rfl | rfl | rfl
    all_goals go_enter Tryd.func13, Tryd.ntmps13
    all_goals go_wp2
    all_goals go_ret
    all_goals exact ⟨rfl, by first | exact hB | exact hB.alloc (Nat.le_refl _) _ | exact (hB.drew).alloc (Nat.le_refl _) _ | exact (hB.alloc (Nat.le_refl _) _).drew⟩
  · rw [errName_out (by omega)]
    have hc : p < 0 ∨ (¬ p < 0 ∧ 15 ≤ p) := by omega
    clear hin
    rcases hc with h1 | ⟨h1, h2⟩
    all_goals go_enter Tryd.func13, Tryd.ntmps13
    all_goals go_wp2
    all_goals go_ret
    all_goals exact ⟨rfl, by first | exact hB | exact hB.alloc (Nat.le_refl _) _ | exact (hB.drew).alloc (Nat.le_refl _) _ | exact (hB.alloc (Nat.le_refl _) _).drew⟩

set_option maxHeartbeats 4000000 in
theorem error_ref (p : Int) (w : World) : Calls Tryd.prog 14 #[.int .i64 p] w fun e w' => e = .returned (.string (errName p)) ∧ Below w.heap.size w w' := by
  have hB := Below.refl w.heap.size w
  by_cases hin : 0 ≤ p ∧ p < 15
  · have hc : p = 0 ∨ p = 1 ∨ p = 2 ∨ p = 3 ∨ p = 4 ∨ p = 5 ∨ p = 6 ∨ p = 7 ∨ p = 8 ∨ p = 9 ∨ p = 10 ∨ p = 11 ∨ p = 12 ∨ p = 13 ∨ p = 14 := by omega
    clear hin
    rcases hc with rfl | rfl | rfl | rfl | rfl | rfl | rfl | rfl | rfl | rfl | rfl | rfl | rfl | rfl | rfl
    all_goals go_enter Tryd.func14, Tryd.ntmps14
    all_goals go_wp2
    all_goals go_ret
    all_goals exact ⟨rfl, by first | exact hB | exact hB.alloc (Nat.le_refl _) _ | exact (hB.drew).alloc (Nat.le_refl _) _ | exact (hB.alloc (Nat.le_refl _) _).drew⟩
  · rw [errName_out (by omega)]
    have hc : p < 0 ∨ (¬ p < 0 ∧ 15 ≤ p) := by omega
    clear hin
    rcases hc with h1 | ⟨h1, h2⟩
    all_goals go_enter Tryd.func14, Tryd.ntmps14
    all_goals go_wp2
    all_goals go_ret
    all_goals exact ⟨rfl, by first | exact hB | exact hB.alloc (Nat.le_refl _) _ | exact (hB.drew).alloc (Nat.le_refl _) _ | exact (hB.alloc (Nat.le_refl _) _).drew⟩
end Go.Proofs.YtkcjcpcnfjffoaaDoor
