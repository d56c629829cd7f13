/- The plain law: both lines are one; a line's contract, whatever the reply. -/
import Derived.Test.YtkcjcpcnfjffoaaDoorRefUp
import Derived.Test.YtkcjcpcnfjffoaaDoorToks
namespace Go.Proofs.YtkcjcpcnfjffoaaDoor
open Go.RowKit
set_option linter.unusedVariables false
theorem law_down (r : ReplyV) (hu : r.up = false) : refHead r ⟨#[32, 100, 111, 119, 110]⟩ ++ ⟨#[10]⟩ = progLine r := by
  unfold progLine parts
  rw [hu, if_neg (by simp)]
  apply ByteArray.ext
  apply Array.ext'
  simp [refHead, headParts, Lib.join, List.intercalate, wordsStr, twoStr, wTick, wRoute, wDown]
theorem law_up (r : ReplyV) (hu : r.up = true) : refHead r ⟨#[32, 117, 112]⟩ ++ refMid r ++ refEnd r ++ ⟨#[10]⟩ = progLine r := by
  unfold progLine parts
  rw [hu, if_pos rfl]
  apply ByteArray.ext
  apply Array.ext'
  simp [refHead, refMid, refEnd, headParts, tailParts, Lib.join, List.intercalate, wordsStr, twoStr, wTick, wRoute, wUp, wActive, wGen, wRev, wWant, wReady]
theorem line_any (r : ReplyV) (ok : r.Ok) (w : World) (ht : Tab w) : Calls Tryd.prog 9 #[.agg r.cells] w fun e w' => e = .returned (.string (progLine r)) ∧ Below w.heap.size w w' := by
  cases hu : r.up with
  | true => exact line_up r ok hu w ht
  | false => exact line_down r ok hu w ht
theorem ref_any (r : ReplyV) (ok : r.Ok) (w : World) : Calls Tryd.prog 10 #[.agg r.cells] w fun e w' => e = .returned (.string (progLine r)) ∧ Below w.heap.size w w' := by
  cases hu : r.up with
  | true => rw [← law_up r hu]; exact ref_up r ok hu w
  | false => rw [← law_down r hu]; exact ref_down r ok hu w
theorem progLine_size (r : ReplyV) (ok : r.Ok) : (progLine r).size ≤ 2011 := by
  unfold progLine
  have h : (Lib.join ((parts r).map (·.data.toList)) [32]).length ≤ 201 * 10 := by
    unfold parts
    split
    · refine line_bound _ 10 (fun x hx => ?_) (Nat.le_refl _)
      rcases List.mem_append.1 hx with hx | hx
      · exact head_small r ok wUp (by decide) x hx
      · exact tail_small r ok x hx
    · exact line_bound _ 10 (head_small r ok wDown (by decide)) (by simp [headParts])
  rw [ByteArray.size_append]
  show (Lib.join ((parts r).map (·.data.toList)) [32]).toArray.size + 1 ≤ 2011
  rw [List.size_toArray]
  omega

/-- The state at the beginning. -/
def firstCells (rev n : Int) : Array Value := #[.int .i64 0, .int .i64 0, .int .i64 rev, .int .i64 0, .int .i64 n, .int .i64 0, .bool true, .bool false, .int .i64 0, .int .i64 0, .int .i64 0, .int .i64 0]
set_option maxHeartbeats 1000000 in
theorem first_any (rev n : Int) (w : World) : Calls Tryd.prog 16 #[.int .i64 rev, .int .i64 n] w fun e w' => e = .returned (.agg (firstCells rev n)) ∧ Below w.heap.size w w' := by
  go_enter Tryd.func16, Tryd.ntmps16
  go_wp2
  refine bodyPost_ret (v := .agg (firstCells rev n)) (by simp [results, Tryd.results16, go_sem, firstCells]) rfl ⟨rfl, ?_⟩
  exact ((Below.refl _ _).alloc (Nat.le_refl _) _).alloc (by simp) _

def awR1 : ReplyV := ⟨0, 0, 0, 1, 0, 2, 0, true, false, 0, 0, 0, 0, 0, 0, 2, 0, 2, 0, true, 0⟩
def awR2 : ReplyV := ⟨12, 0, 0, 0, 0, 0, 0, false, false, 0, 0, 0, 0, 0, 0, 0, 0, 0, 0, false, 12⟩
theorem awOk1 : awR1.Ok := by constructor <;> (unfold I64 awR1; simp)
theorem awOk2 : awR2.Ok := by constructor <;> (unfold I64 awR2; simp)
theorem num_d (d : Nat) (h : d < 10) : numStr (d : Int) = ⟨#[UInt8.ofNat (48 + d)]⟩ := by unfold numStr; rw [Lib.itoa_nonneg, Lib.decDigits_one h]
theorem num0 : numStr 0 = ⟨#[48]⟩ := num_d 0 (by omega)
theorem num1 : numStr 1 = ⟨#[49]⟩ := num_d 1 (by omega)
theorem num2 : numStr 2 = ⟨#[50]⟩ := num_d 2 (by omega)
theorem num12 : numStr 12 = ⟨#[49, 50]⟩ := by
  unfold numStr
  rw [show (12 : Int) = ((12 : Nat) : Int) from rfl, Lib.itoa_nonneg, Lib.decDigits_two (by omega) (by omega)]
  rfl
theorem awS1 : progLine awR1 = ⟨#[111, 107, 32, 117, 112, 32, 116, 105, 99, 107, 32, 48, 32, 114, 111, 117, 116, 101, 32, 48, 32, 48, 32, 115, 116, 97, 98, 108, 101, 32, 97, 99, 116, 105, 118, 101, 32, 48, 32, 103, 101, 110, 32, 48, 32, 114, 101, 118, 32, 49, 32, 48, 32, 119, 97, 110, 116, 32, 50, 32, 48, 32, 114, 101, 97, 100, 121, 32, 50, 32, 48, 10]⟩ := by
  unfold progLine parts headParts tailParts awR1 wordsStr
  simp only [List.foldl_cons, List.foldl_nil, num0, num1, num2, if_true]
  decide +kernel
theorem awS2 : progLine awR2 = ⟨#[110, 111, 110, 101, 32, 100, 111, 119, 110, 32, 116, 105, 99, 107, 32, 49, 50, 32, 114, 111, 117, 116, 101, 32, 48, 32, 48, 10]⟩ := by
  unfold progLine parts headParts awR2 wordsStr
  simp only [List.foldl_cons, List.foldl_nil, num0, num12, Bool.false_eq_true, if_false]
  decide +kernel
theorem aw_e1 : ((progLine awR1).toList == [111, 107, 32, 117, 112, 32, 116, 105, 99, 107, 32, 48, 32, 114, 111, 117, 116, 101, 32, 48, 32, 48, 32, 115, 116, 97, 98, 108, 101, 32, 97, 99, 116, 105, 118, 101, 32, 48, 32, 103, 101, 110, 32, 48, 32, 114, 101, 118, 32, 49, 32, 48, 32, 119, 97, 110, 116, 32, 50, 32, 48, 32, 114, 101, 97, 100, 121, 32, 50, 32, 48, 10]) = true := by rw [awS1, ByteArray.toList_mk]; exact beq_self_eq_true _
theorem aw_e1b : ((progLine awR1).toList == [111, 107, 32, 117, 112, 32, 116, 105, 99, 107, 32, 48, 32, 114, 111, 117, 116, 101, 32, 48, 32, 48, 32, 115, 116, 97, 98, 108, 101, 32, 97, 99, 116, 105, 118, 101] ++ [32, 48, 32, 103, 101, 110, 32, 48, 32, 114, 101, 118, 32, 49, 32, 48, 32, 119, 97, 110, 116, 32, 50, 32, 48, 32, 114, 101, 97, 100, 121, 32, 50, 32, 48, 10]) = true := aw_e1
theorem aw_e2 : ((progLine awR2).toList == [110, 111, 110, 101, 32, 100, 111, 119, 110, 32, 116, 105, 99, 107, 32, 49, 50, 32, 114, 111, 117, 116, 101, 32, 48, 32, 48, 10]) = true := by rw [awS2, ByteArray.toList_mk]; exact beq_self_eq_true _
theorem aw_e3 : ((phaseName 8).toList == [117, 110, 107, 110, 111, 119, 110]) = true := by rw [show phaseName 8 = ⟨#[117, 110, 107, 110, 111, 119, 110]⟩ from rfl, ByteArray.toList_mk]; exact beq_self_eq_true _
theorem aw_e4 : ((errName 15).toList == [117, 110, 107, 110, 111, 119, 110]) = true := by rw [show errName 15 = ⟨#[117, 110, 107, 110, 111, 119, 110]⟩ from rfl, ByteArray.toList_mk]; exact beq_self_eq_true _
theorem aw_e5 : ((errName (-1)).toList == [117, 110, 107, 110, 111, 119, 110]) = true := by rw [show errName (-1) = ⟨#[117, 110, 107, 110, 111, 119, 110]⟩ from rfl, ByteArray.toList_mk]; exact beq_self_eq_true _
end Go.Proofs.YtkcjcpcnfjffoaaDoor
