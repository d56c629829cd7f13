/- The reference's Line. -/
import Derived.Test.YtkcjcpcnfjffoaaDoorLine
namespace Go.Proofs.YtkcjcpcnfjffoaaDoor
open Go.RowKit
set_option linter.unusedVariables false

/-- Its first half. -/
def refHead (r : ReplyV) (u : ByteArray) : ByteArray := errName r.err ++ u ++ ((⟨#[32, 116, 105, 99, 107, 32]⟩ : ByteArray) ++ numStr r.tick ++ ⟨#[32, 114, 111, 117, 116, 101]⟩ ++ twoStr r.slot r.cgen)
theorem twoStr_size (a b : Int) (ha : I64 a) (hb : I64 b) : (twoStr a b).size ≤ 44 := by
  have h1 := numStr_size a ha
  have h2 := numStr_size b hb
  have h3 : (⟨#[32]⟩ : ByteArray).size = 1 := rfl
  simp only [twoStr, ByteArray.size_append, h3]
  omega

set_option maxHeartbeats 4000000 in
theorem ref_down (r : ReplyV) (ok : r.Ok) (hu : r.up = false) (w : World) : Calls Tryd.prog 10 #[.agg r.cells] w fun e w' => e = .returned (.string (refHead r ⟨#[32, 100, 111, 119, 110]⟩ ++ ⟨#[10]⟩)) ∧ Below w.heap.size w w' := by
  have hR := RBox.new w r
  have hF := (From.refl w).alloc (.cells r.cells 32)
  have hwb : ∃ wb, w.alloc (.cells r.cells 32) = wb := ⟨_, rfl⟩
  obtain ⟨wb, hwb⟩ := hwb
  rw [hwb] at hR hF
  unfold ReplyV.cells
  unfold ReplyV.cells at hwb
  rw [hu] at hwb ⊢
  have z0 := hR.at_ 0 (.int .i64 r.err) rfl
  have s1 := errName_size r.err
  have s2 := numStr_size r.tick ok.tick
  have s3 := twoStr_size r.slot r.cgen ok.slot ok.cgen
  have C1 := fun W => error_ref r.err W
  have C2 := num_any r.tick ok.tick
  have C3 := two_any r.slot r.cgen ok.slot ok.cgen
  unfold refHead
  generalize errName r.err = E at *
  generalize numStr r.tick = N at *
  generalize twoStr r.slot r.cgen = T at *
  have q1 : ((⟨#[32, 116, 105, 99, 107, 32]⟩ : ByteArray) ++ N).size ≤ 27 := by rw [ByteArray.size_append]; show 6 + N.size ≤ 27; omega
  have q2 : ((⟨#[32, 116, 105, 99, 107, 32]⟩ : ByteArray) ++ N ++ ⟨#[32, 114, 111, 117, 116, 101]⟩).size ≤ 33 := by rw [ByteArray.size_append]; show _ + 6 ≤ 33; omega
  have q3 : ((⟨#[32, 116, 105, 99, 107, 32]⟩ : ByteArray) ++ N ++ ⟨#[32, 114, 111, 117, 116, 101]⟩ ++ T).size ≤ 77 := by rw [ByteArray.size_append]; omega
  have q4 : (E ++ (⟨#[32, 100, 111, 119, 110]⟩ : ByteArray)).size ≤ 12 := by rw [ByteArray.size_append]; show _ + 5 ≤ 12; omega
  have q5 : (E ++ (⟨#[32, 100, 111, 119, 110]⟩ : ByteArray) ++ ((⟨#[32, 116, 105, 99, 107, 32]⟩ : ByteArray) ++ N ++ ⟨#[32, 114, 111, 117, 116, 101]⟩ ++ T)).size ≤ 89 := by rw [ByteArray.size_append]; omega
  have a1 : ∀ W, (Op.stringOp .add (⟨#[32, 116, 105, 99, 107, 32]⟩ : ByteArray) N).run Tryd.prog W = .ok (.string ((⟨#[32, 116, 105, 99, 107, 32]⟩ : ByteArray) ++ N)) W := fun W => run_string_add _ _ _ (by decide) (by omega)
  have a2 : ∀ W, (Op.stringOp .add ((⟨#[32, 116, 105, 99, 107, 32]⟩ : ByteArray) ++ N) ⟨#[32, 114, 111, 117, 116, 101]⟩).run Tryd.prog W = .ok (.string ((⟨#[32, 116, 105, 99, 107, 32]⟩ : ByteArray) ++ N ++ ⟨#[32, 114, 111, 117, 116, 101]⟩)) W := fun W => run_string_add _ _ _ (by omega) (by decide)
  have a3 : ∀ W, (Op.stringOp .add ((⟨#[32, 116, 105, 99, 107, 32]⟩ : ByteArray) ++ N ++ ⟨#[32, 114, 111, 117, 116, 101]⟩) T).run Tryd.prog W = .ok (.string ((⟨#[32, 116, 105, 99, 107, 32]⟩ : ByteArray) ++ N ++ ⟨#[32, 114, 111, 117, 116, 101]⟩ ++ T)) W := fun W => run_string_add _ _ _ (by omega) (by omega)
  have a4 : ∀ W, (Op.stringOp .add (E ++ (⟨#[32, 100, 111, 119, 110]⟩ : ByteArray)) ((⟨#[32, 116, 105, 99, 107, 32]⟩ : ByteArray) ++ N ++ ⟨#[32, 114, 111, 117, 116, 101]⟩ ++ T)).run Tryd.prog W = .ok (.string (E ++ (⟨#[32, 100, 111, 119, 110]⟩ : ByteArray) ++ ((⟨#[32, 116, 105, 99, 107, 32]⟩ : ByteArray) ++ N ++ ⟨#[32, 114, 111, 117, 116, 101]⟩ ++ T))) W := fun W => run_string_add _ _ _ (by omega) (by omega)
  go_enter Tryd.func10, Tryd.ntmps10
  go_wp2_with fail
  refine (C1 _).mono ?_
  rintro e w1 ⟨rfl, hb1⟩
  have hR1 := hR.below hb1
  have hF1 := hF.below hb1
  clear hR hF hb1 hwb z0 C1
  generalize w.heap.size = BX at hR1 ⊢
  have c19 : w1.cell? ⟨BX, 19, none⟩ = some (.bool false) := by rw [← hu]; exact hR1.at_ 19 (.bool r.up) rfl
  have c20 := hR1.at_ 20 (.int .i64 r.tick) rfl
  have c13 := hR1.at_ 13 (.int .i64 r.slot) rfl
  have c14 := hR1.at_ 14 (.int .i64 r.cgen) rfl
  go_wp2_with fail
  have hRd := hR1.drew
  have hFd := hF1.drew
  go_region_held3 (fun w' => w'.cell? ⟨BX, 13, none⟩ = some (.int .i64 r.slot) ∧ w'.cell? ⟨BX, 14, none⟩ = some (.int .i64 r.cgen) ∧ w'.cell? ⟨BX, 20, none⟩ = some (.int .i64 r.tick))
    (first | exact ⟨c13, c14, c20⟩ | exact (RBox.head hR2).2 | exact (RBox.head hR3).2)
    (first
      | (go_at_call 19; with_reducible refine (C2 _).mono ?_; rintro e w2 ⟨rfl, hb2⟩; have hR2 := hRd.below hb2; have hF2 := hFd.below hb2)
      | (go_at_call 20; with_reducible refine (C3 _).mono ?_; rintro e w3 ⟨rfl, hb3⟩; have hR3 := hR2.below hb3; have hF3 := hF2.below hb3))
  have d19 : w3.cell? ⟨BX, 19, none⟩ = some (.bool false) := by rw [← hu]; exact hR3.at_ 19 (.bool r.up) rfl
  go_wp2
  go_ret
  exact ⟨rfl, hF3⟩
end Go.Proofs.YtkcjcpcnfjffoaaDoor
