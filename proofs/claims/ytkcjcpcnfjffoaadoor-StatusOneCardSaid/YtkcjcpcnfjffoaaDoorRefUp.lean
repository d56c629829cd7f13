/- The reference's Line, of a reply that is up. -/
import Derived.Test.YtkcjcpcnfjffoaaDoorRef
import Derived.Test.YtkcjcpcnfjffoaaDoorLineUp
namespace Go.Proofs.YtkcjcpcnfjffoaaDoor
open Go.RowKit
set_option linter.unusedVariables false

def refMid (r : ReplyV) : ByteArray :=
  (⟨#[32]⟩ : ByteArray) ++ phaseName r.phase ++ ⟨#[32, 97, 99, 116, 105, 118, 101, 32]⟩ ++ numStr r.active ++ ⟨#[32, 103, 101, 110, 32]⟩ ++ numStr r.gen ++ ⟨#[32, 114, 101, 118]⟩ ++ twoStr r.r0 r.r1
def refEnd (r : ReplyV) : ByteArray := (⟨#[32, 119, 97, 110, 116]⟩ : ByteArray) ++ twoStr r.w0 r.w1 ++ ⟨#[32, 114, 101, 97, 100, 121]⟩ ++ twoStr r.d0 r.d1
def ReplyV.view (r : ReplyV) : Array Value := #[.int .i64 r.w0, .int .i64 r.w1, .int .i64 r.d0, .int .i64 r.d1]
theorem Box.tail5 {w : World} {b : Nat} {r : ReplyV} (h : Box w b r.state) : w.cell? ⟨b, 0, none⟩ = some (.int .i64 r.phase) ∧ w.cell? ⟨b, 1, none⟩ = some (.int .i64 r.active) ∧ w.cell? ⟨b, 2, none⟩ = some (.int .i64 r.r0) ∧ w.cell? ⟨b, 3, none⟩ = some (.int .i64 r.r1) ∧ w.cell? ⟨b, 9, none⟩ = some (.int .i64 r.gen) :=
  ⟨h.at_ _ _ rfl, h.at_ _ _ rfl, h.at_ _ _ rfl, h.at_ _ _ rfl, h.at_ _ _ rfl⟩
theorem Box.view4 {w : World} {b : Nat} {r : ReplyV} (h : Box w b r.view) : w.cell? ⟨b, 0, none⟩ = some (.int .i64 r.w0) ∧ w.cell? ⟨b, 1, none⟩ = some (.int .i64 r.w1) ∧ w.cell? ⟨b, 2, none⟩ = some (.int .i64 r.d0) ∧ w.cell? ⟨b, 3, none⟩ = some (.int .i64 r.d1) :=
  ⟨h.at_ _ _ rfl, h.at_ _ _ rfl, h.at_ _ _ rfl, h.at_ _ _ rfl⟩
theorem sadd (x y : ByteArray) (hx : x.size ≤ 1000) (hy : y.size ≤ 1000) : ∀ W, (Op.stringOp .add x y).run Tryd.prog W = .ok (.string (x ++ y)) W := fun W => run_string_add _ _ _ (by omega) (by omega)

set_option maxHeartbeats 8000000 in
theorem ref_up (r : ReplyV) (ok : r.Ok) (hu : r.up = true) (w : World) : Calls Tryd.prog 10 #[.agg r.cells] w fun e w' => e = .returned (.string (refHead r ⟨#[32, 117, 112]⟩ ++ refMid r ++ refEnd r ++ ⟨#[10]⟩)) ∧ Below w.heap.size w w' := by
  have hR := RBox.new w r
  have hF := (From.refl w).alloc (.cells r.cells 32)
  have hwb : ∃ wb, w.alloc (.cells r.cells 32) = wb := ⟨_, rfl⟩
  obtain ⟨wb, hwb⟩ := hwb
  rw [hwb] at hR hF
  unfold ReplyV.cells
  unfold ReplyV.cells at hwb
  rw [hu] at hwb ⊢
  have z0 := hR.at_ 0 (.int .i64 r.err) rfl
  have s1 := errName_size r.err
  have s2 := numStr_size r.tick ok.tick
  have s3 := twoStr_size r.slot r.cgen ok.slot ok.cgen
  have s4 := phaseName_size r.phase
  have s5 := numStr_size r.active ok.active
  have s6 := numStr_size r.gen ok.gen
  have s7 := twoStr_size r.r0 r.r1 ok.r0 ok.r1
  have s8 := twoStr_size r.w0 r.w1 ok.w0 ok.w1
  have s9 := twoStr_size r.d0 r.d1 ok.d0 ok.d1
  have C1 := fun W => error_ref r.err W
  have C2 := num_any r.tick ok.tick
  have C3 := two_any r.slot r.cgen ok.slot ok.cgen
  have C4 := fun W => phase_ref r.phase W
  have C5 := num_any r.active ok.active
  have C6 := num_any r.gen ok.gen
  have C7 := two_any r.r0 r.r1 ok.r0 ok.r1
  have C8 := two_any r.w0 r.w1 ok.w0 ok.w1
  have C9 := two_any r.d0 r.d1 ok.d0 ok.d1
  unfold refHead refMid refEnd
  generalize errName r.err = E at *
  generalize numStr r.tick = N at *
  generalize twoStr r.slot r.cgen = T at *
  generalize phaseName r.phase = P at *
  generalize numStr r.active = A at *
  generalize numStr r.gen = G at *
  generalize twoStr r.r0 r.r1 = R at *
  generalize twoStr r.w0 r.w1 = V at *
  generalize twoStr r.d0 r.d1 = D at *
  have k1 : (⟨#[32, 116, 105, 99, 107, 32]⟩ : ByteArray).size = 6 := rfl
  have k2 : (⟨#[32, 114, 111, 117, 116, 101]⟩ : ByteArray).size = 6 := rfl
  have k3 : (⟨#[32, 117, 112]⟩ : ByteArray).size = 3 := rfl
  have k4 : (⟨#[32]⟩ : ByteArray).size = 1 := rfl
  have k5 : (⟨#[32, 97, 99, 116, 105, 118, 101, 32]⟩ : ByteArray).size = 8 := rfl
  have k6 : (⟨#[32, 103, 101, 110, 32]⟩ : ByteArray).size = 5 := rfl
  have k7 : (⟨#[32, 114, 101, 118]⟩ : ByteArray).size = 4 := rfl
  have k8 : (⟨#[32, 119, 97, 110, 116]⟩ : ByteArray).size = 5 := rfl
  have k9 : (⟨#[32, 114, 101, 97, 100, 121]⟩ : ByteArray).size = 6 := rfl
  have a0 := sadd E ⟨#[32, 117, 112]⟩ (by omega) (by omega)
  have a1 := sadd ⟨#[32, 116, 105, 99, 107, 32]⟩ N (by omega) (by omega)
  have a2 := sadd ((⟨#[32, 116, 105, 99, 107, 32]⟩ : ByteArray) ++ N) ⟨#[32, 114, 111, 117, 116, 101]⟩ (by simp only [ByteArray.size_append]; omega) (by omega)
  have a3 := sadd ((⟨#[32, 116, 105, 99, 107, 32]⟩ : ByteArray) ++ N ++ ⟨#[32, 114, 111, 117, 116, 101]⟩) T (by simp only [ByteArray.size_append]; omega) (by omega)
  have a4 := sadd (E ++ (⟨#[32, 117, 112]⟩ : ByteArray)) ((⟨#[32, 116, 105, 99, 107, 32]⟩ : ByteArray) ++ N ++ ⟨#[32, 114, 111, 117, 116, 101]⟩ ++ T) (by simp only [ByteArray.size_append]; omega) (by simp only [ByteArray.size_append]; omega)
  have q5 : (E ++ (⟨#[32, 117, 112]⟩ : ByteArray) ++ ((⟨#[32, 116, 105, 99, 107, 32]⟩ : ByteArray) ++ N ++ ⟨#[32, 114, 111, 117, 116, 101]⟩ ++ T)).size ≤ 100 := by simp only [ByteArray.size_append]; omega
  have b1 := sadd ⟨#[32]⟩ P (by omega) (by omega)
  have b2 := sadd ((⟨#[32]⟩ : ByteArray) ++ P) ⟨#[32, 97, 99, 116, 105, 118, 101, 32]⟩ (by simp only [ByteArray.size_append]; omega) (by omega)
  have b3 := sadd ((⟨#[32]⟩ : ByteArray) ++ P ++ ⟨#[32, 97, 99, 116, 105, 118, 101, 32]⟩) A (by simp only [ByteArray.size_append]; omega) (by omega)
  have b4 := sadd ((⟨#[32]⟩ : ByteArray) ++ P ++ ⟨#[32, 97, 99, 116, 105, 118, 101, 32]⟩ ++ A) ⟨#[32, 103, 101, 110, 32]⟩ (by simp only [ByteArray.size_append]; omega) (by omega)
  have b5 := sadd ((⟨#[32]⟩ : ByteArray) ++ P ++ ⟨#[32, 97, 99, 116, 105, 118, 101, 32]⟩ ++ A ++ ⟨#[32, 103, 101, 110, 32]⟩) G (by simp only [ByteArray.size_append]; omega) (by omega)
  have b6 := sadd ((⟨#[32]⟩ : ByteArray) ++ P ++ ⟨#[32, 97, 99, 116, 105, 118, 101, 32]⟩ ++ A ++ ⟨#[32, 103, 101, 110, 32]⟩ ++ G) ⟨#[32, 114, 101, 118]⟩ (by simp only [ByteArray.size_append]; omega) (by omega)
  have b7 := sadd ((⟨#[32]⟩ : ByteArray) ++ P ++ ⟨#[32, 97, 99, 116, 105, 118, 101, 32]⟩ ++ A ++ ⟨#[32, 103, 101, 110, 32]⟩ ++ G ++ ⟨#[32, 114, 101, 118]⟩) R (by simp only [ByteArray.size_append]; omega) (by omega)
  have qM : ((⟨#[32]⟩ : ByteArray) ++ P ++ ⟨#[32, 97, 99, 116, 105, 118, 101, 32]⟩ ++ A ++ ⟨#[32, 103, 101, 110, 32]⟩ ++ G ++ ⟨#[32, 114, 101, 118]⟩ ++ R).size ≤ 200 := by simp only [ByteArray.size_append]; omega
  have d1 := sadd ⟨#[32, 119, 97, 110, 116]⟩ V (by omega) (by omega)
  have d2 := sadd ((⟨#[32, 119, 97, 110, 116]⟩ : ByteArray) ++ V) ⟨#[32, 114, 101, 97, 100, 121]⟩ (by simp only [ByteArray.size_append]; omega) (by omega)
  have d3 := sadd ((⟨#[32, 119, 97, 110, 116]⟩ : ByteArray) ++ V ++ ⟨#[32, 114, 101, 97, 100, 121]⟩) D (by simp only [ByteArray.size_append]; omega) (by omega)
  have qE : ((⟨#[32, 119, 97, 110, 116]⟩ : ByteArray) ++ V ++ ⟨#[32, 114, 101, 97, 100, 121]⟩ ++ D).size ≤ 200 := by simp only [ByteArray.size_append]; omega
  have hS12 : ∀ (S M : ByteArray), S.size ≤ 100 → M.size ≤ 200 → (∀ W, (Op.stringOp .add S M).run Tryd.prog W = .ok (.string (S ++ M)) W) ∧ (S ++ M).size ≤ 300 := fun S M h1 h2 => ⟨sadd S M (by omega) (by omega), by rw [ByteArray.size_append]; omega⟩
  have hS23 : ∀ (S M : ByteArray), S.size ≤ 300 → M.size ≤ 200 → (∀ W, (Op.stringOp .add S M).run Tryd.prog W = .ok (.string (S ++ M)) W) ∧ (S ++ M).size ≤ 500 := fun S M h1 h2 => ⟨sadd S M (by omega) (by omega), by rw [ByteArray.size_append]; omega⟩
  clear k1 k2 k3 k4 k5 k6 k7 k8 k9 s1 s2 s3 s4 s5 s6 s7 s8 s9
  go_enter Tryd.func10, Tryd.ntmps10
  go_wp2_with fail
  refine (C1 _).mono ?_
  rintro e w1 ⟨rfl, hb1⟩
  have hR1 := hR.below hb1
  have hF1 := hF.below hb1
  clear hR hF hb1 hwb z0 C1
  generalize w.heap.size = BX at hR1 ⊢
  have c19 : w1.cell? ⟨BX, 19, none⟩ = some (.bool true) := by rw [← hu]; exact hR1.at_ 19 (.bool r.up) rfl
  have c20 := hR1.at_ 20 (.int .i64 r.tick) rfl
  have c13 := hR1.at_ 13 (.int .i64 r.slot) rfl
  have c14 := hR1.at_ 14 (.int .i64 r.cgen) rfl
  go_wp2_with fail
  have hRd := hR1.drew
  have hFd := hF1.drew
  go_region_held3 (fun w' => w'.cell? ⟨BX, 13, none⟩ = some (.int .i64 r.slot) ∧ w'.cell? ⟨BX, 14, none⟩ = some (.int .i64 r.cgen) ∧ w'.cell? ⟨BX, 20, none⟩ = some (.int .i64 r.tick))
    (first | exact ⟨c13, c14, c20⟩ | exact (RBox.head hR2).2 | exact (RBox.head hR3).2)
    (first
      | (go_at_call 19; with_reducible refine (C2 _).mono ?_; rintro e w2 ⟨rfl, hb2⟩; have hR2 := hRd.below hb2; have hF2 := hFd.below hb2)
      | (go_at_call 20; with_reducible refine (C3 _).mono ?_; rintro e w3 ⟨rfl, hb3⟩; have hR3 := hR2.below hb3; have hF3 := hF2.below hb3))
  clear c19 c20 c13 c14 hR1 hF1 hRd hFd hR2 hF2 hb2 hb3 a0 a1 a2 a3 a4 C2 C3
  generalize hS1 : E ++ (⟨#[32, 117, 112]⟩ : ByteArray) ++ ((⟨#[32, 116, 105, 99, 107, 32]⟩ : ByteArray) ++ N ++ ⟨#[32, 114, 111, 117, 116, 101]⟩ ++ T) = S1 at *
  have HS := Lib.hid hS1
  clear hS1
  obtain ⟨b8, q8⟩ := hS12 S1 _ q5 qM
  obtain ⟨d4, q9⟩ := hS23 _ _ q8 qE
  have d5 := sadd _ ⟨#[10]⟩ (Nat.le_trans q9 (by omega)) (by decide)
  clear hS12 hS23 q5 qM qE
  have y19 : w3.cell? ⟨BX, 19, none⟩ = some (.bool true) := by rw [← hu]; exact hR3.at_ 19 (.bool r.up) rfl
  have y1 := hR3.at_ 1 (.int .i64 r.phase) rfl
  have y2 := hR3.at_ 2 (.int .i64 r.active) rfl
  have y3 := hR3.at_ 3 (.int .i64 r.r0) rfl
  have y4 := hR3.at_ 4 (.int .i64 r.r1) rfl
  have y5 := hR3.at_ 5 (.int .i64 r.s0) rfl
  have y6 := hR3.at_ 6 (.int .i64 r.s1) rfl
  have y7 := hR3.at_ 7 (.bool r.p0) rfl
  have y8 := hR3.at_ 8 (.bool r.p1) rfl
  have y9 := hR3.at_ 9 (.int .i64 r.delay) rfl
  have y10 := hR3.at_ 10 (.int .i64 r.gen) rfl
  have y11 := hR3.at_ 11 (.int .i64 r.switch) rfl
  have y12 := hR3.at_ 12 (.int .i64 r.flip) rfl
  have y15 := hR3.at_ 15 (.int .i64 r.w0) rfl
  have y16 := hR3.at_ 16 (.int .i64 r.w1) rfl
  have y17 := hR3.at_ 17 (.int .i64 r.d0) rfl
  have y18 := hR3.at_ 18 (.int .i64 r.d1) rfl
  have ltB : BX < w3.heap.size := hR3.lt
  go_wp2
  have hS0 := (Box.new w3 r.state 26).alloc (.cells r.view 30)
  have hV0 := Box.new (w3.alloc (.cells r.state 26)) r.view 30
  have hF0 := (hF3.alloc (.cells r.state 26)).alloc (.cells r.view 30)
  have e1 : (w3.alloc (.cells r.state 26)).heap.size = w3.heap.size + 1 := by simp
  rw [e1] at hV0
  have hwd : ∃ wd, (w3.alloc (.cells r.state 26)).alloc (.cells r.view 30) = wd := ⟨_, rfl⟩
  obtain ⟨wd, hwd⟩ := hwd
  rw [hwd] at hS0 hV0 hF0
  unfold ReplyV.state ReplyV.view at hwd
  rw [hwd]
  clear hwd y1 y2 y3 y4 y5 y6 y7 y8 y9 y10 y11 y12 y15 y16 y17 y18 y19 ltB hR3 hF3 e1
  generalize w3.heap.size = BS at *
  have hSd := hS0.drew
  have hVd := hV0.drew
  have hFd := hF0.drew
  go_region_held3 (fun w' => w'.cell? ⟨BS, 0, none⟩ = some (.int .i64 r.phase) ∧ w'.cell? ⟨BS, 1, none⟩ = some (.int .i64 r.active) ∧ w'.cell? ⟨BS, 2, none⟩ = some (.int .i64 r.r0) ∧ w'.cell? ⟨BS, 3, none⟩ = some (.int .i64 r.r1) ∧ w'.cell? ⟨BS, 9, none⟩ = some (.int .i64 r.gen))
    (exact Box.tail5 (by repeat (with_reducible first | assumption | apply Box.drew | refine Box.below ?_ (by assumption))))
    (first
      | (go_at_call 12; with_reducible refine (C4 _).mono ?_; rintro e w4 ⟨rfl, hb4⟩)
      | (go_at_call 19; with_reducible refine (C5 _).mono ?_; rintro e w5 ⟨rfl, hb5⟩)
      | (go_at_call 19; with_reducible refine (C6 _).mono ?_; rintro e w6 ⟨rfl, hb6⟩)
      | (go_at_call 20; with_reducible refine (C7 _).mono ?_; rintro e w7 ⟨rfl, hb7⟩))
  have hV7 : Box w7 (BS + 1) r.view := (((hVd.below hb4).below hb5).below hb6).below hb7
  have hF7 : From w w7 := (((hFd.below hb4).below hb5).below hb6).below hb7
  clear hb4 hb5 hb6 hb7 hSd hVd hFd hS0 hV0 hF0 b1 b2 b3 b4 b5 b6 b7 b8 C4 C5 C6 C7
  go_wp2_with fail
  have hVd := hV7.drew
  have hFd := hF7.drew
  go_region_held3 (fun w' => w'.cell? ⟨BS + 1, 0, none⟩ = some (.int .i64 r.w0) ∧ w'.cell? ⟨BS + 1, 1, none⟩ = some (.int .i64 r.w1) ∧ w'.cell? ⟨BS + 1, 2, none⟩ = some (.int .i64 r.d0) ∧ w'.cell? ⟨BS + 1, 3, none⟩ = some (.int .i64 r.d1))
    (exact Box.view4 (by repeat (with_reducible first | assumption | apply Box.drew | refine Box.below ?_ (by assumption))))
    (first
      | (go_at_call 20; with_reducible refine (C8 _).mono ?_; rintro e w8 ⟨rfl, hb8⟩)
      | (go_at_call 20; with_reducible refine (C9 _).mono ?_; rintro e w9 ⟨rfl, hb9⟩))
  have hF9 : From w w9 := (hFd.below hb8).below hb9
  clear d1 d2 d3 d4 C8 C9
  go_wp2
  go_ret
  exact ⟨by rw [HS.out]; rfl, hF9⟩
end Go.Proofs.YtkcjcpcnfjffoaaDoor
