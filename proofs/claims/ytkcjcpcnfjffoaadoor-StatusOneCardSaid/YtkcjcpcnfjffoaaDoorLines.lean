/- The walks of the laws StatusLines and StatusNames. -/
import Derived.Test.YtkcjcpcnfjffoaaDoorAwake
namespace Go.Proofs.YtkcjcpcnfjffoaaDoor
open Go.RowKit
set_option linter.unusedVariables false
set_option linter.unusedSimpArgs false

theorem RBox.range {w : World} {b : Nat} {r : ReplyV} (h : RBox w b r) : w.rangeAt b 0 r.cells.toList := by
  intro j v hj
  rw [Nat.zero_add]
  exact h.at_ j v (by rw [← hj]; simp)
theorem info32L {r : ReplyV} : (Tryd.prog.info? 32).map (·.size) = some r.cells.toList.length := info32

set_option maxHeartbeats 4000000 in
theorem lines_any (r : ReplyV) (ok : r.Ok) (w : World) (ht : Tab w) : Calls Tryd.prog 3 #[.agg r.cells] w fun e w' => e = .returned (.bool true) ∧ Below w.heap.size w w' := by
  have hR := RBox.new w r
  have hT := ht.alloc (.cells r.cells 32)
  have hF := (From.refl w).alloc (.cells r.cells 32)
  have hwb : ∃ wb, w.alloc (.cells r.cells 32) = wb := ⟨_, rfl⟩
  obtain ⟨wb, hwb⟩ := hwb
  rw [hwb] at hR hT hF
  have CL := fun W h => line_any r ok W h
  have CR := fun W => ref_any r ok W
  generalize progLine r = S at *
  unfold ReplyV.cells at hwb CL CR ⊢
  go_enter Tryd.func3, Tryd.ntmps3
  go_upto_region 1 with fail
  try rw [hwb]
  clear hwb
  generalize w.heap.size = BX at hR ⊢
  have hRd := hR.drew
  have hTd := hT.drew
  have hFd := hF.drew
  have CL' : ∀ W, Tab W → Calls Tryd.prog 9 #[.agg r.cells.toList.toArray] W fun e w' => e = .returned (.string S) ∧ Below W.heap.size W w' := CL
  have CR' : ∀ W, Calls Tryd.prog 10 #[.agg r.cells.toList.toArray] W fun e w' => e = .returned (.string S) ∧ Below W.heap.size W w' := CR
  clear CL CR
  refine wp_region_held_drew (S := fun w' => RBox w' BX r) (by kernel_rfl) hRd (fun hHeld => ?_)
  refine wpAnyH_ready (rs := [0]) (by kernel_rfl) (by simp) ?_
  refine AllReadyH.cons (o := ⟨some 3, _, _, _, _, _⟩) rfl (fun K hK => ?_) AllReadyH.nil
  go_simp
  go_at_call 8
  refine (awake_any _ hTd).mono ?_
  rintro e w1 ⟨rfl, hb1⟩
  go_wp2_with fail
  refine hK.out _ _ ?_ (fun hHeld => ?_)
  · exact hRd.below hb1
  clear hK K
  try simp only [Act.put, List.setIfInBounds_toArray, List.set_cons_zero, List.set_cons_succ]
  refine wpAnyH_take (i := 1) (oi := ⟨some 4, _, _, _, _, _⟩) (v := ?_) rfl (by kernel_rfl) (by kernel_rfl) (by kernel_rfl) (fun _ _ _ h => h) (Or.inl ⟨by rfl, ?_⟩) (by assumption) ?_
  rotate_left
  · intro w hSw
    go_simp
    try with_reducible rfl
  try simp only [Act.put, List.setIfInBounds_toArray, List.set_cons_zero, List.set_cons_succ]
  refine wpAnyH_take (i := 2) (oi := ⟨some 5, _, _, _, _, _⟩) (v := _) rfl (by kernel_rfl) (by kernel_rfl) (by kernel_rfl) (fun _ _ _ h => h) (yieldsIf_load_mid (by rfl) _ _ rfl _ _ rfl _ _ (fun w h => RBox.range h) Tryd.underlying32 rfl info32L) (by assumption) ?_
  try simp only [Act.put, List.setIfInBounds_toArray, List.set_cons_zero, List.set_cons_succ]
  refine wpAnyH_take (i := 4) (oi := ⟨some 7, _, _, _, _, _⟩) (v := _) rfl (by kernel_rfl) (by kernel_rfl) (by kernel_rfl) (fun _ _ _ h => h) (yieldsIf_load_mid (by rfl) _ _ rfl _ _ rfl _ _ (fun w h => RBox.range h) Tryd.underlying32 rfl info32L) (by assumption) ?_
  try simp only [Act.put, List.setIfInBounds_toArray, List.set_cons_zero, List.set_cons_succ]
  refine wpAnyH_ready (rs := [3]) (by kernel_rfl) (by simp) ?_
  refine AllReadyH.cons (o := ⟨some 6, _, _, _, _, _⟩) rfl (fun K hK => ?_) AllReadyH.nil
  go_simp
  go_at_call 9
  refine (CL' _ (hTd.below hb1)).mono ?_
  rintro e w2 ⟨rfl, hb2⟩
  go_wp2_with fail
  refine hK.out _ _ ?_ (fun hHeld => ?_)
  · exact (hRd.below hb1).below hb2
  clear hK K
  try simp only [Act.put, List.setIfInBounds_toArray, List.set_cons_zero, List.set_cons_succ]
  refine wpAnyH_ready (rs := [5]) (by kernel_rfl) (by simp) ?_
  refine AllReadyH.cons (o := ⟨some 8, _, _, _, _, _⟩) rfl (fun K hK => ?_) AllReadyH.nil
  go_simp
  go_at_call 10
  refine (CR' _).mono ?_
  rintro e w3 ⟨rfl, hb3⟩
  go_wp2_with fail
  refine hK.out _ _ ?_ (fun hHeld => ?_)
  · exact ((hRd.below hb1).below hb2).below hb3
  clear hK K
  try simp only [Act.put, List.setIfInBounds_toArray, List.set_cons_zero, List.set_cons_succ]
  refine wpAnyH_take (i := 6) (oi := ⟨some 9, _, _, _, _, _⟩) (v := ?_) rfl (by kernel_rfl) (by kernel_rfl) (by kernel_rfl) (fun _ _ _ h => h) (Or.inl ⟨by rfl, ?_⟩) (by assumption) ?_
  rotate_left
  · intro w hSw
    go_simp
    try with_reducible rfl
  try simp only [Act.put, List.setIfInBounds_toArray, List.set_cons_zero, List.set_cons_succ]
  refine wpAnyH_take (i := 7) (oi := ⟨some 10, _, _, _, _, _⟩) (v := ?_) rfl (by kernel_rfl) (by kernel_rfl) (by kernel_rfl) (fun _ _ _ h => h) (Or.inl ⟨by rfl, ?_⟩) (by assumption) ?_
  rotate_left
  · intro w hSw
    go_simp
    try with_reducible rfl
  try simp only [Act.put, List.setIfInBounds_toArray, List.set_cons_zero, List.set_cons_succ]
  refine wpAnyH_take (i := 8) (oi := ⟨some 2, _, _, _, _, _⟩) (v := ?_) rfl (by kernel_rfl) (by kernel_rfl) (by kernel_rfl) (fun _ _ _ h => h) (Or.inl ⟨by rfl, ?_⟩) (by assumption) ?_
  rotate_left
  · intro w hSw
    go_simp
    try with_reducible rfl
  try simp only [Act.put, List.setIfInBounds_toArray, List.set_cons_zero, List.set_cons_succ]
  refine wpAnyH_done (by kernel_rfl) ?_ _
  go_wp2
  go_ret
  exact ⟨by simp, ((hFd.below hb1).below hb2).below hb3⟩

set_option maxHeartbeats 4000000 in
theorem names_any (p c : Int) (w : World) (ht : Tab w) : Calls Tryd.prog 4 #[.int .i64 p, .int .i64 c] w fun e w' => e = .returned (.bool true) ∧ Below w.heap.size w w' := by
  have C1 := fun W => phase p W
  have C2 := fun W => phase_ref p W
  have C3 := fun W => error c W
  have C4 := fun W => error_ref c W
  generalize phaseName p = S at *
  generalize errName c = T at *
  go_enter Tryd.func4, Tryd.ntmps4
  go_wp2_with fail
  refine (awake_any _ ht).mono ?_
  rintro e w1 ⟨rfl, hb1⟩
  go_wp2_with fail
  refine (C1 _).mono ?_
  rintro e w2 ⟨rfl, hb2⟩
  go_wp2_with fail
  refine (C2 _).mono ?_
  rintro e w3 ⟨rfl, hb3⟩
  go_wp2_with fail
  refine (C3 _).mono ?_
  rintro e w4 ⟨rfl, hb4⟩
  go_wp2_with fail
  refine (C4 _).mono ?_
  rintro e w5 ⟨rfl, hb5⟩
  go_wp2
  go_ret
  exact ⟨by simp, (((((From.refl w).below hb1).below hb2).below hb3).below hb4).below hb5⟩
end Go.Proofs.YtkcjcpcnfjffoaaDoor
