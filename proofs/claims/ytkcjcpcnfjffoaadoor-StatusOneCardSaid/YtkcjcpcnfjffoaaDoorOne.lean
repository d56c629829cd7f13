/- The walk of the law StatusOne. -/
import Derived.Test.YtkcjcpcnfjffoaaDoorLines
import Derived.Test.YtkcjcpcnfjffoaaDoorToks
import Derived.Lib.Hide
import Derived.ChangeKeysEq
namespace Go.Proofs.YtkcjcpcnfjffoaaDoor
open Go.RowKit
set_option linter.unusedVariables false
set_option linter.unusedSimpArgs false

/-- A world that holds the two replies, and the tables. -/
structure Two (w0 w : World) (a b : Nat) (r s : ReplyV) : Prop where
  one : RBox w a r
  two : RBox w b s
  tab : Tab w
  frm : From w0 w
theorem Two.below {w0 w w' : World} {a b : Nat} {r s : ReplyV} (h : Two w0 w a b r s) (k : Below w.heap.size w w') : Two w0 w' a b r s := ⟨h.one.below k, h.two.below k, h.tab.below k, h.frm.below k⟩
theorem Two.drew {w0 w : World} {a b : Nat} {r s : ReplyV} (h : Two w0 w a b r s) : Two w0 w.drew a b r s := ⟨h.one.drew, h.two.drew, h.tab.drew, h.frm.drew⟩

theorem not_imp2 {p q : Prop} (h : ¬(p → ¬ q)) : p ∧ q := ⟨Classical.byContradiction fun hp => h fun x => absurd x hp, Classical.byContradiction fun hq => h fun _ => hq⟩
theorem bytes_ne {S U : ByteArray} (h : ¬ S = U) : (S.toList == U.toList) = false := by
  rw [beq_eq_false_iff_ne]
  intro e
  rw [ByteArray.toList_eq, ByteArray.toList_eq] at e
  have e' := Array.toList_inj.1 e
  cases S; cases U
  exact h (congrArg ByteArray.mk e')
theorem eq23 (d : Nat) (a b c e : Int) (w : World) : (Op.equalIn (d + 2) 23 (.agg #[.int .i64 a, .int .i64 b]) (.agg #[.int .i64 c, .int .i64 e])).run Tryd.prog w = .ok (decide (a = c ∧ b = e)) w := by
  have hc : Tryd.prog.cellsOf 3 = 1 := by kernel_rfl
  have hi : ∃ i, Tryd.prog.info? 3 = some i := by
    cases h : Tryd.prog.info? 3 with
    | none => have := (show (Tryd.prog.info? 3).isSome = true by kernel_rfl); rw [h] at this; cases this
    | some i => exact ⟨i, rfl⟩
  obtain ⟨i, hi⟩ := hi
  rw [run_equalIn_array w (d + 1) _ _ Tryd.underlying23 hi, hc, show List.range 2 = [0, 1] from rfl]
  by_cases h1 : a = c <;> by_cases h2 : b = e <;> simp [Op.eqItems, go_sem, Tryd.underlying3, h1, h2]

set_option maxHeartbeats 8000000 in
theorem one_any (r s : ReplyV) (ok : r.Ok) (ok' : s.Ok) (w : World) (ht : Tab w) : Calls Tryd.prog 5 #[.agg r.cells, .agg s.cells] w fun e w' => e = .returned (.bool true) ∧ Below w.heap.size w w' := by
  have hR := (RBox.new w r).alloc (.cells s.cells 32)
  have hS := RBox.new (w.alloc (.cells r.cells 32)) s
  have hT := (ht.alloc (.cells r.cells 32)).alloc (.cells s.cells 32)
  have hF := ((From.refl w).alloc (.cells r.cells 32)).alloc (.cells s.cells 32)
  have hsz : (w.alloc (.cells r.cells 32)).heap.size = w.heap.size + 1 := by simp
  rw [hsz] at hS
  have hwb : ∃ wb, (w.alloc (.cells r.cells 32)).alloc (.cells s.cells 32) = wb := ⟨_, rfl⟩
  obtain ⟨wb, hwb⟩ := hwb
  rw [hwb] at hR hS hT hF
  have CL := fun W h => line_any r ok W h
  have CM := fun W h => line_any s ok' W h
  have hone := fun h1 h2 h3 h4 h5 h6 => line_one (a := r) (b := s) h1 h2 h3 h4 h5 h6
  generalize progLine r = S at *
  generalize progLine s = U at *
  unfold ReplyV.cells at hwb CL CM ⊢
  go_enter Tryd.func5, Tryd.ntmps5
  go_upto_region 1 with fail
  clear hwb
  try clear hsz
  generalize w.heap.size + 1 = BY at hS ⊢
  generalize w.heap.size = BX at hR ⊢
  have CL' : ∀ W, Tab W → Calls Tryd.prog 9 #[.agg r.cells.toList.toArray] W fun e w' => e = .returned (.string S) ∧ Below W.heap.size W w' := CL
  have CM' : ∀ W, Tab W → Calls Tryd.prog 9 #[.agg s.cells.toList.toArray] W fun e w' => e = .returned (.string U) ∧ Below W.heap.size W w' := CM
  clear CL CM
  go_wp2_with fail
  refine (awake_any _ hT).mono ?_
  rintro e w1 ⟨rfl, hb1⟩
  replace hT := hT.below hb1
  replace hF := hF.below hb1
  have hR1 := hR.below hb1
  have hS1 := hS.below hb1
  clear hR hS hb1
  have cr0 := hR1.at_ 0 (.int .i64 r.err) rfl
  have cr1 := hR1.at_ 1 (.int .i64 r.phase) rfl
  have cr2 := hR1.at_ 2 (.int .i64 r.active) rfl
  have cr3 := hR1.at_ 3 (.int .i64 r.r0) rfl
  have cr4 := hR1.at_ 4 (.int .i64 r.r1) rfl
  have cr10 := hR1.at_ 10 (.int .i64 r.gen) rfl
  have cr13 := hR1.at_ 13 (.int .i64 r.slot) rfl
  have cr14 := hR1.at_ 14 (.int .i64 r.cgen) rfl
  have cr15 := hR1.at_ 15 (.int .i64 r.w0) rfl
  have cr16 := hR1.at_ 16 (.int .i64 r.w1) rfl
  have cr17 := hR1.at_ 17 (.int .i64 r.d0) rfl
  have cr18 := hR1.at_ 18 (.int .i64 r.d1) rfl
  have cr19 := hR1.at_ 19 (.bool r.up) rfl
  have cr20 := hR1.at_ 20 (.int .i64 r.tick) rfl
  have cs0 := hS1.at_ 0 (.int .i64 s.err) rfl
  have cs1 := hS1.at_ 1 (.int .i64 s.phase) rfl
  have cs2 := hS1.at_ 2 (.int .i64 s.active) rfl
  have cs3 := hS1.at_ 3 (.int .i64 s.r0) rfl
  have cs4 := hS1.at_ 4 (.int .i64 s.r1) rfl
  have cs10 := hS1.at_ 10 (.int .i64 s.gen) rfl
  have cs13 := hS1.at_ 13 (.int .i64 s.slot) rfl
  have cs14 := hS1.at_ 14 (.int .i64 s.cgen) rfl
  have cs15 := hS1.at_ 15 (.int .i64 s.w0) rfl
  have cs16 := hS1.at_ 16 (.int .i64 s.w1) rfl
  have cs17 := hS1.at_ 17 (.int .i64 s.d0) rfl
  have cs18 := hS1.at_ 18 (.int .i64 s.d1) rfl
  have cs19 := hS1.at_ 19 (.bool s.up) rfl
  have cs20 := hS1.at_ 20 (.int .i64 s.tick) rfl
  have hE := fun a b c e w => eq23 9997 a b c e w
  have hE' := fun a b c e w => eq23 9998 a b c e w
  have ho := Lib.hid hone
  clear hone
  go_wp2_with fail
  all_goals first
    | (refine (awake_any _ hT).mono ?_
       rintro e w2 ⟨rfl, hb2⟩
       go_wp2
       go_ret
       exact ⟨rfl, hF.below hb2⟩)
    | skip
  all_goals (
    have hN0 : Two w w1 BX BY r s := ⟨hR1, hS1, hT, hF⟩
    clear hE hE' cr0 cr1 cr2 cr3 cr4 cr10 cr13 cr14 cr15 cr16 cr17 cr18 cr19 cr20 cs0 cs1 cs2 cs3 cs4 cs10 cs13 cs14 cs15 cs16 cs17 cs18 cs19 cs20
    refine wp_region_held_drew (S := fun w' => Two w w' BX BY r s) (by kernel_rfl) hN0.drew (fun hHeld => ?_)
    have hN := hN0.drew
    refine wpAnyH_take (i := 0) (oi := ⟨some 125, _, _, _, _, _⟩) (v := _) rfl (by kernel_rfl) (by kernel_rfl) (by kernel_rfl) (fun _ _ _ h => h) (yieldsIf_load_mid (by rfl) _ _ rfl _ _ rfl _ _ (fun w h => RBox.range h.one) Tryd.underlying32 rfl info32L) (by assumption) ?_
    try simp only [Act.put, List.setIfInBounds_toArray, List.set_cons_zero, List.set_cons_succ]
    refine wpAnyH_take (i := 2) (oi := ⟨some 127, _, _, _, _, _⟩) (v := _) rfl (by kernel_rfl) (by kernel_rfl) (by kernel_rfl) (fun _ _ _ h => h) (yieldsIf_load_mid (by rfl) _ _ rfl _ _ rfl _ _ (fun w h => RBox.range h.two) Tryd.underlying32 rfl info32L) (by assumption) ?_
    try simp only [Act.put, List.setIfInBounds_toArray, List.set_cons_zero, List.set_cons_succ]
    refine wpAnyH_take (i := 5) (oi := ⟨some 130, _, _, _, _, _⟩) (v := ?_) rfl (by kernel_rfl) (by kernel_rfl) (by kernel_rfl) (fun _ _ _ h => h) (Or.inl ⟨by rfl, ?_⟩) (by assumption) ?_
    rotate_left
    · intro w hSw
      go_simp
      try with_reducible rfl
    try simp only [Act.put, List.setIfInBounds_toArray, List.set_cons_zero, List.set_cons_succ]
    refine wpAnyH_ready (rs := [1]) (by kernel_rfl) (by simp) ?_
    refine AllReadyH.cons (o := ⟨some 126, _, _, _, _, _⟩) rfl (fun K hK => ?_) AllReadyH.nil
    go_simp
    go_at_call 9
    refine (CL' _ hN.tab).mono ?_
    rintro e wn1 ⟨rfl, hbn1⟩
    have hM := hN.below hbn1
    go_wp2_with fail
    refine hK.out _ _ hM (fun hHeld => ?_)
    clear hK K
    try simp only [Act.put, List.setIfInBounds_toArray, List.set_cons_zero, List.set_cons_succ]
    refine wpAnyH_ready (rs := [3]) (by kernel_rfl) (by simp) ?_
    refine AllReadyH.cons (o := ⟨some 128, _, _, _, _, _⟩) rfl (fun K hK => ?_) AllReadyH.nil
    go_simp
    go_at_call 9
    refine (CM' _ hM.tab).mono ?_
    rintro e wn2 ⟨rfl, hbn2⟩
    have hL := hM.below hbn2
    go_wp2_with fail
    refine hK.out _ _ hL (fun hHeld => ?_)
    clear hK K
    try simp only [Act.put, List.setIfInBounds_toArray, List.set_cons_zero, List.set_cons_succ]
    refine wpAnyH_take (i := 4) (oi := ⟨some 129, _, _, _, _, _⟩) (v := ?_) rfl (by kernel_rfl) (by kernel_rfl) (by kernel_rfl) (fun _ _ _ h => h) (Or.inl ⟨by rfl, ?_⟩) (by assumption) ?_
    rotate_left
    · intro w hSw
      go_simp
      try with_reducible rfl
    try simp only [Act.put, List.setIfInBounds_toArray, List.set_cons_zero, List.set_cons_succ]
    refine wpAnyH_take (i := 6) (oi := ⟨some 131, _, _, _, _, _⟩) (v := ?_) rfl (by kernel_rfl) (by kernel_rfl) (by kernel_rfl) (fun _ _ _ h => h) (Or.inl ⟨by rfl, ?_⟩) (by assumption) ?_
    rotate_left
    · intro w hSw
      go_simp
      try with_reducible rfl
    try simp only [Act.put, List.setIfInBounds_toArray, List.set_cons_zero, List.set_cons_succ]
    refine wpAnyH_take (i := 7) (oi := ⟨some 4, _, _, _, _, _⟩) (v := ?_) rfl (by kernel_rfl) (by kernel_rfl) (by kernel_rfl) (fun _ _ _ h => h) (Or.inl ⟨by rfl, ?_⟩) (by assumption) ?_
    rotate_left
    · intro w hSw
      go_simp
      try with_reducible rfl
    try simp only [Act.put, List.setIfInBounds_toArray, List.set_cons_zero, List.set_cons_succ]
    refine wpAnyH_done (by kernel_rfl) ?_ _
    go_wp2
    go_ret
    try have hw1 := not_imp2 ‹¬(r.w0 = s.w0 → ¬ r.w1 = s.w1)›
    try have hw2 := not_imp2 ‹¬(r.d0 = s.d0 → ¬ r.d1 = s.d1)›
    have hs := ho.out (by assumption) (by assumption) ⟨by omega, by omega⟩ ⟨by omega, by omega⟩ ⟨by omega, by omega⟩ ⟨by omega, by omega⟩
    refine ⟨?_, hL.frm⟩
    first
    | (have hne : ¬ S = U := fun e => by
         obtain ⟨q1, q2, q3, q4, q5, q6, q7, q8, q9, q10, q11, q12, q13⟩ := hs.1 e
         omega
       have hb : (S.toList == U.toList) = false := bytes_ne hne
       simp [hb]
       done)
    | (by_cases hf : r.r0 = s.r0 ∧ r.r1 = s.r1
       · have he : S = U := hs.2 ⟨by omega, by omega, by omega, by omega, by omega, by omega, by omega, by omega, by omega, by omega, by omega, by omega, by omega⟩
         simp [he, hf.1, hf.2]
       · have hne : ¬ S = U := fun e => by
           obtain ⟨q1, q2, q3, q4, q5, q6, q7, q8, q9, q10, q11, q12, q13⟩ := hs.1 e
           exact hf ⟨q12, q13⟩
         have hb : (S.toList == U.toList) = false := bytes_ne hne
         simp [hb]
         omega))
end Go.Proofs.YtkcjcpcnfjffoaaDoor
