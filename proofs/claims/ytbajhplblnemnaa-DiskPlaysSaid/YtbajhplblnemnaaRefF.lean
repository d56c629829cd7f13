/- The walks of the reference's fuse, clamp and Set. -/
import Derived.Test.YtbajhplblnemnaaFuses
import Derived.Laws.AppendOwnNone
namespace Go.Proofs.Ytbajhplblnemnaa
open Go.RowKit
set_option linter.unusedVariables false

/-- What the reference's fuse holds. -/
structure RFuse where
  armed : Bool
  left : Int
  blown : Bool
  count : Int

def RFuse.cells (F : RFuse) : Array Value := #[.bool F.armed, .int .i64 F.left, .bool F.blown, .int .i64 F.count]
def RFuseIs (w : World) (b : Nat) (F : RFuse) : Prop := Blk w b F.cells 47
def RFuse.fresh : RFuse := ⟨false, 0, false, 0⟩
def RFuse.arm (F : RFuse) (n : Int) : RFuse := ⟨true, if n < 0 then 0 else n, false, F.count⟩
def RFuse.blowsNow (F : RFuse) : Bool := F.blown || (F.armed && F.left == 0)
def RFuse.spend (F : RFuse) : RFuse := if F.blowsNow = true then { F with blown := true } else { F with left := if F.armed = true then F.left - 1 else F.left, count := F.count + 1 }
def RFuse.reset (F : RFuse) : RFuse := ⟨false, F.left, false, F.count⟩
structure RFuse.Ok (F : RFuse) : Prop where
  l0 : F.armed = true → 0 ≤ F.left
  l1 : F.left ≤ 9223372036854775807
  c0 : 0 ≤ F.count
  c1 : F.count ≤ 1000000000

def RFuseTo (w : World) (b : Nat) (F : RFuse) (w' : World) : Prop := RFuseIs w' b F ∧ Kept (fun k => k = b) w w'

theorem rfuse_arm (b : Nat) (F : RFuse) (n : Int) (w : World) (h : RFuseIs w b F) : Calls Try.prog 25 #[.pointer (some ⟨b, 0, none⟩), .int .i64 n] w fun e w' =>
    e = .returned (.tuple #[]) ∧ RFuseTo w b (F.arm n) w' := by
  have c0 := h.cell 0
  have c1 := h.cell 1
  have c2 := h.cell 2
  have f0 := h.frozen ⟨b, 0, none⟩ rfl
  have f1 := h.frozen ⟨b, 1, none⟩ rfl
  have f2 := h.frozen ⟨b, 2, none⟩ rfl
  simp [RFuse.cells] at c0 c1 c2
  by_cases hn : n < 0
  · have hw : RFuseTo w b (F.arm n) (((w.setCell ⟨b, 0, none⟩ (.bool true)).setCell ⟨b, 1, none⟩ (.int .i64 0)).setCell ⟨b, 2, none⟩ (.bool false)) := by
      refine ⟨?_, (Kept.two w b 0 1 _ _).trans (Kept.one _ b 2 _)⟩
      have := ((h.set 0 (.bool true)).set 1 (.int .i64 0)).set 2 (.bool false)
      simpa [RFuseIs, RFuse.arm, RFuse.cells, hn] using this
    go_enter Try.func25, Try.ntmps25
    go_wp2
    go_end0
    exact ⟨rfl, hw⟩
  · have hw : RFuseTo w b (F.arm n) (((w.setCell ⟨b, 0, none⟩ (.bool true)).setCell ⟨b, 1, none⟩ (.int .i64 n)).setCell ⟨b, 2, none⟩ (.bool false)) := by
      refine ⟨?_, (Kept.two w b 0 1 _ _).trans (Kept.one _ b 2 _)⟩
      have := ((h.set 0 (.bool true)).set 1 (.int .i64 n)).set 2 (.bool false)
      simpa [RFuseIs, RFuse.arm, RFuse.cells, hn] using this
    go_enter Try.func25, Try.ntmps25
    go_wp2
    go_end0
    exact ⟨rfl, hw⟩

theorem rfuse_reset (b : Nat) (F : RFuse) (w : World) (h : RFuseIs w b F) : Calls Try.prog 36 #[.pointer (some ⟨b, 0, none⟩)] w fun e w' =>
    e = .returned (.tuple #[]) ∧ RFuseTo w b F.reset w' := by
  have hw : RFuseTo w b F.reset ((w.setCell ⟨b, 0, none⟩ (.bool false)).setCell ⟨b, 2, none⟩ (.bool false)) :=
    ⟨(h.set 0 _).set 2 _, Kept.two _ _ _ _ _ _⟩
  have c0 := h.cell 0
  have c2 := h.cell 2
  have f0 := h.frozen ⟨b, 0, none⟩ rfl
  have f2 := h.frozen ⟨b, 2, none⟩ rfl
  simp [RFuse.cells] at c0 c2
  go_enter Try.func36, Try.ntmps36
  go_wp2
  go_end0
  exact ⟨rfl, hw⟩

theorem rfuse_spend (b : Nat) (F : RFuse) (w : World) (h : RFuseIs w b F) (ok : F.Ok) : Calls Try.prog 34 #[.pointer (some ⟨b, 0, none⟩)] w fun e w' =>
    e = .returned (.bool (!F.blowsNow)) ∧ RFuseTo w b F.spend w' := by
  obtain ⟨ar, l, bl, c⟩ := F
  obtain ⟨l0, l1, k0, k1⟩ := ok
  simp only at l0 l1 k0 k1
  have c0 := h.cell 0
  have c1 := h.cell 1
  have c2 := h.cell 2
  have c3 := h.cell 3
  have f1 := h.frozen ⟨b, 1, none⟩ rfl
  have f2 := h.frozen ⟨b, 2, none⟩ rfl
  have f3 := h.frozen ⟨b, 3, none⟩ rfl
  simp [RFuse.cells] at c0 c1 c2 c3
  cases ar with
  | false =>
    cases bl with
    | true =>
      have hw : RFuseTo w b (RFuse.spend ⟨false, l, true, c⟩) w := ⟨by simpa [RFuse.spend, RFuse.blowsNow] using h, Kept.refl _ _⟩
      rw [show (!RFuse.blowsNow ⟨false, l, true, c⟩) = false from by simp [RFuse.blowsNow]]
      go_enter Try.func34, Try.ntmps34
      go_wp2
      go_ret
      exact ⟨rfl, hw⟩
    | false =>
      have hw : RFuseTo w b (RFuse.spend ⟨false, l, false, c⟩) (w.setCell ⟨b, 3, none⟩ (.int .i64 (c + 1))) := by
        refine ⟨?_, Kept.one _ _ _ _⟩
        have := h.set 3 (.int .i64 (c + 1))
        simpa [RFuseIs, RFuse.spend, RFuse.blowsNow, RFuse.cells] using this
      rw [show (!RFuse.blowsNow ⟨false, l, false, c⟩) = true from by simp [RFuse.blowsNow]]
      go_enter Try.func34, Try.ntmps34
      go_wp2
      go_ret
      exact ⟨rfl, hw⟩
  | true =>
    have hl := l0 rfl
    by_cases h0 : l = 0
    · subst h0
      have hw : RFuseTo w b (RFuse.spend ⟨true, 0, bl, c⟩) (w.setCell ⟨b, 2, none⟩ (.bool true)) := by
        refine ⟨?_, Kept.one _ _ _ _⟩
        have := h.set 2 (.bool true)
        simpa [RFuseIs, RFuse.spend, RFuse.blowsNow, RFuse.cells] using this
      rw [show (!RFuse.blowsNow ⟨true, 0, bl, c⟩) = false from by simp [RFuse.blowsNow]]
      go_enter Try.func34, Try.ntmps34
      go_wp2
      go_ret
      exact ⟨rfl, hw⟩
    · have hl' : (l == 0) = false := by simpa using h0
      cases bl with
      | true =>
        have hw : RFuseTo w b (RFuse.spend ⟨true, l, true, c⟩) w := ⟨by simpa [RFuse.spend, RFuse.blowsNow] using h, Kept.refl _ _⟩
        rw [show (!RFuse.blowsNow ⟨true, l, true, c⟩) = false from by simp [RFuse.blowsNow]]
        go_enter Try.func34, Try.ntmps34
        go_wp2
        go_ret
        exact ⟨rfl, hw⟩
      | false =>
        have hw : RFuseTo w b (RFuse.spend ⟨true, l, false, c⟩) ((w.setCell ⟨b, 1, none⟩ (.int .i64 (l - 1))).setCell ⟨b, 3, none⟩ (.int .i64 (c + 1))) := by
          refine ⟨?_, Kept.two _ _ _ _ _ _⟩
          have := (h.set 1 (.int .i64 (l - 1))).set 3 (.int .i64 (c + 1))
          simpa [RFuseIs, RFuse.spend, RFuse.blowsNow, RFuse.cells, hl'] using this
        rw [show (!RFuse.blowsNow ⟨true, l, false, c⟩) = true from by simp [RFuse.blowsNow, hl']]
        go_enter Try.func34, Try.ntmps34
        go_wp2
        go_ret
        exact ⟨rfl, hw⟩

theorem clamp_any (n low high : Int) (w : World) (hlh : low ≤ high) : Calls Try.prog 33 #[.int .i64 n, .int .i64 low, .int .i64 high] w fun e w' => e = .returned (.int .i64 (min (max n low) high)) ∧ w = w' := by
  by_cases h0 : n < low
  · rw [show min (max n low) high = low from by omega]
    go_enter Try.func33, Try.ntmps33
    go_wp2
    go_ret
    exact ⟨rfl, rfl⟩
  · by_cases h1 : high < n
    · rw [show min (max n low) high = high from by omega]
      go_enter Try.func33, Try.ntmps33
      go_wp2
      go_ret
      exact ⟨rfl, rfl⟩
    · rw [show min (max n low) high = n from by omega]
      go_enter Try.func33, Try.ntmps33
      go_wp2
      go_ret
      exact ⟨rfl, rfl⟩
end Go.Proofs.Ytbajhplblnemnaa
