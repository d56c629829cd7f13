/- The walks of the fuse: New, Arm, Spend, Blown, Reset, Count (program), Arm, Spend, Reset (reference). -/
import Derived.Test.YtbajhplblnemnaaRows
import Derived.Test.YtbajhplblnemnaaBase
import Derived.BigQuiet
import Derived.WalkSpells
namespace Go.Proofs.Ytbajhplblnemnaa
open Go.RowKit

/-- What a fuse holds. -/
structure FuseSt where
  left : Int
  blown : Bool
  count : Int

def FuseSt.cells (F : FuseSt) : Array Value := #[.int .i64 F.left, .bool F.blown, .int .i64 F.count]
def FuseIs (w : World) (b : Nat) (F : FuseSt) : Prop := Blk w b F.cells 59
def FuseSt.fresh : FuseSt := ⟨-1, false, 0⟩
def FuseSt.arm (F : FuseSt) (n : Int) : FuseSt := ⟨if n < 0 then 0 else n, false, F.count⟩
def FuseSt.bears (F : FuseSt) : Bool := !F.blown && !(F.left == 0)
def FuseSt.spend (F : FuseSt) : FuseSt := if F.bears = true then ⟨if 0 < F.left then F.left - 1 else F.left, F.blown, F.count + 1⟩ else ⟨F.left, true, F.count⟩
def FuseSt.reset (F : FuseSt) : FuseSt := ⟨-1, false, F.count⟩
/-- Its numbers are far from the ends. -/
structure FuseSt.Ok (F : FuseSt) : Prop where
  l0 : -1 ≤ F.left
  l1 : F.left ≤ 9223372036854775807
  c0 : 0 ≤ F.count
  c1 : F.count ≤ 1000000000

theorem fuse_new (w : World) : Calls Try.prog 8 #[] w fun e w' => e = .returned (.pointer (some ⟨w.heap.size, 0, none⟩)) ∧ w' = w.alloc (.cells FuseSt.fresh.cells 59) := by
  go_enter Try.func8, Try.ntmps8
  go_wp2
  go_ret
  exact ⟨rfl, rfl⟩

theorem max0 (n : Int) : (if (0 : Int) < n then n else 0) = if n < 0 then 0 else n := by split <;> split <;> omega

theorem fuse_arm_walk (b : Nat) (F : FuseSt) (n : Int) (w : World) (h : FuseIs w b F) : Calls Try.prog 17 #[.pointer (some ⟨b, 0, none⟩), .int .i64 n] w fun e w' =>
    e = .returned (.tuple #[]) ∧ w' = (w.setCell ⟨b, 0, none⟩ (.int .i64 (if n < 0 then 0 else n))).setCell ⟨b, 1, none⟩ (.bool false) := by
  have c0 := h.cell 0
  have c1 := h.cell 1
  have f0 := h.frozen ⟨b, 0, none⟩ rfl
  have f1 := h.frozen ⟨b, 1, none⟩ rfl
  simp [FuseSt.cells] at c0 c1
  go_enter Try.func17, Try.ntmps17
  go_wp2
  all_goals (go_end0; exact ⟨rfl, rfl⟩)

/-- What became of a fuse: what it holds now; nothing else has turned. -/
def FuseTo (w : World) (b : Nat) (F : FuseSt) (w' : World) : Prop := FuseIs w' b F ∧ Kept (fun k => k = b) w w'

theorem fuse_arm (b : Nat) (F : FuseSt) (n : Int) (w : World) (h : FuseIs w b F) : Calls Try.prog 17 #[.pointer (some ⟨b, 0, none⟩), .int .i64 n] w fun e w' =>
    e = .returned (.tuple #[]) ∧ FuseTo w b (F.arm n) w' := by
  refine (fuse_arm_walk b F n w h).mono fun e w' ⟨he, hw⟩ => ⟨he, ?_⟩
  subst hw
  exact ⟨(h.set 0 _).set 1 _, Kept.two _ _ _ _ _ _⟩

theorem fuse_reset (b : Nat) (F : FuseSt) (w : World) (h : FuseIs w b F) : Calls Try.prog 32 #[.pointer (some ⟨b, 0, none⟩)] w fun e w' =>
    e = .returned (.tuple #[]) ∧ FuseTo w b F.reset w' := by
  have hw : FuseTo w b F.reset ((w.setCell ⟨b, 0, none⟩ (.int .i64 (-1))).setCell ⟨b, 1, none⟩ (.bool false)) :=
    ⟨(h.set 0 _).set 1 _, Kept.two _ _ _ _ _ _⟩
  have c0 := h.cell 0
  have c1 := h.cell 1
  have f0 := h.frozen ⟨b, 0, none⟩ rfl
  have f1 := h.frozen ⟨b, 1, none⟩ rfl
  simp [FuseSt.cells] at c0 c1
  go_enter Try.func32, Try.ntmps32
  go_wp2
  go_end0
  exact ⟨rfl, hw⟩

theorem fuse_blown (b : Nat) (F : FuseSt) (w : World) (h : FuseIs w b F) : Calls Try.prog 18 #[.pointer (some ⟨b, 0, none⟩)] w fun e w' =>
    e = .returned (.bool F.blown) ∧ w = w' := by
  have c1 := h.cell 1
  simp [FuseSt.cells] at c1
  go_enter Try.func18, Try.ntmps18
  go_wp2
  go_ret
  exact ⟨rfl, rfl⟩

theorem fuse_count (b : Nat) (F : FuseSt) (w : World) (h : FuseIs w b F) : Calls Try.prog 26 #[.pointer (some ⟨b, 0, none⟩)] w fun e w' =>
    e = .returned (.int .i64 F.count) ∧ w = w' := by
  have c1 := h.cell 2
  simp [FuseSt.cells] at c1
  go_enter Try.func26, Try.ntmps26
  go_wp2
  go_ret
  exact ⟨rfl, rfl⟩

/-- It bears the call: armed or not. -/
theorem fuse_spend_yes (b : Nat) (F : FuseSt) (w : World) (h : FuseIs w b F) (ok : F.Ok) (hb : F.bears = true) : Calls Try.prog 30 #[.pointer (some ⟨b, 0, none⟩)] w fun e w' =>
    e = .returned (.bool true) ∧ FuseTo w b F.spend w' := by
  obtain ⟨l, bl, c⟩ := F
  obtain ⟨l0, l1, k0, k1⟩ := ok
  simp only at l0 l1 k0 k1
  simp only [FuseSt.bears, Bool.and_eq_true, Bool.not_eq_true', beq_eq_false_iff_ne] at hb
  obtain ⟨rfl, hl⟩ := hb
  have hl' : (l == 0) = false := by simpa using hl
  by_cases hp : 0 < l
  · have hw : FuseTo w b (FuseSt.spend ⟨l, false, c⟩) ((w.setCell ⟨b, 0, none⟩ (.int .i64 (l - 1))).setCell ⟨b, 2, none⟩ (.int .i64 (c + 1))) := by
      refine ⟨?_, Kept.two _ _ _ _ _ _⟩
      have := (h.set 0 (.int .i64 (l - 1))).set 2 (.int .i64 (c + 1))
      simpa [FuseIs, FuseSt.spend, FuseSt.bears, FuseSt.cells, hl, hp] using this
    have c0 := h.cell 0
    have c1 := h.cell 1
    have c2 := h.cell 2
    have f0 := h.frozen ⟨b, 0, none⟩ rfl
    have f2 := h.frozen ⟨b, 2, none⟩ rfl
    simp [FuseSt.cells] at c0 c1 c2
    go_enter Try.func30, Try.ntmps30
    go_wp2
    go_ret
    exact ⟨rfl, hw⟩
  · have hw : FuseTo w b (FuseSt.spend ⟨l, false, c⟩) (w.setCell ⟨b, 2, none⟩ (.int .i64 (c + 1))) := by
      refine ⟨?_, Kept.one _ _ _ _⟩
      have := h.set 2 (.int .i64 (c + 1))
      simpa [FuseIs, FuseSt.spend, FuseSt.bears, FuseSt.cells, hl, hp] using this
    have c0 := h.cell 0
    have c1 := h.cell 1
    have c2 := h.cell 2
    have f2 := h.frozen ⟨b, 2, none⟩ rfl
    simp [FuseSt.cells] at c0 c1 c2
    go_enter Try.func30, Try.ntmps30
    go_wp2
    go_ret
    exact ⟨rfl, hw⟩

/-- It does not bear it. -/
theorem fuse_spend_no (b : Nat) (F : FuseSt) (w : World) (h : FuseIs w b F) (hb : F.bears = false) : Calls Try.prog 30 #[.pointer (some ⟨b, 0, none⟩)] w fun e w' =>
    e = .returned (.bool false) ∧ FuseTo w b F.spend w' := by
  obtain ⟨l, bl, c⟩ := F
  have hw : FuseTo w b (FuseSt.spend ⟨l, bl, c⟩) (w.setCell ⟨b, 1, none⟩ (.bool true)) := by
    refine ⟨?_, Kept.one _ _ _ _⟩
    have := h.set 1 (.bool true)
    rw [FuseIs, FuseSt.spend, if_neg (by rw [hb]; simp)]
    simpa [FuseSt.cells] using this
  have c0 := h.cell 0
  have c1 := h.cell 1
  have f1 := h.frozen ⟨b, 1, none⟩ rfl
  simp [FuseSt.cells] at c0 c1
  simp only [FuseSt.bears, Bool.and_eq_false_iff, Bool.not_eq_false', beq_iff_eq] at hb
  cases bl with
  | true =>
    go_enter Try.func30, Try.ntmps30
    go_wp2
    go_ret
    exact ⟨rfl, hw⟩
  | false =>
    obtain rfl : l = 0 := by rcases hb with h | h
                             · cases h
                             · exact h
    go_enter Try.func30, Try.ntmps30
    go_wp2
    go_ret
    exact ⟨rfl, hw⟩
end Go.Proofs.Ytbajhplblnemnaa
