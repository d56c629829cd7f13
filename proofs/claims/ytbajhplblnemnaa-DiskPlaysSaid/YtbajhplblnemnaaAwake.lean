/- The walk of the law's own 'awake': it answers true. -/
import Derived.Test.YtbajhplblnemnaaOne
namespace Go.Proofs.Ytbajhplblnemnaa
open Go.RowKit
set_option linter.unusedVariables false

def awD0 : DiskSt := DiskSt.fresh 128 4 FuseSt.fresh
def awD1 : DiskSt := awD0.wrote 0 (rep 97 128)
def awD2 : DiskSt := awD1.wrote 1 (rep 98 128)
def awD3 : DiskSt := awD2.crashed 2 3
theorem aw_w0 : awD0.writes 0 (rep 97 128) = 0 := by decide +kernel
theorem aw_w1 : awD1.writes 1 (rep 98 128) = 0 := by decide +kernel
theorem aw_n2 : awD2.opn.length = 2 := by decide +kernel
theorem aw_r0 : awD3.reads 0 = (rep 0 128, 0) := by decide +kernel
theorem aw_r1 : awD3.reads 1 = (⟨#[98, 98, 98]⟩ ++ rep 0 125, 0) := by decide +kernel
theorem aw_r4 : awD3.reads 4 = (ByteArray.empty, 1) := by decide +kernel
theorem aw_n3 : awD3.opn.length = 0 := by decide +kernel
theorem aw_l3 : awD3.secs.length = 4 := by decide +kernel
theorem aw_s3 : awD3.size = 128 := by decide +kernel
theorem aw_c0 : awD0.fuse.count < 1000000000 ∧ awD0.opn.length < 1000000 := by decide +kernel
theorem aw_c1 : awD1.fuse.count < 1000000000 ∧ awD1.opn.length < 1000000 := by decide +kernel

set_option maxHeartbeats 1000000 in
theorem awake_any (w0 : World) : Calls Try.prog 9 #[] w0 fun e w' => e = .returned (.bool true) ∧ Below w0.heap.size w0 w' := by
  go_enter Try.func9, Try.ntmps9
  go_wp2_with fail
  refine (fuse_new' _).mono ?_
  rintro e w1 ⟨rfl, hf, hb1⟩
  go_wp2_with fail
  refine (one_new w0 w1 128 4 w0.heap.size FuseSt.fresh hf fresh_ok (Nat.le_refl _) hb1).mono ?_
  rintro e w2 ⟨rfl, h2⟩
  have h2' : One w0 w2 _ awD0 := h2
  clear h2
  go_wp2_with fail
  refine (repeat_byte 97 128 _ (by omega) (by omega)).mono ?_
  rintro e w3 ⟨rfl, hb3⟩
  have h3 := h2'.more hb3
  go_wp2_with fail
  refine (repeat_byte 98 128 _ (by omega) (by omega)).mono ?_
  rintro e w4 ⟨rfl, hb4⟩
  have h4 := h3.more hb4
  have C0 := one_write h4 0 (rep 97 128) aw_c0.1 aw_c0.2
  rw [aw_w0] at C0
  go_wp2_with fail
  refine C0.mono ?_
  rintro e w5 ⟨rfl, ov5, h5⟩
  have C1 := one_write (D := awD1) h5 1 (rep 98 128) aw_c1.1 aw_c1.2
  rw [aw_w1] at C1
  clear C0
  go_wp2_with fail
  refine C1.mono ?_
  rintro e w6 ⟨rfl, ov6, h6⟩
  have C2 : Calls Try.prog 16 #[.pointer (some ⟨w1.heap.size, 0, none⟩)] w6 fun e w' => e = .returned (.int .i64 2) ∧ w6 = w' := by
    have := disk_open _ _ awD2 _ h6.disk
    rw [aw_n2] at this
    exact this
  clear C1
  go_wp2_with fail
  refine C2.mono ?_
  rintro e w7 ⟨rfl, rfl⟩
  clear C2
  have C3 := one_crash (D := awD2) h6 2 3 (by omega) (by omega)
  go_wp2_with fail
  refine C3.mono ?_
  rintro e w8 ⟨rfl, ov8, h8⟩
  clear C3
  have C4 := one_read (D := awD3) h8 0
  rw [aw_r0] at C4
  go_wp2_with fail
  refine C4.mono ?_
  rintro e w9 ⟨rfl, rfl⟩
  clear C4
  have C5 := one_read (D := awD3) h8 1
  rw [aw_r1] at C5
  go_wp2_with fail
  refine C5.mono ?_
  rintro e w9 ⟨rfl, rfl⟩
  clear C5
  have C6 := one_read (D := awD3) h8 4
  rw [aw_r4] at C6
  go_wp2_with fail
  refine C6.mono ?_
  rintro e w9 ⟨rfl, rfl⟩
  clear C6
  go_wp2_with fail
  refine (repeat_byte 0 128 _ (by omega) (by omega)).mono ?_
  rintro e w9 ⟨rfl, hb9⟩
  have h9 := h8.more hb9
  go_wp2_with fail
  refine (repeat_byte 0 125 _ (by omega) (by omega)).mono ?_
  rintro e w10 ⟨rfl, hb10⟩
  have h10 := h9.more hb10
  have C7 : Calls Try.prog 16 #[.pointer (some ⟨w1.heap.size, 0, none⟩)] w10 fun e w' => e = .returned (.int .i64 0) ∧ w10 = w' := by
    have := disk_open _ _ awD3 _ h10.disk
    rw [aw_n3] at this
    exact this
  have C8 : Calls Try.prog 21 #[.pointer (some ⟨w1.heap.size, 0, none⟩)] w10 fun e w' => e = .returned (.int .i64 4) ∧ w10 = w' := by
    have := disk_len _ _ awD3 _ h10.disk
    rw [aw_l3] at this
    exact this
  have C9 : Calls Try.prog 20 #[.pointer (some ⟨w1.heap.size, 0, none⟩)] w10 fun e w' => e = .returned (.int .i64 128) ∧ w10 = w' := by
    have := disk_size _ _ awD3 _ h10.disk
    rw [aw_s3] at this
    exact this
  have hs125 := rep_size 0 125
  go_wp2_with fail
  refine C7.mono ?_
  rintro e w11 ⟨rfl, rfl⟩
  go_wp2_with fail
  refine C8.mono ?_
  rintro e w11 ⟨rfl, rfl⟩
  go_wp2_with fail
  refine C9.mono ?_
  rintro e w11 ⟨rfl, rfl⟩
  go_wp2_with fail
  go_ret
  exact ⟨rfl, h10.below⟩
end Go.Proofs.Ytbajhplblnemnaa
