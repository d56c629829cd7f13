/- The walk of the law DiskTorn. -/
import Derived.Test.YtbajhplblnemnaaAwake
namespace Go.Proofs.Ytbajhplblnemnaa
open Go.RowKit
set_option linter.unusedVariables false

theorem fits_mk {D : DiskSt} {i : Nat} {b : ByteArray} (hi : i < D.secs.length) (hb : b.size = D.size) : D.fits (i : Int) b = true := by
  simp [DiskSt.fits, DiskSt.isB, hb, hi]
theorem writes_ok {D : DiskSt} {i : Nat} {b : ByteArray} (hi : i < D.secs.length) (hb : b.size = D.size) (hf : D.fuse.bears = true) : D.writes (i : Int) b = 0 := by
  simp [DiskSt.writes, fits_mk hi hb, hf]
theorem wrote_ok {D : DiskSt} {i : Nat} {b : ByteArray} (hi : i < D.secs.length) (hb : b.size = D.size) (hf : D.fuse.bears = true) : D.wrote (i : Int) b = { D with opn := D.opn ++ [(i, b)], fuse := D.fuse.spend } := by
  simp [DiskSt.wrote, fits_mk hi hb, hf]
theorem flushed_ok {D : DiskSt} (hf : D.fuse.bears = true) : D.flushed = ⟨D.size, lay D.secs D.opn, [], D.fuse.spend⟩ ∧ D.flushes = 0 := by
  simp [DiskSt.flushed, DiskSt.flushes, hf]

/-- A fuse that isn't armed, with so many calls borne. -/
def idle (n : Nat) : FuseSt := ⟨-1, false, n⟩
theorem idle_bears (n : Nat) : (idle n).bears = true := by simp [idle, FuseSt.bears]
theorem idle_spend (n : Nat) : (idle n).spend = idle (n + 1) := by simp [FuseSt.spend, idle_bears]; simp [idle]
theorem fresh_idle : FuseSt.fresh = idle 0 := rfl
theorem reset_idle (n : Nat) : (idle n).reset = idle n := rfl

theorem rep_extract (x : UInt8) (n a b : Nat) (hb : b ≤ n) : (rep x n).extract a b = rep x (b - a) := by
  apply ByteArray.ext
  simp only [ByteArray.data_extract, rep]
  apply Array.toList_inj.1
  simp
  omega
theorem tear_rep (x y : UInt8) (n c : Nat) (hc : c ≤ n) : tear (rep x n) (rep y n) c = rep x c ++ rep y (n - c) := by
  unfold tear
  rw [rep_size, rep_extract _ _ _ _ hc, rep_extract _ _ _ _ (Nat.le_refl _)]
  rfl

def secs0 (n : Nat) : List ByteArray := List.replicate n (rep 0 128)
theorem fresh_128 (n : Nat) (hn : 4 ≤ n) (hn2 : n ≤ 1024) (F : FuseSt) : DiskSt.fresh 128 n F = ⟨128, secs0 n, [], F⟩ := by
  have : numOfN (n : Int) = n := by unfold numOfN; omega
  have h2 : sizeOfN 128 = 128 := by decide
  simp [DiskSt.fresh, this, secs0, h2]

def tornD4 (a b : UInt8) (c : Nat) : DiskSt := ⟨128, ((secs0 4).set 2 (rep a 128)).set 2 (rep b c ++ rep a (128 - c)), [], idle 3⟩
theorem torn_crash (a b : UInt8) (torn : Int) : DiskSt.crashed ⟨128, (secs0 4).set 2 (rep a 128), [(2, rep b 128)], idle 3⟩ 1 torn = tornD4 a b (cutOf torn 128) := by
  have hk : keptTo 1 [(2, rep b 128)] 1 = [(2, rep b 128)] := by
    have : bitOn 1 0 = true := by decide +kernel
    simp [keptTo, this]
  simp only [DiskSt.crashed, List.length_singleton, hk, crashSecs, List.getLast?_singleton, List.dropLast_singleton]
  rw [show lay ((secs0 4).set 2 (rep a 128)) [] = (secs0 4).set 2 (rep a 128) from rfl]
  rw [show ((secs0 4).set 2 (rep a 128)).getD 2 ByteArray.empty = rep a 128 from rfl, tear_rep _ _ _ _ (cutOf_le _ _)]
  rfl
theorem torn_read (a b : UInt8) (c : Nat) : (tornD4 a b c).reads 2 = (rep b c ++ rep a (128 - c), 0) := rfl

theorem fillLen_nat (c : Nat) (h : c ≤ 2000) : fillLen (c : Int) = c := by unfold fillLen; omega
theorem fill_at (x : UInt8) (n : Int) (c : Nat) (hc : fillLen n = c) (w : World) :
    Calls Try.prog 12 #[.int .u8 (x.toNat : Int), .int .i64 n] w fun e w' => e = .returned (.string (rep x c)) ∧ Below w.heap.size w w' := by
  subst hc
  exact fill_any x n w
theorem fill128 (x : UInt8) (w : World) : Calls Try.prog 12 #[.int .u8 (x.toNat : Int), .int .i64 128] w fun e w' => e = .returned (.string (rep x 128)) ∧ Below w.heap.size w w' :=
  fill_at x 128 128 (by decide) w

theorem one_wrote {w0 w : World} {L : Lay} {D : DiskSt} (h : One w0 w L D) (i : Nat) (b : ByteArray) (hi : i < D.secs.length) (hb : b.size = D.size) (hf : D.fuse.bears = true) (hc : D.fuse.count < 1000000000) (hn : D.opn.length < 1000000) :
    Calls Try.prog 11 #[.pointer (some ⟨L.bd, 0, none⟩), .int .i64 (i : Int), .string b] w fun e w' => e = .returned (.int .i64 0) ∧ ∃ ov, One w0 w' { L with ov := ov } { D with opn := D.opn ++ [(i, b)], fuse := D.fuse.spend } := by
  have := one_write h i b hc hn
  rwa [writes_ok hi hb hf, wrote_ok hi hb hf] at this
theorem one_flushed {w0 w : World} {L : Lay} {D : DiskSt} (h : One w0 w L D) (hf : D.fuse.bears = true) (hc : D.fuse.count < 1000000000) :
    Calls Try.prog 13 #[.pointer (some ⟨L.bd, 0, none⟩)] w fun e w' => e = .returned (.int .i64 0) ∧ ∃ ov, One w0 w' { L with ov := ov } ⟨D.size, lay D.secs D.opn, [], D.fuse.spend⟩ := by
  have := one_flush h hc
  rwa [(flushed_ok hf).1, (flushed_ok hf).2] at this

set_option maxHeartbeats 1000000 in
theorem torn_any (a b : UInt8) (torn : Int) (w0 : World) : Calls Try.prog 5 #[.int .u8 (a.toNat : Int), .int .u8 (b.toNat : Int), .int .i64 torn] w0 fun e w' => e = .returned (.bool true) ∧ Below w0.heap.size w0 w' := by
  have hn : (min (max torn 0) 128 : Int) = ((cutOf torn 128 : Nat) : Int) := by unfold cutOf; omega
  have hc := cutOf_le torn 128
  have T := torn_crash a b torn
  generalize cutOf torn 128 = c at *
  go_enter Try.func5, Try.ntmps5
  go_wp2_with fail
  refine (fuse_new' _).mono ?_
  rintro e w1 ⟨rfl, hf, hb1⟩
  go_wp2_with fail
  refine (awake_any _).mono ?_
  rintro e w2 ⟨rfl, hb2⟩
  have hf2 := Blk.kept hf (Kept.of_below hb2 (fun _ => False)) id
  go_wp2_with fail
  refine (one_new w0 w2 128 4 w0.heap.size FuseSt.fresh hf2 fresh_ok (Nat.le_refl _) (hb1.trans (hb2.mono hb1.size))).mono ?_
  rintro e w3 ⟨rfl, h3⟩
  rw [show DiskSt.fresh 128 4 FuseSt.fresh = ⟨128, secs0 4, [], idle 0⟩ from fresh_128 4 (by decide) (by decide) _] at h3
  go_wp2_with fail
  refine (fill128 a _).mono ?_
  rintro e w4 ⟨rfl, hb4⟩
  have h4 := h3.more hb4
  go_wp2_with fail
  refine (one_wrote h4 2 (rep a 128) (by decide) (rep_size _ _) (idle_bears 0) (by decide) (by decide)).mono ?_
  rintro e w5 ⟨rfl, ov5, h5⟩
  have h5 : One w0 w5 ⟨w2.heap.size, w2.heap.size + 1, w0.heap.size, ov5⟩ ⟨128, secs0 4, [(2, rep a 128)], idle 1⟩ := h5
  go_wp2_with fail
  refine (one_flushed h5 (idle_bears 1) (by show ((1 : Nat) : Int) < _; decide)).mono ?_
  rintro e w6 ⟨rfl, ov6, h6⟩
  have h6 : One w0 w6 ⟨w2.heap.size, w2.heap.size + 1, w0.heap.size, ov6⟩ ⟨128, (secs0 4).set 2 (rep a 128), [], idle 2⟩ := h6
  go_wp2_with fail
  refine (fill128 b _).mono ?_
  rintro e w7 ⟨rfl, hb7⟩
  have h7 := h6.more hb7
  go_wp2_with fail
  refine (one_wrote h7 2 (rep b 128) (by simp [secs0]) (rep_size _ _) (idle_bears 2) (by show ((2 : Nat) : Int) < _; decide) (by show 0 < _; decide)).mono ?_
  rintro e w8 ⟨rfl, ov8, h8⟩
  go_wp2_with fail
  refine (one_crash h8 1 torn (by omega) (by omega)).mono ?_
  rintro e w9 ⟨rfl, ov9, h9⟩
  have h9' : One w0 w9 ⟨w2.heap.size, w2.heap.size + 1, w0.heap.size, ov9⟩ (tornD4 a b c) := by
    rw [← T]
    exact h9
  clear h9 T
  have C := one_read h9' 2
  rw [torn_read] at C
  go_wp2_with fail
  refine C.mono ?_
  rintro e w10 ⟨rfl, rfl⟩
  clear C
  go_wp2_with fail
  refine (fill_at b c c (fillLen_nat c (by omega)) _).mono ?_
  rintro e w11 ⟨rfl, hb11⟩
  have h11 := h9'.more hb11
  go_wp2_with fail
  refine (fill_at a (128 - (c : Int)) (128 - c) (by rw [show (128 - (c : Int)) = ((128 - c : Nat) : Int) from by omega]; exact fillLen_nat _ (by omega)) _).mono ?_
  rintro e w12 ⟨rfl, hb12⟩
  have h12 := h11.more hb12
  have z1 := rep_size b c
  have z2 := rep_size a (128 - c)
  go_wp2_with fail
  go_ret
  exact ⟨rfl, h12.below⟩
end Go.Proofs.Ytbajhplblnemnaa
