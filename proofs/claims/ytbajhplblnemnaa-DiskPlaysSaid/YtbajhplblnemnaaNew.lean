/- The walk of the disk's New. -/
import Derived.Test.YtbajhplblnemnaaRead
import Derived.Deep.OwnRows
import Derived.Deep.RegionWith
namespace Go.Proofs.Ytbajhplblnemnaa
open Go.RowKit

theorem info9 : (Try.prog.info? 9).map (fun i => (i.zero, i.size, i.bytes)) = some (some (.string ByteArray.empty), 1, 16) := by kernel_rfl

def sizeOfN (size : Int) : Nat := (min (max size 128) 1024).toNat
def numOfN (n : Int) : Nat := (min (max n 4) 1024).toNat
/-- A new disk's state. -/
def DiskSt.fresh (size n : Int) (F : FuseSt) : DiskSt := ⟨sizeOfN size, List.replicate (numOfN n) (rep 0 (sizeOfN size)), [], F⟩

theorem madeCells_secs (n : Nat) : madeCells #[.string ByteArray.empty] n = secCells (List.replicate n ByteArray.empty) := by
  apply Array.toList_inj.1
  rw [toList_madeCells_one]
  simp [secCells]

theorem repl_set {α : Type} (a b : α) (k n : Nat) (h : k < n) : (List.replicate k a ++ List.replicate (n - k) b).set k a = List.replicate (k + 1) a ++ List.replicate (n - (k + 1)) b := by
  obtain ⟨m, rfl⟩ : ∃ m, n = k + 1 + m := ⟨n - (k + 1), by omega⟩
  rw [show k + 1 + m - k = m + 1 from by omega, show k + 1 + m - (k + 1) = m from by omega, List.set_append_right _ _ (by simp)]
  rw [List.replicate_succ (n := m), List.replicate_succ' (n := k)]
  simp

set_option maxHeartbeats 400000 in
theorem disk_new (size n : Int) (bf : Nat) (F : FuseSt) (w : World) (h : FuseIs w bf F) (base : Nat) (hb : base ≤ bf) (hbw : base ≤ w.heap.size) :
    Calls Try.prog 10 #[.int .i64 size, .int .i64 n, .pointer (some ⟨bf, 0, none⟩)] w fun e w' => e = .returned (.pointer (some ⟨w.heap.size, 0, none⟩)) ∧
      DiskIs base w' ⟨w.heap.size, w.heap.size + 1, bf, .slice none 0 0⟩ (DiskSt.fresh size n F) ∧ Below w.heap.size w w' := by
  have hS : (min (max size 128) 1024 : Int) = (sizeOfN size : Int) := by unfold sizeOfN; omega
  have hN : (min (max n 4) 1024 : Int) = (numOfN n : Int) := by unfold numOfN; omega
  have hfr : DiskSt.fresh size n F = ⟨sizeOfN size, List.replicate (numOfN n) (rep 0 (sizeOfN size)), [], F⟩ := rfl
  have hS0 : 128 ≤ sizeOfN size := by unfold sizeOfN; omega
  have hS1 : sizeOfN size ≤ 1024 := by unfold sizeOfN; omega
  have hN1 : numOfN n ≤ 1024 := by unfold numOfN; omega
  generalize sizeOfN size = S at *
  generalize numOfN n = N at *
  rw [hfr]
  clear hfr
  have hmk := run_make_row' (P := Try.prog) 50 9 (.string ByteArray.empty) 16 Try.underlying50 info9 rfl .i64 .i64 N (by omega) (by omega)
  have hbf := Blk.lt h
  go_enter Try.func10, Try.ntmps10
  go_wp2_with fail
  go_loopw [27] (fun i wr => ∃ k : Nat, k ≤ N ∧ i = .int .i64 (k : Int) ∧ Blk wr w.heap.size #[.int .i64 (S : Int), .slice (some ⟨w.heap.size + 1, 0, none⟩) N N, .slice none 0 0, .pointer (some ⟨bf, 0, none⟩)] 63 ∧
      Blk wr (w.heap.size + 1) (secCells (List.replicate k (rep 0 S) ++ List.replicate (N - k) ByteArray.empty)) 9 ∧ Below w.heap.size w wr)
    (fun i _ => N - (intOf i).toNat)
  case atStart =>
    refine ⟨0, Nat.zero_le _, rfl, (Blk.new w _ 63).alloc _, ?_, ((Below.refl _ _).alloc (Nat.le_refl _) _).alloc (by simp) _⟩
    have := Blk.new (w.alloc (.cells #[.int .i64 (S : Int), .slice (some ⟨w.heap.size + 1, 0, none⟩) N N, .slice none 0 0, .pointer (some ⟨bf, 0, none⟩)] 63)) (madeCells #[.string ByteArray.empty] N) 9
    rw [World.size_alloc] at this
    rw [madeCells_secs] at this
    simpa [madeCells_secs] using this
  case round =>
    obtain ⟨k, hk, rfl, hd, hs, hb1⟩ := hrel
    by_cases hlt : k < N
    · have d0 := hd.cell 0
      have d1 := hd.cell 1
      simp at d0 d1
      have sk : (secCells (List.replicate k (rep 0 S) ++ List.replicate (N - k) ByteArray.empty))[k]? = some (.string ByteArray.empty) := by
        obtain ⟨m, hm⟩ : ∃ m, N - k = m + 1 := ⟨N - k - 1, by omega⟩
        rw [hm]
        simp [secCells]
      have hset := repl_set (rep 0 S) ByteArray.empty k N hlt
      go_wp2_with fail
      go_region_with (go_at_call 28; refine (repeat_byte 0 _ _ (by omega) (by omega)).mono ?_; rintro e w1 ⟨rfl, hr⟩; have kd := hd.drew.kept (Kept.of_below hr (fun _ => False)) id; have ks := hs.drew.kept (Kept.of_below hr (fun _ => False)) id; have q1 := kd.cell 1; have s1 := (ks.cell k).trans sk; have fs := ks.frozen ⟨w.heap.size + 1, k, none⟩ rfl; simp at q1)
      all_goals
        have kd' := kd.setOther (p := ⟨w.heap.size + 1, k, none⟩) (by simp) (.string (rep 0 S))
        have ks' := ks.set k (.string (rep 0 S))
        rw [secCells_set, hset] at ks'
        have hb' := (hb1.drew.trans (hr.mono (by have := hb1.size; simpa using this))).setCell (p := ⟨w.heap.size + 1, k, none⟩) (by simp) (.string (rep 0 S))
        have HF := Lib.hid (And.intro kd' (And.intro ks' hb'))
        clear kd' ks' hb' kd ks hr hd hs hset sk
        go_wp2
        go_roundw
        case rel =>
          obtain ⟨g1, g2, g3⟩ := HF.out
          exact ⟨k + 1, by omega, by go_num, g1, g2, g3⟩
        case measure => simp [intOf]; omega
    · obtain rfl : k = N := by omega
      have hfin : DiskIs base wr ⟨w.heap.size, w.heap.size + 1, bf, .slice none 0 0⟩ ⟨S, List.replicate k (rep 0 S), [], F⟩ := by
        refine ⟨?_, ?_, (hb1.block bf hbf).trans h, World.ownsRow_nil _ _ _ _, hbw, by simp only; omega, hb⟩
        · simpa using hd
        · simpa using hs
      clear hd hs
      go_wp2
      go_ret
      exact ⟨rfl, hfin, hb1⟩
end Go.Proofs.Ytbajhplblnemnaa
