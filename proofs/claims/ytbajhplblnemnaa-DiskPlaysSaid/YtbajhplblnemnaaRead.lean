/- The walk of the disk's Read. -/
import Derived.Test.YtbajhplblnemnaaCrash
namespace Go.Proofs.Ytbajhplblnemnaa
open Go.RowKit

/-- What is read of a disk: what lasts, and the open writes upon it. -/
def DiskSt.now (D : DiskSt) : List ByteArray := lay D.secs D.opn

theorem disk_read_no (base : Nat) (L : Lay) (D : DiskSt) (i : Int) (w : World) (h : DiskIs base w L D) (hi : D.isB i = false) :
    Calls Try.prog 15 #[.pointer (some ⟨L.bd, 0, none⟩), .int .i64 i] w fun e w' => e = .returned (.tuple #[.string ByteArray.empty, .int .i64 1]) ∧ w = w' := by
  have HI := disk_is base L D i w h
  rw [hi] at HI
  clear hi
  go_enter Try.func15, Try.ntmps15
  go_wp2_with (go_at_call 29; refine HI.mono ?_; rintro e w' ⟨rfl, rfl⟩)
  go_ret2
  exact ⟨rfl, rfl⟩

set_option maxHeartbeats 400000 in
theorem disk_read_yes (base : Nat) (L : Lay) (D : DiskSt) (i : Nat) (w : World) (h : DiskIs base w L D) (hi : i < D.secs.length) (few : D.opn.length ≤ 1000000) (R : ByteArray) (hR : (lay D.secs D.opn)[i]? = some R) :
    Calls Try.prog 15 #[.pointer (some ⟨L.bd, 0, none⟩), .int .i64 (i : Int)] w fun e w' => e = .returned (.tuple #[.string R, .int .i64 0]) ∧ w = w' := by
  have HI := disk_is base L D i w h
  rw [show D.isB (i : Int) = true from by simp [DiskSt.isB, hi]] at HI
  obtain ⟨a, cap, hov, hr, _⟩ := rows2_of_owns h.opn
  have c2 := h.disk.cell 2
  have c1 := h.disk.cell 1
  rw [hov] at c2
  simp at c1 c2
  have sc := h.secs.cell i
  rw [secCells_at _ _ hi] at sc
  clear hov
  have HR := Lib.hid hR
  clear hR
  go_enter Try.func15, Try.ntmps15
  go_wp2_with (go_at_call 29; refine HI.mono ?_; rintro e w' ⟨rfl, rfl⟩)
  go_loop [6] (fun t => ∃ q : Int, -1 ≤ q ∧ q < D.opn.length ∧ t = .int .i64 q ∧ (lay D.secs (D.opn.take (q + 1).toNat))[i]? = some R) (fun t => (intOf t + 1).toNat)
  case atStart =>
    refine ⟨_, by omega, by omega, rfl, ?_⟩
    rw [show ((D.opn.length : Int) - 1 + 1).toNat = D.opn.length from by omega, List.take_length]
    exact HR.out
  case round =>
    obtain ⟨q, hq0, hq1, rfl, hq⟩ := hrel
    clear HR
    by_cases h0 : 0 ≤ q
    · obtain ⟨j, rfl⟩ := Int.eq_ofNat_of_zero_le h0
      have hj : j < D.opn.length := by omega
      rw [show ((j : Int) + 1).toNat = j + 1 from by omega, lay_snoc _ _ _ hj] at hq
      obtain ⟨g, hg⟩ := hr.addr (by omega)
      subst hg
      have x0 := hr.at0 j hj g rfl
      have x1 := hr.at1 j hj g rfl
      have HQ := Lib.hid hq
      clear hq
      by_cases hat : D.opn[j].1 = i
      · have hres : D.opn[j].2 = R := by
          have := HQ.out
          rw [hat, List.getElem?_set_self (by rw [lay_length]; exact hi)] at this
          exact Option.some.inj this
        rw [hat] at x0
        rw [hres] at x1
        clear hat hres HQ
        go_wp2
        go_ret2
        exact ⟨rfl, rfl⟩
      · have hres : (lay D.secs (D.opn.take j))[i]? = some R := by
          have := HQ.out
          rwa [List.getElem?_set_ne hat] at this
        have hne : ((D.opn[j].1 : Int) == (i : Int)) = false := by simp; omega
        have HE := Lib.hid hres
        clear hat hres HQ
        go_wp2
        go_round
        case rel => exact ⟨(j : Int) - 1, by omega, by omega, rfl, by rw [show ((j : Int) - 1 + 1).toNat = j from by omega]; exact HE.out⟩
        case measure => simp [intOf]
    · have hq2 : q = -1 := by omega
      subst hq2
      have hres : D.secs[i] = R := by
        have := hq
        simp [lay, hi] at this
        exact this
      rw [hres] at sc
      clear hq hres
      go_wp2
      go_ret2
      exact ⟨rfl, rfl⟩

/-- Read, whatever the number. -/
def DiskSt.reads (D : DiskSt) (i : Int) : ByteArray × Int := if D.isB i = true then (D.now.getD i.toNat ByteArray.empty, 0) else (ByteArray.empty, 1)
theorem disk_read (base : Nat) (L : Lay) (D : DiskSt) (i : Int) (w : World) (h : DiskIs base w L D) (few : D.opn.length ≤ 1000000) :
    Calls Try.prog 15 #[.pointer (some ⟨L.bd, 0, none⟩), .int .i64 i] w fun e w' => e = .returned (.tuple #[.string (D.reads i).1, .int .i64 (D.reads i).2]) ∧ w = w' := by
  unfold DiskSt.reads
  cases hi : D.isB i with
  | false =>
    rw [if_neg (by simp)]
    exact disk_read_no base L D i w h hi
  | true =>
    rw [if_pos rfl]
    simp only [DiskSt.isB, decide_eq_true_eq] at hi
    obtain ⟨i, rfl⟩ := Int.eq_ofNat_of_zero_le hi.1
    have hi' : i < D.secs.length := by omega
    have hl : i < (lay D.secs D.opn).length := by rw [lay_length]; exact hi'
    exact disk_read_yes base L D i w h hi' few _ (by simp [DiskSt.now, hl])
end Go.Proofs.Ytbajhplblnemnaa
