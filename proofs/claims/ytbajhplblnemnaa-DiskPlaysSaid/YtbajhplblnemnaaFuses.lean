/- The walk of the law DiskFuses. -/
import Derived.Test.YtbajhplblnemnaaCrashes
namespace Go.Proofs.Ytbajhplblnemnaa
open Go.RowKit
set_option linter.unusedVariables false

/-- A fuse that was armed with n, behind j calls. -/
def armed (n j : Nat) : FuseSt := ⟨((n - j : Nat) : Int), decide (n < j), ((min j n : Nat) : Int)⟩
theorem armed_start (n : Nat) : (idle 0).arm (n : Int) = armed n 0 := by
  have : ¬ (n : Int) < 0 := by omega
  simp [FuseSt.arm, armed, idle, this]
theorem armed_bears {n j : Nat} (h : j < n) : (armed n j).bears = true := by
  have h1 : ¬ n < j := by omega
  simp [FuseSt.bears, armed, h1]
  omega
theorem armed_not {n j : Nat} (h : n ≤ j) : (armed n j).bears = false := by
  have h1 : n - j = 0 := by omega
  simp [FuseSt.bears, armed, h1]
theorem armed_spend (n j : Nat) : (armed n j).spend = armed n (j + 1) := by
  by_cases h : j < n
  · rw [FuseSt.spend, if_pos (armed_bears h)]
    have h1 : decide (n < j) = false := by simp; omega
    have h2 : decide (n < j + 1) = false := by simp; omega
    have h3 : min j n = j := by omega
    have h4 : min (j + 1) n = j + 1 := by omega
    simp only [armed, h1, h2, h3, h4, FuseSt.mk.injEq, true_and]
    refine ⟨?_, by omega⟩
    split <;> omega
  · rw [FuseSt.spend, if_neg (by rw [armed_not (by omega)]; simp)]
    have h2 : decide (n < j + 1) = true := by simp; omega
    have h3 : min j n = n := by omega
    have h4 : min (j + 1) n = n := by omega
    have h5 : n - j = 0 := by omega
    have h6 : n - (j + 1) = 0 := by omega
    simp only [armed, h2, h3, h4, h5, h6]
theorem armed_ok (n j : Nat) (hn : n ≤ 200) : (armed n j).Ok := ⟨by simp only [armed]; omega, by simp only [armed]; omega, by simp only [armed]; omega, by simp only [armed]; omega⟩

structure FuInv (n j : Nat) (D : DiskSt) : Prop where
  size : D.size = 128
  num : D.secs.length = 8
  few : D.opn.length ≤ j
  fuse : D.fuse = armed n j

theorem FuInv.fits {n j : Nat} {D : DiskSt} (h : FuInv n j D) {i : Int} {s : ByteArray} (h0 : 0 ≤ i) (h1 : i ≤ 7) (hs : s.size = 128) : D.fits i s = true := by
  simp [DiskSt.fits, DiskSt.isB, h.num, hs, h.size]
  omega
theorem FuInv.no {n j : Nat} {D : DiskSt} (h : FuInv n j D) {i : Int} (s : ByteArray) (hi : i < 0 ∨ 7 < i) : D.writes i s = 1 ∧ D.wrote i s = D := by
  have : D.isB i = false := by simp [DiskSt.isB, h.num]; omega
  have hf : D.fits i s = false := by simp [DiskSt.fits, this]
  simp [DiskSt.writes, DiskSt.wrote, hf]
theorem FuInv.yes {n j : Nat} {D : DiskSt} (h : FuInv n j D) {i : Int} {s : ByteArray} (h0 : 0 ≤ i) (h1 : i ≤ 7) (hs : s.size = 128) (hj : j < n) :
    D.writes i s = 0 ∧ FuInv n (j + 1) (D.wrote i s) ∧ ((D.wrote i s).reads i).1 = s := by
  have hf := h.fits h0 h1 hs
  have hb : D.fuse.bears = true := by rw [h.fuse]; exact armed_bears hj
  have hw : D.wrote i s = { D with opn := D.opn ++ [(i.toNat, s)], fuse := D.fuse.spend } := by simp [DiskSt.wrote, hf, hb]
  refine ⟨by simp [DiskSt.writes, hf, hb], ?_, ?_⟩
  · rw [hw]
    refine ⟨h.size, h.num, ?_, by simp only [h.fuse, armed_spend]⟩
    have := h.few; simp only [List.length_append, List.length_singleton]; omega
  · obtain ⟨i, rfl⟩ := Int.eq_ofNat_of_zero_le h0
    have hi : i < (D.wrote (i : Int) s).secs.length := by rw [hw]; show i < D.secs.length; rw [h.num]; omega
    rw [reads_at hi]
    have hl : i < (lay D.secs D.opn).length := by rw [lay_length, h.num]; omega
    rw [hw]
    have e : lay D.secs (D.opn ++ [(i, s)]) = (lay D.secs D.opn).set i s := by simp [lay]
    simp only [DiskSt.now, Int.toNat_natCast]
    rw [e, List.getD_eq_getElem?_getD, List.getElem?_set_self hl]
    rfl
theorem FuInv.halt {n j : Nat} {D : DiskSt} (h : FuInv n j D) {i : Int} {s : ByteArray} (h0 : 0 ≤ i) (h1 : i ≤ 7) (hs : s.size = 128) (hj : n ≤ j) :
    D.writes i s = 2 ∧ FuInv n (j + 1) (D.wrote i s) ∧ ((D.wrote i s).reads i).1 = (D.reads i).1 := by
  have hf := h.fits h0 h1 hs
  have hb : D.fuse.bears = false := by rw [h.fuse]; exact armed_not hj
  have hw : D.wrote i s = { D with fuse := D.fuse.spend } := by simp [DiskSt.wrote, hf, hb]
  refine ⟨by simp [DiskSt.writes, hf, hb], ?_, ?_⟩
  · rw [hw]
    exact ⟨h.size, h.num, by have := h.few; simp only; omega, by simp only [h.fuse, armed_spend]⟩
  · rw [hw]
    rfl
theorem FuInv.good {n j : Nat} {D : DiskSt} (h : FuInv n j D) (hn : n ≤ 200) : D.fuse.count < 1000000000 := by
  rw [h.fuse]; simp only [armed]; omega

/-- A write, in one form, with the blocks that it may have turned. -/
theorem one_write_k {w0 w : World} {L : Lay} {D : DiskSt} (h : One w0 w L D) (i : Int) (b : ByteArray) (hc : D.fuse.count < 1000000000) (hn : D.opn.length < 1000000) :
    Calls Try.prog 11 #[.pointer (some ⟨L.bd, 0, none⟩), .int .i64 i, .string b] w fun e w' => e = .returned (.int .i64 (D.writes i b)) ∧ ∃ ov, One w0 w' { L with ov := ov } (D.wrote i b) ∧ Kept L.fp w w' :=
  (disk_write w0.heap.size L D i b w h.disk h.good.fuse h.good.few).mono fun e w' ⟨he, k⟩ => ⟨he, by
    obtain ⟨ov, h1⟩ := h.to k (good_wrote h.good i b hc hn)
    obtain ⟨ov, k1, k2, k3⟩ := k
    exact ⟨ov, ⟨k1, h1.below, h1.good⟩, k2⟩⟩
theorem One.fuse {w0 w w' : World} {L : Lay} {D : DiskSt} {F : FuseSt} (h : One w0 w L D) (k : FuseTo w L.bf F w') (ok : F.Ok) : One w0 w' L { D with fuse := F } :=
  ⟨h.disk.fuseTo k, h.below.trans ((Lay.fp_bf k).below h.below.size h.disk.fp_ge), ⟨ok, h.good.size0, h.good.size1, h.good.num0, h.good.num1, h.good.secs, h.good.opn, h.good.few⟩⟩

theorem crashed_flush (D : DiskSt) (keep torn : Int) : (D.crashed keep.toNat torn).flushes = 0 ∧ (D.crashed keep.toNat torn).flushed.fuse.blown = false := by
  have hb : (D.crashed keep.toNat torn).fuse.bears = true := by simp [DiskSt.crashed, FuseSt.reset, FuseSt.bears]
  refine ⟨by simp [DiskSt.flushes, hb], ?_⟩
  rw [(flushed_ok hb).1]
  simp only [FuseSt.spend, hb, if_true]
  rfl

set_option maxRecDepth 100000 in
set_option maxHeartbeats 2000000 in
theorem fuses_any (a : Option Addr) (len cap : Nat) (n : Int) (f : Nat → ActV) (w0 : World) (ha : ActsAt w0 a len f) (hn : -9223372036854775808 ≤ n ∧ n ≤ 9223372036854775807) :
    Calls Try.prog 6 #[.slice a len cap, .int .i64 n] w0 fun e w' => e = .returned (.bool true) ∧ Below w0.heap.size w0 w' := by
  by_cases hout : 100 < len ∨ n < 0 ∨ 200 < n
  · have hall : ∀ (hl : 100 < len ∨ (¬ 100 < len ∧ (n < 0 ∨ (¬ n < 0 ∧ 200 < n)))), True := fun _ => trivial
    have hcases : 100 < len ∨ (¬ 100 < len ∧ n < 0) ∨ (¬ 100 < len ∧ ¬ n < 0 ∧ 200 < n) := by omega
    clear hout hall
    rcases hcases with h1 | ⟨h1, h2⟩ | ⟨h1, h2, h3⟩
    all_goals
      go_enter Try.func6, Try.ntmps6
      go_wp2_with fail
      refine (fuse_new' _).mono ?_
      rintro e w1 ⟨rfl, hf, hb1⟩
      go_wp2_with fail
      refine (awake_any _).mono ?_
      rintro e w2 ⟨rfl, hb2⟩
      go_wp2_with fail
      refine (awake_any _).mono ?_
      rintro e w3 ⟨rfl, hb3⟩
      go_wp2_with fail
      go_ret
      exact ⟨rfl, (hb1.trans (hb2.mono hb1.size)).trans (hb3.mono (Nat.le_trans hb1.size hb2.size))⟩
  · have hl : ¬ 100 < len := by omega
    have hn0 : ¬ n < 0 := by omega
    have hn1 : ¬ 200 < n := by omega
    obtain ⟨n, rfl⟩ := Int.eq_ofNat_of_zero_le (show 0 ≤ n by omega)
    have hn2 : n ≤ 200 := by omega
    clear hout hn
    go_enter Try.func6, Try.ntmps6
    go_wp2_with fail
    refine (fuse_new' _).mono ?_
    rintro e w1 ⟨rfl, hf, hb1⟩
    go_wp2_with fail
    refine (awake_any _).mono ?_
    rintro e w2 ⟨rfl, hb2⟩
    have hf2 := Blk.kept hf (Kept.of_below hb2 (fun _ => False)) id
    go_wp2_with fail
    refine (one_new w0 w2 128 8 w0.heap.size FuseSt.fresh hf2 fresh_ok (Nat.le_refl _) (hb1.trans (hb2.mono hb1.size))).mono ?_
    rintro e w3 ⟨rfl, h3⟩
    rw [show DiskSt.fresh 128 8 FuseSt.fresh = ⟨128, secs0 8, [], idle 0⟩ from fresh_128 8 (by decide) (by decide) _] at h3
    go_wp2_with fail
    refine (fuse_arm w0.heap.size (idle 0) (n : Int) _ h3.disk.fuse).mono ?_
    rintro e w4 ⟨rfl, h4⟩
    rw [armed_start] at h4
    have h4 := h3.fuse h4 (armed_ok n 0 hn2)
    clear h3 hf hf2 hb1 hb2
    go_wp2_with fail
    generalize hBD : w2.heap.size = BD at *
    clear hBD
    go_loopw [7, 45] (fun t i wr => ∃ k : Nat, k ≤ len ∧ i = .int .i64 (k : Int) ∧ ∃ j : Nat, j ≤ k ∧ t = .int .i64 (j : Int) ∧ ∃ ov D, One w0 wr ⟨BD, BD + 1, w0.heap.size, ov⟩ D ∧ FuInv n j D)
      (fun _ i _ => len - (intOf i).toNat)
    case atStart => exact ⟨0, Nat.zero_le _, rfl, 0, Nat.le_refl _, rfl, _, _, h4, ⟨rfl, by simp [secs0], by simp, rfl⟩⟩
    case round =>
      obtain ⟨k, hk, rfl, j, hj, rfl, ov, D, hD, hI⟩ := hrel
      clear h4
      by_cases hlt : k < len
      · obtain ⟨ab, ao, haa, hab⟩ := ha.addr (by omega)
        subst haa
        obtain ⟨x0, x1, x2, x3, x4, _, _, _, _⟩ := (ha.at_ k hlt ab ao rfl).below hD.below hab
        generalize (f k).kind = A0 at *
        generalize (f k).at_ = A1 at *
        generalize (f k).n = A2 at *
        generalize (f k).b = A3 at *
        generalize (f k).keep = A4 at *
        have few := hI.few
        have hc := hI.good hn2
        have hD1 := hD.alloc (.cells #[.int .i64 A0, .int .i64 A1, .int .i64 A2, .int .u8 (A3.toNat : Int), .int .u64 A4] 34)
        have z1 := box5_1 wr (.int .i64 A0) (.int .i64 A1) (.int .i64 A2) (.int .u8 (A3.toNat : Int)) (.int .u64 A4) 34
        have z3 := box5_3 wr (.int .i64 A0) (.int .i64 A1) (.int .i64 A2) (.int .u8 (A3.toNat : Int)) (.int .u64 A4) 34
        have hbx : wr.heap.size < (wr.alloc (.cells #[.int .i64 A0, .int .i64 A1, .int .i64 A2, .int .u8 (A3.toNat : Int), .int .u64 A4] 34)).heap.size := by simp
        have nA : ¬ Lay.fp ⟨BD, BD + 1, w0.heap.size, ov⟩ wr.heap.size := fun h => Nat.lt_irrefl _ (hD.disk.fp_lt _ h)
        have hs3 := rep_size A3 128
        go_wp2_with fail
        refine (one_read hD1 A1).mono ?_
        rintro e w5 ⟨rfl, rfl⟩
        generalize hB0 : (D.reads A1).1 = B0 at *
        generalize (D.reads A1).2 = E0 at *
        go_wp2_with fail
        go_region_held3 (fun w' => w'.cell? ⟨wr.heap.size, 1, none⟩ = some (.int .i64 A1) ∧ w'.cell? ⟨wr.heap.size, 3, none⟩ = some (.int .u8 (A3.toNat : Int)))
          (first | exact ⟨z1, z3⟩ | exact ⟨y1, y3⟩ | exact ⟨u1, u3⟩)
          (first
            | (go_at_call 12; refine (fill128 A3 _).mono ?_; rintro e wf ⟨rfl, hbf⟩; have y1 := below_cell hbf _ _ _ hbx z1; have y3 := below_cell hbf _ _ _ hbx z3; have hF := hD1.drew.more hbf)
            | (go_at_call 11; refine (one_write_k hF A1 (rep A3 128) hc (by omega)).mono ?_; rintro e w8 ⟨rfl, ov', hT8, hK8⟩; have u1 := hK8.cell' _ _ _ (Nat.lt_of_lt_of_le hbx hbf.size) nA y1; have u3 := hK8.cell' _ _ _ (Nat.lt_of_lt_of_le hbx hbf.size) nA y3))
        have hb8 : wr.heap.size < w8.heap.size := Nat.lt_of_lt_of_le (Nat.lt_of_lt_of_le hbx hbf.size) hK8.size
        clear z1 z3 y1 y3 hF hD1 hK8 hbf hbx
        go_wp2_with fail
        refine (one_read hT8 A1).mono ?_
        rintro e w9 ⟨rfl, rfl⟩
        by_cases hr : A1 < 0 ∨ 7 < A1
        · obtain ⟨e1, e2⟩ := hI.no (rep A3 128) hr
          rw [e1, e2]
          rw [e2] at hT8
          clear e1 e2
          rcases hr with hr | hr
          · go_wp2
            go_roundw
            case rel => exact ⟨k + 1, by omega, by go_num, j, by omega, rfl, ov', D, hT8, hI⟩
            case measure => simp [intOf]; omega
          · have hr' : ¬ A1 < 0 := by omega
            go_wp2
            go_roundw
            case rel => exact ⟨k + 1, by omega, by go_num, j, by omega, rfl, ov', D, hT8, hI⟩
            case measure => simp [intOf]; omega
        · have hr0 : ¬ A1 < 0 := by omega
          have hr1 : ¬ 7 < A1 := by omega
          by_cases hjn : j < n
          · obtain ⟨e1, e2, e3⟩ := hI.yes (i := A1) (s := rep A3 128) (by omega) (by omega) (rep_size _ _) hjn
            rw [e1, e3]
            clear e1 e3 hr
            go_wp2_with fail
            refine (fill128 A3 _).mono ?_
            rintro e w10 ⟨rfl, hb10⟩
            have hT10 := hT8.more hb10
            clear hB0
            go_wp2
            go_roundw
            case rel => exact ⟨k + 1, by omega, by go_num, j + 1, by omega, by go_num, ov', _, hT10, e2⟩
            case measure => simp [intOf]; omega
          · obtain ⟨e1, e2, e3⟩ := hI.halt (i := A1) (s := rep A3 128) (by omega) (by omega) (rep_size _ _) (by omega)
            rw [e1, e3, hB0]
            clear e1 e3 hr hB0
            have hjn' : n ≤ j := by omega
            go_wp2
            go_roundw
            case rel => exact ⟨k + 1, by omega, by go_num, j + 1, by omega, by go_num, ov', _, hT8, e2⟩
            case measure => simp [intOf]; omega
      · obtain rfl : k = len := by omega
        clear ha
        have hc := hI.good hn2
        by_cases hjn : n ≤ j
        · have hfl : D.flushes = 2 := by simp [DiskSt.flushes, hI.fuse, armed_not hjn]
          have hfs : D.flushed = { D with fuse := armed n (j + 1) } := by simp [DiskSt.flushed, hI.fuse, armed_not hjn, armed_spend]
          have C := one_flush hD hc
          rw [hfl, hfs] at C
          clear hfl hfs
          go_wp2_with fail
          refine C.mono ?_
          rintro e w5 ⟨rfl, ov5, h5⟩
          clear C
          go_wp2_with fail
          refine (one_crash h5 0 0 (by omega) (by omega)).mono ?_
          rintro e w6 ⟨rfl, ov6, h6⟩
          obtain ⟨r1, r2⟩ := crashed_flush { D with fuse := armed n (j + 1) } 0 0
          have C := one_flush h6 (by simp only [DiskSt.crashed, FuseSt.reset, armed]; omega)
          rw [r1] at C
          clear r1
          go_wp2_with fail
          refine C.mono ?_
          rintro e w7 ⟨rfl, ov7, h7⟩
          clear C
          have C := fuse_blown w0.heap.size _ w7 h7.disk.fuse
          rw [r2] at C
          clear r2
          go_wp2_with fail
          refine C.mono ?_
          rintro e w8 ⟨rfl, rfl⟩
          go_wp2_with fail
          go_ret
          exact ⟨rfl, h7.below⟩
        · have hjn' : ¬ n ≤ j := hjn
          go_wp2_with fail
          refine (one_crash hD 0 0 (by omega) (by omega)).mono ?_
          rintro e w6 ⟨rfl, ov6, h6⟩
          obtain ⟨r1, r2⟩ := crashed_flush D 0 0
          have C := one_flush h6 (by simp only [DiskSt.crashed, FuseSt.reset]; exact hc)
          rw [r1] at C
          clear r1
          go_wp2_with fail
          refine C.mono ?_
          rintro e w7 ⟨rfl, ov7, h7⟩
          clear C
          have C := fuse_blown w0.heap.size _ w7 h7.disk.fuse
          rw [r2] at C
          clear r2
          go_wp2_with fail
          refine C.mono ?_
          rintro e w8 ⟨rfl, rfl⟩
          go_wp2_with fail
          go_ret
          exact ⟨rfl, h7.below⟩
end Go.Proofs.Ytbajhplblnemnaa
