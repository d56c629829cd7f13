/- The walk of the law DiskCrashes. -/
import Derived.Test.YtbajhplblnemnaaTrio
namespace Go.Proofs.Ytbajhplblnemnaa
open Go.RowKit
set_option linter.unusedVariables false

theorem below_cell {B : Nat} {w w' : World} (h : Below B w w') (b o : Nat) (v : Value) (hb : b < B) (hc : w.cell? ⟨b, o, none⟩ = some v) : w'.cell? ⟨b, o, none⟩ = some v := (h.cell (p := ⟨b, o, none⟩) hb).trans hc
theorem Kept.cell' {S : Nat → Prop} {w w' : World} (h : Kept S w w') (b o : Nat) (v : Value) (hb : b < w.heap.size) (hn : ¬ S b) (hc : w.cell? ⟨b, o, none⟩ = some v) : w'.cell? ⟨b, o, none⟩ = some v := (h.cell (p := ⟨b, o, none⟩) hb hn).trans hc

theorem secs0_at {j n : Nat} (h : j < n) : (secs0 n).getD j ByteArray.empty = rep 0 128 := by
  unfold secs0
  rw [List.getD_eq_getElem?_getD, List.getElem?_replicate, if_pos h]
  rfl
theorem reads_at {D : DiskSt} {j : Nat} (h : j < D.secs.length) : D.reads (j : Int) = (D.now.getD j ByteArray.empty, 0) := by
  have : D.isB (j : Int) = true := by simp [DiskSt.isB, h]
  simp [DiskSt.reads, this]

set_option maxHeartbeats 2000000 in
theorem crashes_any (a : Option Addr) (len cap : Nat) (f : Nat → ActV) (w0 : World) (ha : ActsAt w0 a len f) :
    Calls Try.prog 4 #[.slice a len cap] w0 fun e w' => e = .returned (.bool true) ∧ Below w0.heap.size w0 w' := by
  by_cases hlen : 60 < len
  · go_enter Try.func4, Try.ntmps4
    go_wp2_with fail
    refine (fuse_new' _).mono ?_
    rintro e w1 ⟨rfl, hf, hb1⟩
    go_wp2_with fail
    refine (fuse_new' _).mono ?_
    rintro e w2 ⟨rfl, hg, hb2⟩
    have hb2 := hb1.trans (hb2.mono hb1.size)
    go_wp2_with fail
    refine (fuse_new' _).mono ?_
    rintro e w3 ⟨rfl, hh, hb3⟩
    have hb3 := hb2.trans (hb3.mono hb2.size)
    go_wp2_with fail
    refine (awake_any _).mono ?_
    rintro e w4 ⟨rfl, hb4⟩
    have hb4 := hb3.trans (hb4.mono hb3.size)
    go_wp2_with fail
    refine (awake_any _).mono ?_
    rintro e w5 ⟨rfl, hb5⟩
    have hb5 := hb4.trans (hb5.mono hb4.size)
    go_wp2_with fail
    go_ret
    exact ⟨rfl, hb5⟩
  · go_enter Try.func4, Try.ntmps4
    go_wp2_with fail
    refine (fuse_new' _).mono ?_
    rintro e w1 ⟨rfl, hf, hb1⟩
    have l1 := Blk.lt hf
    go_wp2_with fail
    refine (fuse_new' _).mono ?_
    rintro e w2 ⟨rfl, hg, hb2⟩
    have l2 := Blk.lt hg
    have hf := Blk.kept hf (Kept.of_below hb2 (fun _ => False)) id
    have hb2 := hb1.trans (hb2.mono hb1.size)
    go_wp2_with fail
    refine (fuse_new' _).mono ?_
    rintro e w3 ⟨rfl, hh, hb3⟩
    have l3 := Blk.lt hh
    have hf := Blk.kept hf (Kept.of_below hb3 (fun _ => False)) id
    have hg := Blk.kept hg (Kept.of_below hb3 (fun _ => False)) id
    have hb3 := hb2.trans (hb3.mono hb2.size)
    go_wp2_with fail
    refine (awake_any _).mono ?_
    rintro e w4 ⟨rfl, hb4⟩
    have l4 := hb4.size
    have hf := Blk.kept hf (Kept.of_below hb4 (fun _ => False)) id
    have hg := Blk.kept hg (Kept.of_below hb4 (fun _ => False)) id
    have hh := Blk.kept hh (Kept.of_below hb4 (fun _ => False)) id
    have hb4 := hb3.trans (hb4.mono hb3.size)
    go_wp2_with fail
    refine (disk_new 128 8 w0.heap.size FuseSt.fresh w4 hf w0.heap.size (Nat.le_refl _) hb4.size).mono ?_
    rintro e w5 ⟨rfl, dA, hb5⟩
    have l5 := dA.secs.lt
    have hg := Blk.kept hg (Kept.of_below hb5 (fun _ => False)) id
    have hh := Blk.kept hh (Kept.of_below hb5 (fun _ => False)) id
    have hb5 := hb4.trans (hb5.mono hb4.size)
    go_wp2_with fail
    refine (disk_new 128 8 w1.heap.size FuseSt.fresh w5 hg w0.heap.size (by omega) hb5.size).mono ?_
    rintro e w6 ⟨rfl, dB, hb6⟩
    have l6 := dB.secs.lt
    have hh := Blk.kept hh (Kept.of_below hb6 (fun _ => False)) id
    have dA := dA.kept (Kept.of_below hb6 (fun _ => False)) (fun _ _ => id)
    have hb6 := hb5.trans (hb6.mono hb5.size)
    go_wp2_with fail
    refine (disk_new 128 8 w2.heap.size FuseSt.fresh w6 hh w0.heap.size (by omega) hb6.size).mono ?_
    rintro e w7 ⟨rfl, dC, hb7⟩
    have dA := dA.kept (Kept.of_below hb7 (fun _ => False)) (fun _ _ => id)
    have dB := dB.kept (Kept.of_below hb7 (fun _ => False)) (fun _ _ => id)
    have hb7 := hb6.trans (hb7.mono hb6.size)
    have l5 : w4.heap.size + 1 < w5.heap.size := l5
    have l6 : w5.heap.size + 1 < w6.heap.size := l6
    have T : Trio w0 w7 ⟨w4.heap.size, w4.heap.size + 1, w0.heap.size, .slice none 0 0⟩ ⟨w5.heap.size, w5.heap.size + 1, w1.heap.size, .slice none 0 0⟩ ⟨w6.heap.size, w6.heap.size + 1, w2.heap.size, .slice none 0 0⟩ ⟨128, secs0 8, [], idle 0⟩ ⟨128, secs0 8, [], idle 0⟩ ⟨128, secs0 8, [], idle 0⟩ := by
      have e : DiskSt.fresh 128 8 FuseSt.fresh = ⟨128, secs0 8, [], idle 0⟩ := fresh_128 8 (by decide) (by decide) _
      have g := good_fresh 128 8 fresh_ok
      rw [e] at dA dB dC g
      refine ⟨dA, dB, dC, ?_, ?_, ?_, hb7, g, g, g⟩ <;> intro k hk hm <;> simp only [Lay.fp, Value.ownBlock, reduceCtorEq, or_false] at hk hm <;> omega
    clear dA dB dC hf hg hh hb1 hb2 hb3 hb4 hb5 hb6 hb7 l1 l2 l3 l4 l5 l6
    go_wp2_with fail
    generalize w4.heap.size = BA at *
    generalize w5.heap.size = BB at *
    generalize w6.heap.size = BC at *
    generalize w1.heap.size = FB at *
    generalize w2.heap.size = FC at *
    go_loopw [59] (fun i wr => ∃ k : Nat, k ≤ len ∧ i = .int .i64 (k : Int) ∧ ∃ ovA ovB ovC D, Trio w0 wr ⟨BA, BA + 1, w0.heap.size, ovA⟩ ⟨BB, BB + 1, FB, ovB⟩ ⟨BC, BC + 1, FC, ovC⟩ D D D ∧ CrInv k D)
      (fun i _ => len - (intOf i).toNat)
    case atStart => exact ⟨0, Nat.zero_le _, rfl, _, _, _, _, T, ⟨rfl, rfl, by simp, 0, Nat.le_refl _, rfl⟩⟩
    case round =>
      obtain ⟨k, hk, rfl, ovA, ovB, ovC, D, hT, hI⟩ := hrel
      clear T
      by_cases hlt : k < len
      · obtain ⟨ab, ao, haa, hab⟩ := ha.addr (by omega)
        subst haa
        obtain ⟨x0, x1, x2, x3, x4, _, _, _, _⟩ := (ha.at_ k hlt ab ao rfl).below hT.below hab
        generalize (f k).kind = A0 at *
        generalize (f k).at_ = A1 at *
        generalize (f k).n = A2 at *
        generalize (f k).b = A3 at *
        generalize (f k).keep = A4 at *
        have hI2 := hI.wrote A1 (rep A3 128)
        have few := hI.few
        obtain ⟨m, hm, hmf⟩ := hI.fuse
        have hc : D.fuse.count < 1000000000 := by rw [hmf]; simp only [idle]; omega
        have hG := good_wrote hT.ga A1 (rep A3 128) hc (by omega)
        clear hmf
        go_wp2_with fail
        have hT1 := hT.alloc (.cells #[.int .i64 A0, .int .i64 A1, .int .i64 A2, .int .u8 (A3.toNat : Int), .int .u64 A4] 34)
        have z1 := box5_1 wr (.int .i64 A0) (.int .i64 A1) (.int .i64 A2) (.int .u8 (A3.toNat : Int)) (.int .u64 A4) 34
        have z3 := box5_3 wr (.int .i64 A0) (.int .i64 A1) (.int .i64 A2) (.int .u8 (A3.toNat : Int)) (.int .u64 A4) 34
        have hbx : wr.heap.size < (wr.alloc (.cells #[.int .i64 A0, .int .i64 A1, .int .i64 A2, .int .u8 (A3.toNat : Int), .int .u64 A4] 34)).heap.size := by simp
        have nA : ¬ Lay.fp ⟨BA, BA + 1, w0.heap.size, ovA⟩ wr.heap.size := fun h => Nat.lt_irrefl _ (hT.a.fp_lt _ h)
        have nB : ¬ Lay.fp ⟨BB, BB + 1, FB, ovB⟩ wr.heap.size := fun h => Nat.lt_irrefl _ (hT.b.fp_lt _ h)
        have nC : ¬ Lay.fp ⟨BC, BC + 1, FC, ovC⟩ wr.heap.size := fun h => Nat.lt_irrefl _ (hT.c.fp_lt _ h)
        go_region_held3 (fun w' => w'.cell? ⟨wr.heap.size, 1, none⟩ = some (.int .i64 A1) ∧ w'.cell? ⟨wr.heap.size, 3, none⟩ = some (.int .u8 (A3.toNat : Int)))
          (first | exact ⟨z1, z3⟩ | exact ⟨y1, y3⟩ | exact ⟨u1, u3⟩)
          (first
            | (go_at_call 12; refine (fill128 A3 _).mono ?_; rintro e wf ⟨rfl, hbf⟩; have y1 := below_cell hbf _ _ _ hbx z1; have y3 := below_cell hbf _ _ _ hbx z3; have hF := hT1.drew.more hbf)
            | (go_at_call 11; refine (disk_write w0.heap.size _ D A1 (rep A3 128) _ hF.a hF.ga.fuse hF.ga.few).mono ?_; rintro e w8 ⟨rfl, h8⟩; obtain ⟨ovA', hT8, hK8⟩ := hF.toA h8 hG; have u1 := hK8.cell' _ _ _ (Nat.lt_of_lt_of_le hbx hbf.size) nA y1; have u3 := hK8.cell' _ _ _ (Nat.lt_of_lt_of_le hbx hbf.size) nA y3))
        have hb8 : wr.heap.size < w8.heap.size := Nat.lt_of_lt_of_le (Nat.lt_of_lt_of_le hbx hbf.size) hK8.size
        clear z1 z3 y1 y3 hF h8 hT1 hK8 hbf hbx hT
        go_wp2_with fail
        go_region_held3 (fun w' => w'.cell? ⟨wr.heap.size, 1, none⟩ = some (.int .i64 A1) ∧ w'.cell? ⟨wr.heap.size, 3, none⟩ = some (.int .u8 (A3.toNat : Int)))
          (first | exact ⟨u1, u3⟩ | exact ⟨y1, y3⟩ | exact ⟨v1, v3⟩)
          (first
            | (go_at_call 12; refine (fill128 A3 _).mono ?_; rintro e wf ⟨rfl, hbf⟩; have y1 := below_cell hbf _ _ _ hb8 u1; have y3 := below_cell hbf _ _ _ hb8 u3; have hF := hT8.drew.more hbf)
            | (go_at_call 11; refine (disk_write w0.heap.size _ D A1 (rep A3 128) _ hF.b hF.gb.fuse hF.gb.few).mono ?_; rintro e w9 ⟨rfl, h9⟩; obtain ⟨ovB', hT9, hK9⟩ := hF.toB h9 hG; have v1 := hK9.cell' _ _ _ (Nat.lt_of_lt_of_le hb8 hbf.size) nB y1; have v3 := hK9.cell' _ _ _ (Nat.lt_of_lt_of_le hb8 hbf.size) nB y3))
        have hb9 : wr.heap.size < w9.heap.size := Nat.lt_of_lt_of_le (Nat.lt_of_lt_of_le hb8 hbf.size) hK9.size
        clear u1 u3 y1 y3 hF h9 hT8 hK9 hbf hb8
        go_wp2_with fail
        go_region_held3 (fun w' => w'.cell? ⟨wr.heap.size, 1, none⟩ = some (.int .i64 A1) ∧ w'.cell? ⟨wr.heap.size, 3, none⟩ = some (.int .u8 (A3.toNat : Int)))
          (first | exact ⟨v1, v3⟩ | exact ⟨y1, y3⟩ | exact ⟨t1, t3⟩)
          (first
            | (go_at_call 12; refine (fill128 A3 _).mono ?_; rintro e wf ⟨rfl, hbf⟩; have y1 := below_cell hbf _ _ _ hb9 v1; have y3 := below_cell hbf _ _ _ hb9 v3; have hF := hT9.drew.more hbf)
            | (go_at_call 11; refine (disk_write w0.heap.size _ D A1 (rep A3 128) _ hF.c hF.gc.fuse hF.gc.few).mono ?_; rintro e w10 ⟨rfl, h10⟩; obtain ⟨ovC', hT10, hK10⟩ := hF.toC h10 hG; have t1 := hK10.cell' _ _ _ (Nat.lt_of_lt_of_le hb9 hbf.size) nC y1; have t3 := hK10.cell' _ _ _ (Nat.lt_of_lt_of_le hb9 hbf.size) nC y3))
        clear v1 v3 y1 y3 t1 t3 hF h10 hT9 hK10 hbf hb9
        go_wp2
        go_roundw
        case rel => exact ⟨k + 1, by omega, by go_num, ovA', ovB', ovC', _, hT10, hI2⟩
        case measure => simp [intOf]; omega
      · obtain rfl : k = len := by omega
        clear ha
        obtain ⟨m, hm, hmf⟩ := hI.fuse
        have hc : D.fuse.count < 1000000000 := by rw [hmf]; simp only [idle]; omega
        obtain ⟨n1, n2, n3⟩ := hI.all hT.ga
        have hA0 : D.flushed.opn.length = 0 := by rw [(flushed_ok hI.bears).1]; rfl
        have hsB : (D.crashed 18446744073709551615 128).secs.length = 8 := by simp [DiskSt.crashed, crashSecs_length, hI.secs, secs0]
        have hsC : (D.crashed 0 128).secs.length = 8 := by simp [DiskSt.crashed, crashSecs_length, hI.secs, secs0]
        have hsA : D.flushed.secs.length = 8 := by rw [(flushed_ok hI.bears).1]; simp [lay_length, hI.secs, secs0]
        clear hmf
        go_wp2_with fail
        refine (disk_flush w0.heap.size _ D _ hT.a hT.ga).mono ?_
        rintro e w8 ⟨rfl, h8⟩
        obtain ⟨ovA', hT8, _⟩ := hT.toA h8 (good_flushed hT.ga hc)
        clear h8
        go_wp2_with fail
        refine (disk_crash w0.heap.size _ D 18446744073709551615 128 _ hT8.b hT8.gb (by omega) (by omega)).mono ?_
        rintro e w9 ⟨rfl, h9⟩
        obtain ⟨ovB', hT9, _⟩ := hT8.toB h9 (good_crashed hT8.gb _ _)
        clear h9
        go_wp2_with fail
        refine (disk_crash w0.heap.size _ D 0 128 _ hT9.c hT9.gc (by omega) (by omega)).mono ?_
        rintro e w10 ⟨rfl, h10⟩
        obtain ⟨ovC', hT10, _⟩ := hT9.toC h10 (good_crashed hT9.gc _ _)
        clear h10 hT9 hT8 hT
        go_wp2_with fail
        go_loopw [91] (fun i wr => ∃ j : Nat, j ≤ 8 ∧ i = .int .i64 (j : Int) ∧ Trio w0 wr ⟨BA, BA + 1, w0.heap.size, ovA'⟩ ⟨BB, BB + 1, FB, ovB'⟩ ⟨BC, BC + 1, FC, ovC'⟩ D.flushed (D.crashed 18446744073709551615 128) (D.crashed 0 128))
          (fun i _ => 8 - (intOf i).toNat)
        case atStart => exact ⟨0, by omega, rfl, hT10⟩
        case round =>
          obtain ⟨j, hj, rfl, hR⟩ := hrel
          clear hT10
          by_cases hj8 : j < 8
          · have rA := reads_at (by rw [hsA]; exact hj8 : j < D.flushed.secs.length)
            have rB := reads_at (by rw [hsB]; exact hj8 : j < (D.crashed 18446744073709551615 128).secs.length)
            have rC := reads_at (by rw [hsC]; exact hj8 : j < (D.crashed 0 128).secs.length)
            rw [n2] at rA
            rw [n1] at rB
            rw [n3, show (secs0 8).getD j ByteArray.empty = rep 0 128 from secs0_at hj8] at rC
            have CA := disk_read w0.heap.size _ _ (j : Int) wr hR.a hR.ga.few
            have CB := disk_read w0.heap.size _ _ (j : Int) wr hR.b hR.gb.few
            have CC := disk_read w0.heap.size _ _ (j : Int) wr hR.c hR.gc.few
            rw [rA] at CA
            rw [rB] at CB
            rw [rC] at CC
            clear rA rB rC n1 n2 n3 hA0 hsA hsB hsC
            generalize (lay (secs0 8) D.opn).getD j ByteArray.empty = V at *
            go_wp2_with fail
            refine CA.mono ?_
            rintro e w11 ⟨rfl, rfl⟩
            go_wp2_with fail
            refine CB.mono ?_
            rintro e w11 ⟨rfl, rfl⟩
            go_wp2_with fail
            refine CC.mono ?_
            rintro e w11 ⟨rfl, rfl⟩
            clear CA CB CC
            go_wp2_with fail
            refine (fill128 0 _).mono ?_
            rintro e w11 ⟨rfl, hb11⟩
            have hR' := hR.more hb11
            go_wp2
            go_roundw
            case rel => exact ⟨j + 1, by omega, by go_num, hR'⟩
            case measure => simp [intOf]; omega
          · have CA : Calls Try.prog 16 #[.pointer (some ⟨BA, 0, none⟩)] wr fun e w' => e = .returned (.int .i64 0) ∧ wr = w' := by
              have := disk_open _ _ _ _ hR.a
              rw [hA0] at this
              exact this
            have CB : Calls Try.prog 16 #[.pointer (some ⟨BB, 0, none⟩)] wr fun e w' => e = .returned (.int .i64 0) ∧ wr = w' := disk_open _ _ _ _ hR.b
            have CC : Calls Try.prog 16 #[.pointer (some ⟨BC, 0, none⟩)] wr fun e w' => e = .returned (.int .i64 0) ∧ wr = w' := disk_open _ _ _ _ hR.c
            clear n1 n2 n3 hA0 hsA hsB hsC
            go_wp2_with fail
            refine CA.mono ?_
            rintro e w11 ⟨rfl, rfl⟩
            go_wp2_with fail
            refine CB.mono ?_
            rintro e w11 ⟨rfl, rfl⟩
            go_wp2_with fail
            refine CC.mono ?_
            rintro e w11 ⟨rfl, rfl⟩
            go_wp2_with fail
            go_ret
            exact ⟨rfl, hR.below⟩
end Go.Proofs.Ytbajhplblnemnaa
