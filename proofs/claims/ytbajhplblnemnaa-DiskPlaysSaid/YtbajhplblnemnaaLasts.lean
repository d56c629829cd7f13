/- The walk of the law DiskLasts. -/
import Derived.Test.YtbajhplblnemnaaActs
import Derived.Deep.RegionWith
namespace Go.Proofs.Ytbajhplblnemnaa
open Go.RowKit
set_option linter.unusedVariables false

/-- What holds of the disk while other sectors are written: sector 3 lasts; no open write is of it. -/
structure LastsInv (b : UInt8) (k : Nat) (D : DiskSt) : Prop where
  size : D.size = 128
  num : D.secs.length = 8
  it : D.secs[3]? = some (rep b 128)
  opn : ∀ x ∈ D.opn, x.1 ≠ 3
  few : D.opn.length ≤ k
  left : D.fuse.left = -1
  blown : D.fuse.blown = false
  c1 : D.fuse.count ≤ 2 + k

theorem LastsInv.wrote {b : UInt8} {k : Nat} {D : DiskSt} (h : LastsInv b k D) (i : Int) (s : ByteArray) (hi : i ≠ 3) : LastsInv b (k + 1) (D.wrote i s) := by
  have hb : D.fuse.bears = true := by simp [FuseSt.bears, h.left, h.blown]
  have hs : D.fuse.spend = ⟨-1, false, D.fuse.count + 1⟩ := by simp [FuseSt.spend, hb, h.left, h.blown]
  unfold DiskSt.wrote
  split
  · rename_i hf
    obtain ⟨f1, f2, f3, f4⟩ := fits_parts hf
    rw [hs]
    refine ⟨h.size, h.num, h.it, ?_, ?_, rfl, rfl, ?_⟩
    · intro x hx
      rcases List.mem_append.1 hx with hx | hx
      · exact h.opn x hx
      · simp only [List.mem_singleton] at hx
        subst hx
        simp only
        omega
    · have := h.few; simp only [List.length_append, List.length_singleton]; omega
    · have := h.c1; simp only; omega
  · exact ⟨h.size, h.num, h.it, h.opn, by have := h.few; omega, h.left, h.blown, by have := h.c1; omega⟩

theorem lay_other {S : List ByteArray} {l : List (Nat × ByteArray)} {j : Nat} (h : ∀ x ∈ l, x.1 ≠ j) : (lay S l)[j]? = S[j]? := by
  induction l generalizing S with
  | nil => rfl
  | cons x l ih =>
    show (lay (S.set x.1 x.2) l)[j]? = _
    rw [ih (fun y hy => h y (by simp [hy]))]
    exact List.getElem?_set_ne (h x (by simp))

theorem crash_other {S : List ByteArray} {ks : List (Nat × ByteArray)} {c j : Nat} (h : ∀ x ∈ ks, x.1 ≠ j) : (crashSecs S ks c)[j]? = S[j]? := by
  unfold crashSecs
  split
  · rfl
  · rename_i x hx
    rw [List.getElem?_set_ne (h x (List.mem_of_getLast? hx))]
    exact lay_other fun y hy => h y (List.dropLast_subset _ hy)

theorem LastsInv.reads {b : UInt8} {k : Nat} {D : DiskSt} (h : LastsInv b k D) (keep : Nat) (torn : Int) : (D.crashed keep torn).reads 3 = (rep b 128, 0) := by
  have h3 : (crashSecs D.secs (keptTo keep D.opn D.opn.length) (cutOf torn D.size))[3]? = some (rep b 128) :=
    (crash_other fun x hx => h.opn x (keptTo_mem (Nat.le_refl _) hx)).trans h.it
  have hl : (D.crashed keep torn).isB 3 = true := by
    simp only [DiskSt.isB, DiskSt.crashed, crashSecs_length, h.num]
    decide
  unfold DiskSt.reads
  rw [if_pos hl]
  simp only [DiskSt.now, DiskSt.crashed, lay, List.foldl_nil]
  rw [List.getD_eq_getElem?_getD]
  show ((crashSecs D.secs (keptTo keep D.opn D.opn.length) (cutOf torn D.size))[3]?.getD ByteArray.empty, (0 : Int)) = _
  rw [h3]
  rfl

theorem box5_1 (w : World) (a b c d e : Value) (t : TypeId) : (w.alloc (.cells #[a, b, c, d, e] t)).drew.cell? ⟨w.heap.size, 1, none⟩ = some b := by simp
theorem box5_3 (w : World) (a b c d e : Value) (t : TypeId) : (w.alloc (.cells #[a, b, c, d, e] t)).drew.cell? ⟨w.heap.size, 3, none⟩ = some d := by simp

set_option maxHeartbeats 1000000 in
theorem lasts_any (b : UInt8) (a : Option Addr) (len cap : Nat) (keep : Int) (f : Nat → ActV) (w0 : World) (ha : ActsAt w0 a len f) (hk0 : 0 ≤ keep) (hk1 : keep ≤ 18446744073709551615) :
    Calls Try.prog 3 #[.int .u8 (b.toNat : Int), .slice a len cap, .int .u64 keep] w0 fun e w' => e = .returned (.bool true) ∧ Below w0.heap.size w0 w' := by
  by_cases hlen : 100 < len
  · go_enter Try.func3, Try.ntmps3
    go_wp2_with fail
    refine (fuse_new' _).mono ?_
    rintro e w1 ⟨rfl, hf, hb1⟩
    go_wp2_with fail
    refine (awake_any _).mono ?_
    rintro e w2 ⟨rfl, hb2⟩
    go_wp2_with fail
    refine (awake_any _).mono ?_
    rintro e w3 ⟨rfl, hb3⟩
    go_wp2_with fail
    go_ret
    exact ⟨rfl, (hb1.trans (hb2.mono hb1.size)).trans (hb3.mono (Nat.le_trans hb1.size hb2.size))⟩
  · go_enter Try.func3, Try.ntmps3
    go_wp2_with fail
    refine (fuse_new' _).mono ?_
    rintro e w1 ⟨rfl, hf, hb1⟩
    go_wp2_with fail
    refine (awake_any _).mono ?_
    rintro e w2 ⟨rfl, hb2⟩
    have hf2 := Blk.kept hf (Kept.of_below hb2 (fun _ => False)) id
    go_wp2_with fail
    refine (one_new w0 w2 128 8 w0.heap.size FuseSt.fresh hf2 fresh_ok (Nat.le_refl _) (hb1.trans (hb2.mono hb1.size))).mono ?_
    rintro e w3 ⟨rfl, h3⟩
    rw [show DiskSt.fresh 128 8 FuseSt.fresh = ⟨128, secs0 8, [], idle 0⟩ from fresh_128 8 (by decide) (by decide) _] at h3
    go_wp2_with fail
    refine (fill128 b _).mono ?_
    rintro e w4 ⟨rfl, hb4⟩
    have h4 := h3.more hb4
    go_wp2_with fail
    refine (one_wrote h4 3 (rep b 128) (by decide) (rep_size _ _) (idle_bears 0) (by decide) (by decide)).mono ?_
    rintro e w5 ⟨rfl, ov5, h5⟩
    have h5 : One w0 w5 ⟨w2.heap.size, w2.heap.size + 1, w0.heap.size, ov5⟩ ⟨128, secs0 8, [(3, rep b 128)], idle 1⟩ := h5
    go_wp2_with fail
    refine (one_flushed h5 (idle_bears 1) (by show ((1 : Nat) : Int) < _; decide)).mono ?_
    rintro e w6 ⟨rfl, ov6, h6⟩
    have h6 : One w0 w6 ⟨w2.heap.size, w2.heap.size + 1, w0.heap.size, ov6⟩ ⟨128, (secs0 8).set 3 (rep b 128), [], idle 2⟩ := h6
    clear h3 h4 h5 hf hf2 hb1 hb2 hb4
    go_wp2_with fail
    generalize hBD : w2.heap.size = BD at *
    clear hBD
    go_loopw [44] (fun i wr => ∃ k : Nat, k ≤ len ∧ i = .int .i64 (k : Int) ∧ ∃ ov D, One w0 wr ⟨BD, BD + 1, w0.heap.size, ov⟩ D ∧ LastsInv b k D)
      (fun i _ => len - (intOf i).toNat)
    case atStart => exact ⟨0, Nat.zero_le _, rfl, ov6, _, h6, ⟨rfl, by simp [secs0], by simp [secs0], by simp, by simp, rfl, rfl, by simp [idle]⟩⟩
    case round =>
      obtain ⟨k, hk, rfl, ov, D, hD, hI⟩ := hrel
      by_cases hlt : k < len
      · obtain ⟨ab, ao, haa, hab⟩ := ha.addr (by omega)
        subst haa
        obtain ⟨x0, x1, x2, x3, x4, _, _, _, _⟩ := (ha.at_ k hlt ab ao rfl).below hD.below hab
        generalize (f k).kind = A0 at *
        generalize (f k).at_ = A1 at *
        generalize (f k).n = A2 at *
        generalize (f k).b = A3 at *
        generalize (f k).keep = A4 at *
        by_cases h3 : A1 = 3
        · subst h3
          go_wp2
          go_roundw
          case rel => exact ⟨k + 1, by omega, by go_num, ov, D, hD.alloc _, ⟨hI.size, hI.num, hI.it, hI.opn, Nat.le_succ_of_le hI.few, hI.left, hI.blown, by have := hI.c1; omega⟩⟩
          case measure => simp [intOf]; omega
        · have hne : (A1 != 3) = true := by simpa using h3
          have hI2 := hI.wrote A1 (rep A3 128) h3
          have few := hI.few
          have c1 := hI.c1
          go_wp2_with fail
          go_region_with (first
            | (go_at_call 12; refine (fill128 A3 _).mono ?_; rintro e wf ⟨rfl, hbf⟩; have hF := (hD.alloc (.cells #[.int .i64 A0, .int .i64 A1, .int .i64 A2, .int .u8 (A3.toNat : Int), .int .u64 A4] 34)).drew.more hbf; have y1 := (hbf.cell (p := ⟨wr.heap.size, 1, none⟩) (by simp)).trans (box5_1 _ _ _ _ _ _ _))
            | (go_at_call 11; refine (one_write hF A1 (rep A3 128) (by omega) (by omega)).mono ?_; rintro e w8 ⟨rfl, ov8, h8⟩))
          all_goals
            go_wp2
            go_roundw
            case rel => exact ⟨k + 1, by omega, by go_num, ov8, _, h8, hI2⟩
            case measure => simp [intOf]; omega
      · obtain rfl : k = len := by omega
        have hR := hI.reads keep.toNat (k : Int)
        clear ha
        go_wp2_with fail
        refine (one_crash hD keep (k : Int) hk0 hk1).mono ?_
        rintro e w8 ⟨rfl, ov8, h8⟩
        have C := one_read h8 3
        rw [hR] at C
        clear hR
        go_wp2_with fail
        refine C.mono ?_
        rintro e w9 ⟨rfl, rfl⟩
        clear C
        go_wp2_with fail
        refine (fill128 b _).mono ?_
        rintro e w10 ⟨rfl, hb10⟩
        have h10 := h8.more hb10
        go_wp2_with fail
        go_ret
        exact ⟨rfl, h10.below⟩
end Go.Proofs.Ytbajhplblnemnaa
