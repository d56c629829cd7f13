/- The walk of the law DiskPlays. -/
import Derived.Test.YtbajhplblnemnaaSim
import Derived.Deep.QuietTactic
import Derived.BigQuiet
import Derived.Deep.RegionHeld3
namespace Go.Proofs.Ytbajhplblnemnaa
open Go.RowKit
set_option linter.unusedVariables false

/-- The program's disk and the reference's, made by the call itself. -/
structure Pair (w0 : World) (base : Nat) (w : World) (L : Lay) (M : RLay) (D : DiskSt) (R : RefSt) : Prop where
  d : DiskIs w0.heap.size w L D
  r : RefIs w0.heap.size base w M R
  bs : L.bs < base
  bw : base ≤ w.heap.size
  below : Below w0.heap.size w0 w
  good : D.Good

theorem Pair.rows_fp {w0 w : World} {base : Nat} {L : Lay} {M : RLay} {D : DiskSt} {R : RefSt} (h : Pair w0 base w L M D R) : ∀ b, M.rows b → ¬ L.fp b := by
  intro b hb hl
  obtain ⟨c, t, hc, ht, hge⟩ := h.r.row_type hb
  rcases hl with rfl | rfl | rfl | hl
  · exact hc.ne h.d.disk (by rcases ht with rfl | rfl <;> decide) rfl
  · have := h.bs; omega
  · exact hc.ne h.d.fuse (by rcases ht with rfl | rfl <;> decide) rfl
  · obtain ⟨cur, hcur⟩ := owns_blk h.d.opn hl
    exact hc.ne hcur (by rcases ht with rfl | rfl <;> decide) rfl
theorem Pair.fp_fp {w0 w : World} {base : Nat} {L : Lay} {M : RLay} {D : DiskSt} {R : RefSt} (h : Pair w0 base w L M D R) : ∀ b, M.fp b → ¬ L.fp b := by
  intro b hb hl
  rcases hb with rfl | rfl
  · rcases hl with e | e | e | e
    · exact h.r.disk.ne h.d.disk (by decide) e
    · exact h.r.disk.ne h.d.secs (by decide) e
    · exact h.r.disk.ne h.d.fuse (by decide) e
    · obtain ⟨cur, hcur⟩ := owns_blk h.d.opn e
      exact h.r.disk.ne hcur (by decide) rfl
  · rcases hl with e | e | e | e
    · exact Blk.ne h.r.fuse h.d.disk (by decide) e
    · exact Blk.ne h.r.fuse h.d.secs (by decide) e
    · exact Blk.ne h.r.fuse h.d.fuse (by decide) e
    · obtain ⟨cur, hcur⟩ := owns_blk h.d.opn e
      exact Blk.ne h.r.fuse hcur (by decide) rfl

theorem Pair.impl {w0 w w' : World} {base : Nat} {L : Lay} {M : RLay} {D E : DiskSt} {R : RefSt} (h : Pair w0 base w L M D R) (k : DiskTo w0.heap.size w L E w') (g : E.Good) :
    ∃ ov, Pair w0 base w' { L with ov := ov } M E R ∧ Kept L.fp w w' := by
  obtain ⟨ov, k1, k2, k3⟩ := k
  exact ⟨ov, ⟨k1, h.r.kept k2 h.fp_fp h.rows_fp, h.bs, Nat.le_trans h.bw k2.size, h.below.trans (k2.below h.below.size h.d.fp_ge), g⟩, k2⟩
theorem Pair.ref {w0 w w' : World} {base : Nat} {L : Lay} {M : RLay} {D : DiskSt} {R S : RefSt} (h : Pair w0 base w L M D R) (k : RefTo w0.heap.size base w M S w') :
    ∃ lv nv wv tv, Pair w0 base w' L { M with lv := lv, nv := nv, wv := wv, tv := tv } D S ∧ Kept M.fp w w' := by
  obtain ⟨lv, nv, wv, tv, k1, k2⟩ := k
  refine ⟨lv, nv, wv, tv, ⟨h.d.kept k2 (fun b hl hm => h.fp_fp b hm hl), k1, h.bs, Nat.le_trans h.bw k2.size, h.below.trans (k2.below h.below.size ?_), h.good⟩, k2⟩
  rintro b (rfl | rfl)
  · exact h.r.c0
  · exact h.r.c1
theorem Pair.fuseI {w0 w w' : World} {base : Nat} {L : Lay} {M : RLay} {D : DiskSt} {R : RefSt} {F : FuseSt} (h : Pair w0 base w L M D R) (k : FuseTo w L.bf F w') (ok : F.Ok) : Pair w0 base w' L M { D with fuse := F } R ∧ Kept L.fp w w' := by
  have k2 := Lay.fp_bf k
  exact ⟨⟨h.d.fuseTo k, h.r.kept k2 h.fp_fp h.rows_fp, h.bs, Nat.le_trans h.bw k2.size, h.below.trans (k2.below h.below.size h.d.fp_ge), ⟨ok, h.good.size0, h.good.size1, h.good.num0, h.good.num1, h.good.secs, h.good.opn, h.good.few⟩⟩, k2⟩
theorem Pair.fuseR {w0 w w' : World} {base : Nat} {L : Lay} {M : RLay} {D : DiskSt} {R : RefSt} {F : RFuse} (h : Pair w0 base w L M D R) (k : RFuseTo w M.mf F w') : Pair w0 base w' L M D { R with fuse := F } ∧ Kept M.fp w w' := by
  have k2 := RLay.fp_mf k
  refine ⟨⟨h.d.kept k2 (fun b hl hm => h.fp_fp b hm hl), h.r.fuseTo k, h.bs, Nat.le_trans h.bw k2.size, h.below.trans (k2.below h.below.size ?_), h.good⟩, k2⟩
  rintro b (rfl | rfl)
  · exact h.r.c0
  · exact h.r.c1
theorem Pair.keep {w0 w w' : World} {base : Nat} {L : Lay} {M : RLay} {D : DiskSt} {R : RefSt} (h : Pair w0 base w L M D R) (k : Kept (fun _ => False) w w') : Pair w0 base w' L M D R :=
  ⟨h.d.kept k (fun _ _ => id), h.r.kept k (fun _ _ => id) (fun _ _ => id), h.bs, Nat.le_trans h.bw k.size, h.below.trans (k.below h.below.size (fun _ => False.elim)), h.good⟩
theorem Pair.more {w0 w w' : World} {base : Nat} {L : Lay} {M : RLay} {D : DiskSt} {R : RefSt} (h : Pair w0 base w L M D R) (k : Below w.heap.size w w') : Pair w0 base w' L M D R := h.keep (Kept.of_below k _)
theorem Pair.alloc {w0 w : World} {base : Nat} {L : Lay} {M : RLay} {D : DiskSt} {R : RefSt} (h : Pair w0 base w L M D R) (o : Obj) : Pair w0 base (w.alloc o) L M D R := h.keep ((Kept.refl _ _).alloc o)
theorem Pair.drew {w0 w : World} {base : Nat} {L : Lay} {M : RLay} {D : DiskSt} {R : RefSt} (h : Pair w0 base w L M D R) : Pair w0 base w.drew L M D R := h.keep (Kept.refl _ _).drew
theorem Pair.drewN {w0 w : World} {base : Nat} {L : Lay} {M : RLay} {D : DiskSt} {R : RefSt} (h : Pair w0 base w L M D R) (n : Nat) : Pair w0 base (w.drewN n) L M D R := h.keep ((Kept.refl _ _).drewN n)

theorem box5_0 (w : World) (a b c d e : Value) (t : TypeId) : (w.alloc (.cells #[a, b, c, d, e] t)).cell? ⟨w.heap.size, 0, none⟩ = some a := by simp
theorem box5_1' (w : World) (a b c d e : Value) (t : TypeId) : (w.alloc (.cells #[a, b, c, d, e] t)).cell? ⟨w.heap.size, 1, none⟩ = some b := by simp
theorem box5_2 (w : World) (a b c d e : Value) (t : TypeId) : (w.alloc (.cells #[a, b, c, d, e] t)).cell? ⟨w.heap.size, 2, none⟩ = some c := by simp
theorem box5_3' (w : World) (a b c d e : Value) (t : TypeId) : (w.alloc (.cells #[a, b, c, d, e] t)).cell? ⟨w.heap.size, 3, none⟩ = some d := by simp
theorem box5_4 (w : World) (a b c d e : Value) (t : TypeId) : (w.alloc (.cells #[a, b, c, d, e] t)).cell? ⟨w.heap.size, 4, none⟩ = some e := by simp

theorem ref_write (b0 base : Nat) (M : RLay) (D : RefSt) (i : Int) (b : ByteArray) (w : World) (h : RefIs b0 base w M D) (ok : D.Fits) (hbase : base ≤ w.heap.size) :
    Calls Try.prog 22 #[.pointer (some ⟨M.md, 0, none⟩), .int .i64 i, .string b] w fun e w' => e = .returned (.int .i64 (D.writes i b)) ∧ RefTo b0 base w M (D.wrote i b) w' := by
  unfold RefSt.writes RefSt.wrote
  cases hf : D.fits i b with
  | false =>
    rw [if_neg (by simp), if_neg (by simp)]
    exact (ref_write_no b0 base M D i b w h hf).mono fun e w' ⟨he, hw⟩ => ⟨he, hw ▸ h.to⟩
  | true =>
    rw [if_pos rfl, if_pos rfl]
    cases hb : D.fuse.blowsNow with
    | true =>
      rw [if_pos rfl, if_pos rfl]
      exact ref_write_halt b0 base M D i b w h hf hb ok.fuse
    | false =>
      rw [if_neg (by simp), if_neg (by simp)]
      exact ref_write_ok b0 base M D i b w h hf hb ok.fuse hbase (by have := ok.num1; omega) (by have := ok.few; omega) (by have := ok.same; have := ok.few; omega)
theorem same_of {P : Program} {g : FuncId} {args : Array Value} {w : World} {E : Ending} (h : Calls P g args w fun e w' => e = E ∧ w = w') : Calls P g args w fun e w' => e = E ∧ w' = w :=
  h.mono fun _ _ ⟨he, hw⟩ => ⟨he, hw.symm⟩
theorem alloc_cell {w : World} (o : Obj) {b : Nat} (i : Nat) (v : Value) (h : b < w.heap.size) (hc : w.cell? ⟨b, i, none⟩ = some v) : (w.alloc o).cell? ⟨b, i, none⟩ = some v :=
  (World.cell?_of_block (a := ⟨b, i, none⟩) (Below.heap_alloc w o b h)).trans hc

theorem duo_write {w0 w : World} {base : Nat} {L : Lay} {M : RLay} {D : DiskSt} {R : RefSt} (h : Pair w0 base w L M D R) (i : Int) (b : ByteArray) (hc : D.fuse.count < 1000000000) (hn : D.opn.length < 1000000) :
    Calls Try.prog 11 #[.pointer (some ⟨L.bd, 0, none⟩), .int .i64 i, .string b] w fun e w' => e = .returned (.int .i64 (D.writes i b)) ∧ ∃ ov, Pair w0 base w' { L with ov := ov } M (D.wrote i b) R ∧ Kept L.fp w w' :=
  (disk_write w0.heap.size L D i b w h.d h.good.fuse h.good.few).mono fun e w' ⟨he, k⟩ => ⟨he, h.impl k (good_wrote h.good i b hc hn)⟩
theorem duo_flush {w0 w : World} {base : Nat} {L : Lay} {M : RLay} {D : DiskSt} {R : RefSt} (h : Pair w0 base w L M D R) (hc : D.fuse.count < 1000000000) :
    Calls Try.prog 13 #[.pointer (some ⟨L.bd, 0, none⟩)] w fun e w' => e = .returned (.int .i64 D.flushes) ∧ ∃ ov, Pair w0 base w' { L with ov := ov } M D.flushed R ∧ Kept L.fp w w' :=
  (disk_flush w0.heap.size L D w h.d h.good).mono fun e w' ⟨he, k⟩ => ⟨he, h.impl k (good_flushed h.good hc)⟩
theorem duo_crash {w0 w : World} {base : Nat} {L : Lay} {M : RLay} {D : DiskSt} {R : RefSt} (h : Pair w0 base w L M D R) (keep torn : Int) (hk0 : 0 ≤ keep) (hk1 : keep ≤ 18446744073709551615) :
    Calls Try.prog 14 #[.pointer (some ⟨L.bd, 0, none⟩), .int .u64 keep, .int .i64 torn] w fun e w' => e = .returned (.tuple #[]) ∧ ∃ ov, Pair w0 base w' { L with ov := ov } M (D.crashed keep.toNat torn) R ∧ Kept L.fp w w' :=
  (disk_crash w0.heap.size L D keep torn w h.d h.good hk0 hk1).mono fun e w' ⟨he, k⟩ => ⟨he, h.impl k (good_crashed h.good _ _)⟩
theorem duo_rwrite {w0 w : World} {base : Nat} {L : Lay} {M : RLay} {D : DiskSt} {R : RefSt} (h : Pair w0 base w L M D R) (ok : R.Fits) (i : Int) (b : ByteArray) :
    Calls Try.prog 22 #[.pointer (some ⟨M.md, 0, none⟩), .int .i64 i, .string b] w fun e w' => e = .returned (.int .i64 (R.writes i b)) ∧ ∃ lv nv wv tv, Pair w0 base w' L { M with lv := lv, nv := nv, wv := wv, tv := tv } D (R.wrote i b) ∧ Kept M.fp w w' :=
  (ref_write w0.heap.size base M R i b w h.r ok h.bw).mono fun e w' ⟨he, k⟩ => ⟨he, h.ref k⟩
theorem duo_rflush {w0 w : World} {base : Nat} {L : Lay} {M : RLay} {D : DiskSt} {R : RefSt} (h : Pair w0 base w L M D R) (ok : R.Fits) :
    Calls Try.prog 23 #[.pointer (some ⟨M.md, 0, none⟩)] w fun e w' => e = .returned (.int .i64 R.flushes) ∧ ∃ lv nv wv tv, Pair w0 base w' L { M with lv := lv, nv := nv, wv := wv, tv := tv } D R.flushed ∧ Kept M.fp w w' :=
  (ref_flush w0.heap.size base M R w h.r ok.fuse).mono fun e w' ⟨he, k⟩ => ⟨he, h.ref k⟩
theorem duo_rcrash {w0 w : World} {base : Nat} {L : Lay} {M : RLay} {D : DiskSt} {R : RefSt} (h : Pair w0 base w L M D R) (ok : R.Fits) (keep torn : Int) (hk0 : 0 ≤ keep) (hk1 : keep ≤ 18446744073709551615) :
    Calls Try.prog 24 #[.pointer (some ⟨M.md, 0, none⟩), .int .u64 keep, .int .i64 torn] w fun e w' => e = .returned (.tuple #[]) ∧ ∃ lv nv wv tv, Pair w0 base w' L { M with lv := lv, nv := nv, wv := wv, tv := tv } D (R.crashed keep.toNat torn) ∧ Kept M.fp w w' :=
  (ref_crash w0.heap.size base M R keep torn w h.r ok hk0 hk1 h.bw).mono fun e w' ⟨he, k⟩ => ⟨he, h.ref k⟩
theorem Pair.cell0 {w0 w : World} {base : Nat} {L : Lay} {M : RLay} {D : DiskSt} {R : RefSt} (h : Pair w0 base w L M D R) : w.cell? ⟨M.md, 0, none⟩ = some (.int .i64 (R.size : Int)) := by
  have q0 := h.r.disk.cell 0
  simpa using q0
theorem wrote_count (D : DiskSt) (i : Int) (b : ByteArray) : (D.wrote i b).fuse.count ≤ D.fuse.count + 1 ∧ (D.wrote i b).opn.length ≤ D.opn.length + 1 := by
  have := spend_count D.fuse
  unfold DiskSt.wrote
  split
  · split <;> simp <;> omega
  · omega
theorem flushed_count (D : DiskSt) : D.flushed.fuse.count ≤ D.fuse.count + 1 ∧ D.flushed.opn.length ≤ D.opn.length := by
  have := spend_count D.fuse
  unfold DiskSt.flushed
  split <;> simp <;> omega
theorem rwrote_size (R : RefSt) (i : Int) (b : ByteArray) : (R.wrote i b).size = R.size := by
  unfold RefSt.wrote
  split
  · split <;> rfl
  · rfl
theorem same_cell {S : Nat → Prop} {w w' : World} {b i : Nat} {v : Value} (k : Kept S w w') (hb : b < w.heap.size) (hn : ¬ S b) (h : w.cell? ⟨b, i, none⟩ = some v) : w'.cell? ⟨b, i, none⟩ = some v :=
  k.cell' b i v hb hn h

set_option maxRecDepth 100000 in
set_option maxHeartbeats 4000000 in
theorem plays_any (sz num : Int) (a : Option Addr) (len cap : Nat) (f : Nat → ActV) (w0 : World) (ha : ActsAt w0 a len f) :
    Calls Try.prog 7 #[.agg #[.int .i64 sz, .int .i64 num], .slice a len cap] w0 fun e w' => e = .returned (.bool true) ∧ Below w0.heap.size w0 w' := by
  by_cases hout : 100 < len ∨ 40 < num
  · have hcases : 100 < len ∨ (¬ 100 < len ∧ 40 < num) := by omega
    clear hout
    rcases hcases with h1 | ⟨h1, h2⟩
    all_goals
      go_enter Try.func7, Try.ntmps7
      go_wp2_with fail
      refine (fuse_new' _).mono ?_
      rintro e w1 ⟨rfl, hf, hb1⟩
      have c1 := (hb1.cell (p := ⟨w0.heap.size, 1, none⟩) (by simp)).trans (box_1 _ _ _ _)
      have lt1 : w0.heap.size < w1.heap.size := by have := hb1.size; simp at this; omega
      have hb1' : Below w0.heap.size w0 w1 := ((Below.refl _ _).alloc (Nat.le_refl _) _).trans (hb1.mono (by simp))
      go_wp2_with fail
      refine (awake_any _).mono ?_
      rintro e w2 ⟨rfl, hb2⟩
      have c2 := (hb2.cell (p := ⟨w0.heap.size, 1, none⟩) (by simp; omega)).trans (alloc_cell _ _ _ lt1 c1)
      have hb2' : Below w0.heap.size w0 w2 := (hb1'.alloc (by omega) _).trans (hb2.mono (by simp; omega))
      have lt2 := hb2'.size
      go_wp2_with fail
      refine (awake_any _).mono ?_
      rintro e w3 ⟨rfl, hb3⟩
      go_wp2_with fail
      go_ret
      exact ⟨rfl, hb2'.trans (hb3.mono lt2)⟩
  · have h1 : ¬ 100 < len := by omega
    have h2 : ¬ 40 < num := by omega
    clear hout
    go_enter Try.func7, Try.ntmps7
    go_wp2_with fail
    refine (fuse_new' _).mono ?_
    rintro e w1 ⟨rfl, hf, hb1⟩
    have c0 := (hb1.cell (p := ⟨w0.heap.size, 0, none⟩) (by simp)).trans (box_0 _ _ _ _)
    have c1 := (hb1.cell (p := ⟨w0.heap.size, 1, none⟩) (by simp)).trans (box_1 _ _ _ _)
    have lt1 : w0.heap.size < w1.heap.size := by have := hb1.size; simp at this; omega
    have hb1' : Below w0.heap.size w0 w1 := ((Below.refl _ _).alloc (Nat.le_refl _) _).trans (hb1.mono (by simp))
    rw [World.size_alloc] at hf
    go_wp2_with fail
    refine (awake_any _).mono ?_
    rintro e w2 ⟨rfl, hb2⟩
    have hg1 : RFuseIs (w1.alloc (.cells RFuse.fresh.cells 47)) w1.heap.size RFuse.fresh := Blk.new w1 _ 47
    have hg2 : RFuseIs w2 w1.heap.size RFuse.fresh := Blk.kept hg1 (Kept.of_below hb2 (fun _ => False)) id
    have hf2 : FuseIs w2 (w0.heap.size + 1) FuseSt.fresh := Blk.kept (Blk.alloc hf (.cells RFuse.fresh.cells 47)) (Kept.of_below hb2 (fun _ => False)) id
    have c0 := (hb2.cell (p := ⟨w0.heap.size, 0, none⟩) (by simp; omega)).trans (alloc_cell _ _ _ lt1 c0)
    have c1 := (hb2.cell (p := ⟨w0.heap.size, 1, none⟩) (by simp; omega)).trans (alloc_cell _ _ _ lt1 c1)
    have hb2' : Below w0.heap.size w0 w2 := (hb1'.alloc (by omega) _).trans (hb2.mono (by simp; omega))
    have lt2 := hb2'.size
    have lt3 := Blk.lt hg2
    have lt4 := Blk.lt hf2
    clear hg1 hf hb1 hb1' hb2
    go_wp2_with fail
    generalize w1.heap.size = MF at *
    have hsim := Sim.fresh sz num FSim.fresh rfresh_ok
    go_region_held3 (fun w' => w'.cell? ⟨w0.heap.size, 0, none⟩ = some (.int .i64 sz) ∧ w'.cell? ⟨w0.heap.size, 1, none⟩ = some (.int .i64 num))
      (first | exact ⟨c0, c1⟩ | exact ⟨y0, y1⟩ | exact ⟨z0, z1⟩)
      (first
        | (go_at_call 10; refine (disk_new sz num (w0.heap.size + 1) FuseSt.fresh _ (Blk.drew hf2) w0.heap.size (by omega) lt2).mono ?_; rintro e w3 ⟨rfl, hD3, hB3⟩; have y0 := below_cell hB3 _ _ _ (show w0.heap.size < w2.drew.heap.size by simp; omega) c0; have y1 := below_cell hB3 _ _ _ (show w0.heap.size < w2.drew.heap.size by simp; omega) c1; have hg3 : RFuseIs w3 MF RFuse.fresh := Blk.kept (Blk.drew hg2) (Kept.of_below hB3 (fun _ => False)) id; have lt5 := hB3.size)
        | (go_at_call 19; refine (ref_new w0.heap.size sz num MF RFuse.fresh w3 hg3 (by omega) (by simp at lt5; omega)).mono ?_; rintro e w4 ⟨rfl, ⟨lv, nv, hR4⟩, hB4⟩; have z0 := below_cell hB4 _ _ _ (show w0.heap.size < w3.heap.size by simp at lt5; omega) y0; have z1 := below_cell hB4 _ _ _ (show w0.heap.size < w3.heap.size by simp at lt5; omega) y1))
    have P4 : Pair w0 w3.heap.size w4 ⟨w2.heap.size, w2.heap.size + 1, w0.heap.size + 1, .slice none 0 0⟩ ⟨w3.heap.size, MF, lv, nv, .slice none 0 0, .slice none 0 0⟩ (DiskSt.fresh sz num FuseSt.fresh) (RefSt.fresh sz num RFuse.fresh) :=
      ⟨hD3.kept (Kept.of_below hB4 (fun _ => False)) (fun _ _ => id), hR4, hD3.secs.lt, hB4.size, ((hb2'.drew).trans (hB3.mono (by simpa using lt2))).trans (hB4.mono (by simp at lt5; omega)), good_fresh sz num fresh_ok⟩
    have n1 : (DiskSt.fresh sz num FuseSt.fresh).opn.length ≤ 0 := Nat.le_refl _
    have n2 : (DiskSt.fresh sz num FuseSt.fresh).fuse.count ≤ 0 := Int.le_refl _
    generalize DiskSt.fresh sz num FuseSt.fresh = D at *
    generalize RefSt.fresh sz num RFuse.fresh = R at *
    clear hD3 hR4 hB3 hB4 hg3 hg2 hf2 c0 c1 y0 y1 z0 z1 hb2' lt1 lt2 lt3 lt4 lt5
    generalize w2.heap.size = BD at *
    generalize w3.heap.size = MD at *
    go_upto_region 5 with fail
    have q := P4.r
    obtain ⟨na, nc, hnv⟩ := owns_form q.now
    simp only at hnv
    subst hnv
    have q0 := q.disk.cell 0
    have q2 := q.disk.cell 2
    simp only [hsim.size] at q0
    simp only [hsim.now, now_length] at q2
    simp at q0 q2
    have hs1 : ((D.size : Int) != (D.size : Int)) = false := by simp
    have hs2 : ((D.secs.length : Int) != (D.secs.length : Int)) = false := by simp
    go_region_held3 (fun w' => w'.cell? ⟨MD, 0, none⟩ = some (.int .i64 (D.size : Int)) ∧ w'.cell? ⟨MD, 2, none⟩ = some (.slice na D.secs.length nc))
      (exact ⟨q0, q2⟩)
      (first
        | (go_at_call 20; refine (disk_size _ _ _ _ P4.drew.d).mono ?_; rintro e w5 ⟨rfl, rfl⟩)
        | (go_at_call 21; refine (disk_len _ _ _ _ P4.drew.d).mono ?_; rintro e w5 ⟨rfl, rfl⟩))
    have P5 := P4.drew
    clear q q0 q2 hs1 hs2 P4
    go_wp2_with fail
    go_loopw [72] (fun i wr => ∃ k : Nat, k ≤ len ∧ i = .int .i64 (k : Int) ∧ ∃ ov lv nv wv tv D R, Pair w0 MD wr ⟨BD, BD + 1, w0.heap.size + 1, ov⟩ ⟨MD, MF, lv, nv, wv, tv⟩ D R ∧ Sim D R ∧ D.opn.length ≤ k ∧ D.fuse.count ≤ k)
      (fun i _ => len - (intOf i).toNat)
    case atStart => exact ⟨0, Nat.zero_le _, rfl, _, _, _, _, _, D, R, P5, hsim, n1, n2⟩
    case round =>
      clear P5 hsim n1 n2
      obtain ⟨k, hk, rfl, ov, lv', nv, wv, tv, D, R, hP, hS, n1, n2⟩ := hrel
      by_cases hlt : k < len
      · obtain ⟨ab, ao, haa, hab⟩ := ha.addr (by omega)
        subst haa
        obtain ⟨x0, x1, x2, x3, x4, hk0, hk1, hn0, hn1⟩ := (ha.at_ k hlt ab ao rfl).below hP.below hab
        generalize (f k).kind = A0 at *
        generalize (f k).at_ = A1 at *
        generalize (f k).n = A2 at *
        generalize (f k).b = A3 at *
        generalize (f k).keep = A4 at *
        have z0 := box5_0 wr (.int .i64 A0) (.int .i64 A1) (.int .i64 A2) (.int .u8 (A3.toNat : Int)) (.int .u64 A4) 34
        have z1 := box5_1' wr (.int .i64 A0) (.int .i64 A1) (.int .i64 A2) (.int .u8 (A3.toNat : Int)) (.int .u64 A4) 34
        have z2 := box5_2 wr (.int .i64 A0) (.int .i64 A1) (.int .i64 A2) (.int .u8 (A3.toNat : Int)) (.int .u64 A4) 34
        have z3 := box5_3' wr (.int .i64 A0) (.int .i64 A1) (.int .i64 A2) (.int .u8 (A3.toNat : Int)) (.int .u64 A4) 34
        have z4 := box5_4 wr (.int .i64 A0) (.int .i64 A1) (.int .i64 A2) (.int .u8 (A3.toNat : Int)) (.int .u64 A4) 34
        have hbx : wr.heap.size < (wr.alloc (.cells #[.int .i64 A0, .int .i64 A1, .int .i64 A2, .int .u8 (A3.toNat : Int), .int .u64 A4] 34)).heap.size := by simp
        have P1 := hP.alloc (.cells #[.int .i64 A0, .int .i64 A1, .int .i64 A2, .int .u8 (A3.toNat : Int), .int .u64 A4] 34)
        have nL : ¬ Lay.fp ⟨BD, BD + 1, w0.heap.size + 1, ov⟩ wr.heap.size := fun h => Nat.lt_irrefl _ (hP.d.fp_lt _ h)
        have nM : ¬ (wr.heap.size = MD ∨ wr.heap.size = MF) := by
          rintro (e | e)
          · exact absurd hP.r.disk.lt (by simp only; omega)
          · exact absurd (Blk.lt hP.r.fuse) (by simp only; omega)
        clear hP
        go_upto_block 2 with fail
        clear x0 x1 x2 x3 x4
        generalize wr.alloc (.cells #[.int .i64 A0, .int .i64 A1, .int .i64 A2, .int .u8 (A3.toNat : Int), .int .u64 A4] 34) = wb at *
        generalize wr.heap.size = BX at *
        go_cut [11] (fun t11 wx => t11 = .bool true ∧ ∃ ov lv nv wv tv D R, Pair w0 MD wx ⟨BD, BD + 1, w0.heap.size + 1, ov⟩ ⟨MD, MF, lv, nv, wv, tv⟩ D R ∧ Sim D R ∧ D.opn.length ≤ k + 1 ∧ D.fuse.count ≤ k + 1)
        case first =>
          have okR := hS.isFits P1.good (by omega)
          have zd := P1.cell0
          rw [hS.size] at zd
          have hc : D.fuse.count < 1000000000 := by omega
          have hn : D.opn.length < 1000000 := by omega
          by_cases k1 : A0 = 1
          · subst k1
            go_wp2_with fail
            go_region_held3 (fun w' => w'.cell? ⟨BX, 1, none⟩ = some (.int .i64 A1) ∧ w'.cell? ⟨BX, 3, none⟩ = some (.int .u8 (A3.toNat : Int)) ∧ w'.cell? ⟨MD, 0, none⟩ = some (.int .i64 (D.size : Int)))
              (first | exact ⟨z1, z3, zd⟩ | exact ⟨y1, y3, yd⟩ | exact ⟨v1, v3, vd⟩ | exact ⟨u1, u3, ud⟩ | exact ⟨t1, t3, td⟩)
              (first
                | (go_at_call 11; refine (duo_write PF A1 (rep A3 D.size) hc hn).mono ?_; rintro e w5 ⟨rfl, ov5, PW, KW⟩; have v1 := same_cell KW (Nat.lt_of_lt_of_le hbx hBF.size) nL y1; have v3 := same_cell KW (Nat.lt_of_lt_of_le hbx hBF.size) nL y3; have vd := PW.cell0; rw [hS.size] at vd)
                | (go_at_call 22; refine (duo_rwrite PG okR A1 (rep A3 D.size)).mono ?_; rintro e w7 ⟨rfl, lv7, nv7, wv7, tv7, PE, KE⟩; have t1 := same_cell KE (Nat.lt_of_lt_of_le hbx (Nat.le_trans (Nat.le_trans hBF.size KW.size) hBG.size)) nM u1; have t3 := same_cell KE (Nat.lt_of_lt_of_le hbx (Nat.le_trans (Nat.le_trans hBF.size KW.size) hBG.size)) nM u3; have td := PE.cell0; rw [rwrote_size, hS.size] at td)
                | (go_at_call 12; refine (fill_at A3 (D.size : Int) D.size (fillLen_nat D.size (by have := P1.good.size1; omega)) w5).mono ?_; rintro e w6 ⟨rfl, hBG⟩; have PG := PW.more hBG; have u1 := below_cell hBG _ _ _ (Nat.lt_of_lt_of_le hbx (Nat.le_trans hBF.size KW.size)) v1; have u3 := below_cell hBG _ _ _ (Nat.lt_of_lt_of_le hbx (Nat.le_trans hBF.size KW.size)) v3; have ud := PG.cell0; rw [hS.size] at ud)
                | (go_at_call 12; refine (fill_at A3 (D.size : Int) D.size (fillLen_nat D.size (by have := P1.good.size1; omega)) wb.drew).mono ?_; rintro e w4 ⟨rfl, hBF⟩; have PF := P1.drew.more hBF; have y1 := below_cell hBF _ _ _ hbx z1; have y3 := below_cell hBF _ _ _ hbx z3; have yd := PF.cell0; rw [hS.size] at yd))
            have hx : (D.writes A1 (rep A3 D.size) == R.writes A1 (rep A3 D.size)) = true := by rw [hS.writes]; simp
            have := wrote_count D A1 (rep A3 D.size)
            go_wp2
            go_meet
            exact ⟨congrArg Value.bool hx, _, _, _, _, _, _, _, PE, hS.wrote _ _ hc, by omega, by omega⟩
          have b1 : (A0 == 1) = false := by simp [k1]
          by_cases k2 : A0 = 2
          · subst k2
            go_wp2_with fail
            refine (duo_flush P1 hc).mono ?_
            rintro e w5 ⟨rfl, ov5, P5, _⟩
            go_wp2_with fail
            refine (duo_rflush P5 okR).mono ?_
            rintro e w6 ⟨rfl, lv6, nv6, wv6, tv6, P6, _⟩
            have hx : (D.flushes == R.flushes) = true := by rw [hS.flushes]; simp
            go_wp2
            go_meet
            have := flushed_count D
            exact ⟨rfl, _, _, _, _, _, _, _, P6, hS.flushed hc, by omega, by omega⟩
          have b2 : (A0 == 2) = false := by simp [k2]
          by_cases k3 : A0 = 3
          · subst k3
            go_wp2_with fail
            refine (duo_crash P1 A4 A2 hk0 hk1).mono ?_
            rintro e w5 ⟨rfl, ov5, P5, K5⟩
            have z4 := same_cell K5 hbx nL z4
            have z2 := same_cell K5 hbx nL z2
            go_wp2_with fail
            refine (duo_rcrash P5 okR A4 A2 hk0 hk1).mono ?_
            rintro e w6 ⟨rfl, lv6, nv6, wv6, tv6, P6, _⟩
            go_wp2
            go_meet
            exact ⟨rfl, _, _, _, _, _, _, _, P6, hS.crashed _ _, Nat.zero_le _, by simp only [DiskSt.crashed, FuseSt.reset]; omega⟩
          have b3 : (A0 == 3) = false := by simp [k3]
          by_cases k4 : A0 = 4
          · subst k4
            go_wp2_with fail
            refine (fuse_arm _ D.fuse A2 wb P1.d.fuse).mono ?_
            rintro e w5 ⟨rfl, k5⟩
            obtain ⟨P5, K5⟩ := P1.fuseI k5 (arm_ok P1.good.fuse A2 hn1)
            have z2 := same_cell K5 hbx nL z2
            go_wp2_with fail
            refine (rfuse_arm _ R.fuse A2 w5 P5.r.fuse).mono ?_
            rintro e w6 ⟨rfl, k6⟩
            obtain ⟨P6, K6⟩ := P5.fuseR k6
            go_wp2
            go_meet
            exact ⟨rfl, _, _, _, _, _, _, _, P6, hS.fused (hS.fuse.arm A2) (rarm_ok hS.ok A2 hn1), by simp only; omega, by simp only [FuseSt.arm]; omega⟩
          have b4 : (A0 == 4) = false := by simp [k4]
          by_cases k5 : A0 = 5
          · subst k5
            go_wp2_with fail
            go_region_held3 (fun w' => w'.cell? ⟨BX, 1, none⟩ = some (.int .i64 A1) ∧ w'.cell? ⟨BX, 3, none⟩ = some (.int .u8 (A3.toNat : Int)) ∧ w'.cell? ⟨BX, 2, none⟩ = some (.int .i64 A2))
              (first | exact ⟨z1, z3, z2⟩ | exact ⟨y1, y3, yd⟩ | exact ⟨v1, v3, vd⟩ | exact ⟨u1, u3, ud⟩ | exact ⟨t1, t3, td⟩)
              (first
                | (go_at_call 11; refine (duo_write PF A1 (rep A3 (fillLen A2)) hc hn).mono ?_; rintro e w5 ⟨rfl, ov5, PW, KW⟩; have v1 := same_cell KW (Nat.lt_of_lt_of_le hbx hBF.size) nL y1; have v3 := same_cell KW (Nat.lt_of_lt_of_le hbx hBF.size) nL y3; have vd := same_cell KW (Nat.lt_of_lt_of_le hbx hBF.size) nL yd)
                | (go_at_call 22; refine (duo_rwrite PG okR A1 (rep A3 (fillLen A2))).mono ?_; rintro e w7 ⟨rfl, lv7, nv7, wv7, tv7, PE, KE⟩; have t1 := same_cell KE (Nat.lt_of_lt_of_le hbx (Nat.le_trans (Nat.le_trans hBF.size KW.size) hBG.size)) nM u1; have t3 := same_cell KE (Nat.lt_of_lt_of_le hbx (Nat.le_trans (Nat.le_trans hBF.size KW.size) hBG.size)) nM u3; have td := same_cell KE (Nat.lt_of_lt_of_le hbx (Nat.le_trans (Nat.le_trans hBF.size KW.size) hBG.size)) nM ud)
                | (go_at_call 12; refine (fill_at A3 A2 (fillLen A2) rfl w5).mono ?_; rintro e w6 ⟨rfl, hBG⟩; have PG := PW.more hBG; have u1 := below_cell hBG _ _ _ (Nat.lt_of_lt_of_le hbx (Nat.le_trans hBF.size KW.size)) v1; have u3 := below_cell hBG _ _ _ (Nat.lt_of_lt_of_le hbx (Nat.le_trans hBF.size KW.size)) v3; have ud := below_cell hBG _ _ _ (Nat.lt_of_lt_of_le hbx (Nat.le_trans hBF.size KW.size)) vd)
                | (go_at_call 12; refine (fill_at A3 A2 (fillLen A2) rfl wb.drew).mono ?_; rintro e w4 ⟨rfl, hBF⟩; have PF := P1.drew.more hBF; have y1 := below_cell hBF _ _ _ hbx z1; have y3 := below_cell hBF _ _ _ hbx z3; have yd := below_cell hBF _ _ _ hbx z2))
            have hx : (D.writes A1 (rep A3 (fillLen A2)) == R.writes A1 (rep A3 (fillLen A2))) = true := by rw [hS.writes]; simp
            have := wrote_count D A1 (rep A3 (fillLen A2))
            go_wp2
            go_meet
            exact ⟨congrArg Value.bool hx, _, _, _, _, _, _, _, PE, hS.wrote _ _ hc, by omega, by omega⟩
          have b5 : (A0 == 5) = false := by simp [k5]
          go_wp2
          go_meet
          exact ⟨rfl, _, _, _, _, _, _, _, P1, hS, by omega, by omega⟩
        case rest =>
          obtain ⟨rfl, ov, lv', nv, wv, tv, D, R, P1, hS, n1, n2⟩ := hcut
          have q := P1.r
          obtain ⟨wa, wcap, hwv⟩ := owns_form q.wh
          obtain ⟨na, nc, hnv⟩ := owns_form q.now
          simp only at hwv hnv
          subst hwv hnv
          have q2 := q.disk.cell 2
          have q3 := q.disk.cell 3
          have f2 := Blk.cell q.fuse 2
          have f3 := Blk.cell q.fuse 3
          simp only [hS.now, now_length] at q2
          simp only [hS.wh, List.length_map] at q3
          simp at q2 q3
          simp [RFuse.cells] at f2 f3
          rw [hS.fuse.blown] at f2
          rw [hS.fuse.count] at f3
          have e1 : ((D.opn.length : Int) != (D.opn.length : Int)) = false := by simp
          have e2 : (D.fuse.blown != D.fuse.blown) = false := by simp
          have e3 : (D.fuse.count != D.fuse.count) = false := by simp
          have s1 := P1.good.num1
          clear q
          go_wp2_with fail
          go_region_held3 (fun w' => w'.cell? ⟨MD, 3, none⟩ = some (.slice wa D.opn.length wcap) ∧ w'.cell? ⟨MF, 2, none⟩ = some (.bool D.fuse.blown) ∧ w'.cell? ⟨MF, 3, none⟩ = some (.int .i64 D.fuse.count))
            (exact ⟨q3, f2, f3⟩)
            (first
              | (go_at_call 16; refine (disk_open _ _ _ _ P1.drew.d).mono ?_; rintro e w5 ⟨rfl, rfl⟩)
              | (go_at_call 18; refine (fuse_blown _ _ _ P1.drew.d.fuse).mono ?_; rintro e w5 ⟨rfl, rfl⟩)
              | (go_at_call 26; refine (fuse_count _ _ _ P1.drew.d.fuse).mono ?_; rintro e w5 ⟨rfl, rfl⟩))
          have P5 := P1.drew
          clear P1 e1 e2 e3
          go_wp2_with fail
          go_loopw [191] (fun i wr => ∃ j : Nat, j ≤ D.secs.length + 1 ∧ i = .int .i64 (j : Int) ∧ Pair w0 MD wr ⟨BD, BD + 1, w0.heap.size + 1, ov⟩ ⟨MD, MF, lv', .slice na R.now.length nc, .slice wa R.wh.length wcap, tv⟩ D R)
            (fun i _ => D.secs.length + 1 - (intOf i).toNat)
          case atStart => exact ⟨0, by omega, rfl, P5⟩
          case round =>
            obtain ⟨j, hj, rfl, hR⟩ := hrel
            clear P5
            by_cases hj8 : j < D.secs.length + 1
            · have CD := disk_read _ _ _ (j : Int) _ hR.d hR.good.few
              have CR := ref_read _ _ _ _ (j : Int) _ hR.r
              rw [hS.reads] at CR
              generalize (D.reads (j : Int)).1 = s at CD CR
              generalize (D.reads (j : Int)).2 = c at CD CR
              go_wp2_with fail
              refine CD.mono ?_
              rintro e w6 ⟨rfl, rfl⟩
              go_wp2_with fail
              refine CR.mono ?_
              rintro e w7 ⟨rfl, rfl⟩
              have e2 : (c != c) = false := by simp
              go_wp2
              go_roundw
              case rel => exact ⟨j + 1, by omega, by go_num, hR⟩
              case measure => simp [intOf]; omega
            · go_wp2
              go_roundw
              case rel => exact ⟨k + 1, by omega, by go_num, _, _, _, _, _, _, _, hR, hS, n1, n2⟩
              case measure => simp [intOf]; omega
      · clear ha
        go_wp2
        go_ret
        exact ⟨rfl, hP.below⟩
end Go.Proofs.Ytbajhplblnemnaa
