/- One disk, made by the call itself: its calls' contracts in one form. -/
import Derived.Test.YtbajhplblnemnaaNew
namespace Go.Proofs.Ytbajhplblnemnaa
open Go.RowKit
set_option linter.unusedVariables false

theorem spend_ok {F : FuseSt} (h : F.Ok) (hc : F.count < 1000000000) : F.spend.Ok := by
  obtain ⟨a, b, c, d⟩ := h
  unfold FuseSt.spend
  split
  · refine ⟨?_, ?_, ?_, ?_⟩ <;> simp only <;> first | omega | (split <;> omega)
  · exact ⟨a, b, c, d⟩
theorem arm_ok {F : FuseSt} (h : F.Ok) (n : Int) (hn : n ≤ 9223372036854775807) : (F.arm n).Ok := by
  obtain ⟨a, b, c, d⟩ := h
  unfold FuseSt.arm
  refine ⟨?_, ?_, c, d⟩ <;> simp only <;> split <;> omega
theorem reset_ok {F : FuseSt} (h : F.Ok) : F.reset.Ok := ⟨by simp [FuseSt.reset], by simp [FuseSt.reset], h.c0, h.c1⟩
theorem fresh_ok : FuseSt.fresh.Ok := ⟨by decide, by decide, by decide, by decide⟩
theorem spend_count (F : FuseSt) : F.spend.count ≤ F.count + 1 := by unfold FuseSt.spend; split <;> simp only <;> omega

theorem good_fresh (size n : Int) {F : FuseSt} (h : F.Ok) : (DiskSt.fresh size n F).Good := by
  refine ⟨h, ?_, ?_, ?_, ?_, ?_, ?_, ?_⟩ <;> simp only [DiskSt.fresh, List.length_replicate]
  · unfold sizeOfN; omega
  · unfold sizeOfN; omega
  · unfold numOfN; omega
  · unfold numOfN; omega
  · intro s hs
    rw [(List.mem_replicate.1 hs).2, rep_size]
  · intro x hx; simp at hx
  · simp

theorem good_wrote {D : DiskSt} (h : D.Good) (i : Int) (b : ByteArray) (hc : D.fuse.count < 1000000000) (hn : D.opn.length < 1000000) : (D.wrote i b).Good := by
  unfold DiskSt.wrote
  split
  · rename_i hf
    obtain ⟨f1, f2, f3, f4⟩ := fits_parts hf
    split
    · refine ⟨spend_ok h.fuse hc, h.size0, h.size1, h.num0, h.num1, h.secs, ?_, ?_⟩
      · intro x hx
        rcases List.mem_append.1 hx with hx | hx
        · exact h.opn x hx
        · simp only [List.mem_singleton] at hx
          subst hx
          exact ⟨by simp only; omega, f2⟩
      · simp only [List.length_append, List.length_singleton]; omega
    · exact ⟨spend_ok h.fuse hc, h.size0, h.size1, h.num0, h.num1, h.secs, h.opn, h.few⟩
  · exact h

theorem good_flushed {D : DiskSt} (h : D.Good) (hc : D.fuse.count < 1000000000) : D.flushed.Good := by
  unfold DiskSt.flushed
  split
  · refine ⟨spend_ok h.fuse hc, h.size0, h.size1, ?_, ?_, ?_, by simp, by simp⟩
    · simp only [lay_length]; exact h.num0
    · simp only [lay_length]; exact h.num1
    · exact lay_sizes h.secs fun x hx => (h.opn x hx).2
  · exact ⟨spend_ok h.fuse hc, h.size0, h.size1, h.num0, h.num1, h.secs, h.opn, h.few⟩

theorem tear_size {b old : ByteArray} {c n : Nat} (hb : b.size = n) (ho : old.size = n) (hc : c ≤ n) : (tear b old c).size = n := by
  unfold tear
  simp [ByteArray.size_append, ByteArray.size_extract]
  omega
theorem cutOf_le (torn : Int) (size : Nat) : cutOf torn size ≤ size := by unfold cutOf; omega

theorem crashSecs_length (S : List ByteArray) (ks : List (Nat × ByteArray)) (c : Nat) : (crashSecs S ks c).length = S.length := by
  unfold crashSecs
  split
  · rfl
  · simp [lay_length]
theorem crashSecs_sizes {S : List ByteArray} {ks : List (Nat × ByteArray)} {c n : Nat} (hS : ∀ s ∈ S, s.size = n) (hk : ∀ x ∈ ks, x.1 < S.length ∧ x.2.size = n) (hc : c ≤ n) : ∀ s ∈ crashSecs S ks c, s.size = n := by
  unfold crashSecs
  split
  · exact hS
  · rename_i x hx
    have hmem : x ∈ ks := List.mem_of_getLast? hx
    have hl := lay_sizes (l := ks.dropLast) hS fun y hy => (hk y (List.dropLast_subset _ hy)).2
    intro s hs
    rcases List.mem_or_eq_of_mem_set hs with h | h
    · exact hl s h
    · subst h
      refine tear_size (hk x hmem).2 (hl _ ?_) hc
      have : x.1 < (lay S ks.dropLast).length := by rw [lay_length]; exact (hk x hmem).1
      simp [this]

theorem good_crashed {D : DiskSt} (h : D.Good) (keep : Nat) (torn : Int) : (D.crashed keep torn).Good := by
  refine ⟨reset_ok h.fuse, h.size0, h.size1, ?_, ?_, ?_, by simp [DiskSt.crashed], by simp [DiskSt.crashed]⟩
  · simp only [DiskSt.crashed, crashSecs_length]; exact h.num0
  · simp only [DiskSt.crashed, crashSecs_length]; exact h.num1
  · exact crashSecs_sizes h.secs (fun x hx => h.opn x (keptTo_mem (Nat.le_refl _) hx)) (cutOf_le _ _)

/-- One disk among what the call w0 has made. -/
structure One (w0 w : World) (L : Lay) (D : DiskSt) : Prop where
  disk : DiskIs w0.heap.size w L D
  below : Below w0.heap.size w0 w
  good : D.Good

theorem DiskIs.fp_ge {base : Nat} {w : World} {L : Lay} {D : DiskSt} (h : DiskIs base w L D) : ∀ k, L.fp k → base ≤ k := by
  rintro k (rfl | rfl | rfl | hk)
  · exact h.b1
  · exact h.b2
  · exact h.b3
  · exact (h.opn.lt k hk).1
theorem DiskIs.fp_lt {base : Nat} {w : World} {L : Lay} {D : DiskSt} (h : DiskIs base w L D) : ∀ k, L.fp k → k < w.heap.size := by
  rintro k (rfl | rfl | rfl | hk)
  · exact h.disk.lt
  · exact h.secs.lt
  · exact Blk.lt h.fuse
  · exact (h.opn.lt k hk).2

theorem One.to {w0 w w' : World} {L : Lay} {D E : DiskSt} (h : One w0 w L D) (k : DiskTo w0.heap.size w L E w') (g : E.Good) : ∃ ov, One w0 w' { L with ov := ov } E := by
  obtain ⟨ov, k1, k2, _⟩ := k
  exact ⟨ov, k1, h.below.trans (k2.below h.below.size h.disk.fp_ge), g⟩
theorem One.more {w0 w w' : World} {L : Lay} {D : DiskSt} (h : One w0 w L D) (k : Below w.heap.size w w') : One w0 w' L D :=
  ⟨h.disk.kept (Kept.of_below k (fun _ => False)) (fun _ _ => id), h.below.trans (k.mono h.below.size), h.good⟩
theorem One.drew {w0 w : World} {L : Lay} {D : DiskSt} (h : One w0 w L D) : One w0 w.drew L D := ⟨h.disk.drew, h.below.drew, h.good⟩
theorem One.alloc {w0 w : World} {L : Lay} {D : DiskSt} (h : One w0 w L D) (o : Obj) : One w0 (w.alloc o) L D := ⟨h.disk.alloc o, h.below.alloc h.below.size o, h.good⟩

theorem fuse_new' (w : World) : Calls Try.prog 8 #[] w fun e w' => e = .returned (.pointer (some ⟨w.heap.size, 0, none⟩)) ∧ FuseIs w' w.heap.size FuseSt.fresh ∧ Below w.heap.size w w' :=
  (fuse_new w).mono fun e w' ⟨he, hw⟩ => ⟨he, by subst hw; exact ⟨Blk.new w _ 59, (Below.refl _ _).alloc (Nat.le_refl _) _⟩⟩

theorem one_new (w0 w : World) (size n : Int) (bf : Nat) (F : FuseSt) (h : FuseIs w bf F) (hF : F.Ok) (hb : w0.heap.size ≤ bf) (hbl : Below w0.heap.size w0 w) :
    Calls Try.prog 10 #[.int .i64 size, .int .i64 n, .pointer (some ⟨bf, 0, none⟩)] w fun e w' => e = .returned (.pointer (some ⟨w.heap.size, 0, none⟩)) ∧
      One w0 w' ⟨w.heap.size, w.heap.size + 1, bf, .slice none 0 0⟩ (DiskSt.fresh size n F) :=
  (disk_new size n bf F w h w0.heap.size hb hbl.size).mono fun e w' ⟨he, h1, h2⟩ => ⟨he, h1, hbl.trans (h2.mono hbl.size), good_fresh size n hF⟩

theorem one_write {w0 w : World} {L : Lay} {D : DiskSt} (h : One w0 w L D) (i : Int) (b : ByteArray) (hc : D.fuse.count < 1000000000) (hn : D.opn.length < 1000000) :
    Calls Try.prog 11 #[.pointer (some ⟨L.bd, 0, none⟩), .int .i64 i, .string b] w fun e w' => e = .returned (.int .i64 (D.writes i b)) ∧ ∃ ov, One w0 w' { L with ov := ov } (D.wrote i b) :=
  (disk_write w0.heap.size L D i b w h.disk h.good.fuse h.good.few).mono fun e w' ⟨he, k⟩ => ⟨he, h.to k (good_wrote h.good i b hc hn)⟩
theorem one_flush {w0 w : World} {L : Lay} {D : DiskSt} (h : One w0 w L D) (hc : D.fuse.count < 1000000000) :
    Calls Try.prog 13 #[.pointer (some ⟨L.bd, 0, none⟩)] w fun e w' => e = .returned (.int .i64 D.flushes) ∧ ∃ ov, One w0 w' { L with ov := ov } D.flushed :=
  (disk_flush w0.heap.size L D w h.disk h.good).mono fun e w' ⟨he, k⟩ => ⟨he, h.to k (good_flushed h.good hc)⟩
theorem one_crash {w0 w : World} {L : Lay} {D : DiskSt} (h : One w0 w L D) (keep torn : Int) (hk0 : 0 ≤ keep) (hk1 : keep ≤ 18446744073709551615) :
    Calls Try.prog 14 #[.pointer (some ⟨L.bd, 0, none⟩), .int .u64 keep, .int .i64 torn] w fun e w' => e = .returned (.tuple #[]) ∧ ∃ ov, One w0 w' { L with ov := ov } (D.crashed keep.toNat torn) :=
  (disk_crash w0.heap.size L D keep torn w h.disk h.good hk0 hk1).mono fun e w' ⟨he, k⟩ => ⟨he, h.to k (good_crashed h.good _ _)⟩
theorem one_read {w0 w : World} {L : Lay} {D : DiskSt} (h : One w0 w L D) (i : Int) :
    Calls Try.prog 15 #[.pointer (some ⟨L.bd, 0, none⟩), .int .i64 i] w fun e w' => e = .returned (.tuple #[.string (D.reads i).1, .int .i64 (D.reads i).2]) ∧ w = w' :=
  disk_read w0.heap.size L D i w h.disk h.good.few
end Go.Proofs.Ytbajhplblnemnaa
