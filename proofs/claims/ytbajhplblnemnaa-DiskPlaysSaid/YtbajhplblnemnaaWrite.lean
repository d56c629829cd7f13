/- The walk of the disk's Write. -/
import Derived.Test.YtbajhplblnemnaaDisk
namespace Go.Proofs.Ytbajhplblnemnaa
open Go.RowKit

theorem info66 : (Try.prog.info? 66).map (fun i => (i.zero, i.size, i.bytes)) = some (some (.agg #[.int .i64 0, .string ByteArray.empty]), 2, 24) := by kernel_rfl

/-- What a write makes of a disk: its answer, and the disk behind it. -/
def DiskSt.fits (D : DiskSt) (i : Int) (b : ByteArray) : Bool := D.isB i && decide (b.size = D.size)
def DiskSt.wrote (D : DiskSt) (i : Int) (b : ByteArray) : DiskSt :=
  if D.fits i b = true then (if D.fuse.bears = true then { D with opn := D.opn ++ [(i.toNat, b)], fuse := D.fuse.spend } else { D with fuse := D.fuse.spend }) else D
def DiskSt.writes (D : DiskSt) (i : Int) (b : ByteArray) : Int :=
  if D.fits i b = true then (if D.fuse.bears = true then 0 else 2) else 1

/-- What became of a disk: it lies where it lay, but for its open writes' row; nothing else has turned. -/
def DiskTo (base : Nat) (w : World) (L : Lay) (D : DiskSt) (w' : World) : Prop := ∃ ov, DiskIs base w' { L with ov := ov } D ∧ Kept L.fp w w' ∧ ∀ g, ov.ownBlock = some g → L.ov.ownBlock = some g ∨ w.heap.size ≤ g

theorem DiskIs.fuseTo {base : Nat} {w w' : World} {L : Lay} {D : DiskSt} {F : FuseSt} (h : DiskIs base w L D) (k : FuseTo w L.bf F w') : DiskIs base w' L { D with fuse := F } := by
  obtain ⟨k1, k2⟩ := k
  have e1 : ¬ L.bd = L.bf := h.disk.ne h.fuse (by decide)
  have e2 : ¬ L.bs = L.bf := h.secs.ne h.fuse (by decide)
  refine ⟨h.disk.kept k2 e1, h.secs.kept k2 e2, k1, owns_kept h.opn k2 ?_, h.b1, h.b2, h.b3⟩
  intro g hg
  obtain ⟨cur, hc⟩ := owns_blk h.opn hg
  exact hc.ne h.fuse (by decide)

theorem Lay.fp_bf {w w' : World} {L : Lay} {F : FuseSt} (k : FuseTo w L.bf F w') : Kept L.fp w w' := k.2.mono fun _ hk => .inr (.inr (.inl hk))

theorem disk_write_no (base : Nat) (L : Lay) (D : DiskSt) (i : Int) (b : ByteArray) (w : World) (h : DiskIs base w L D) (hf : D.fits i b = false) :
    Calls Try.prog 11 #[.pointer (some ⟨L.bd, 0, none⟩), .int .i64 i, .string b] w fun e w' => e = .returned (.int .i64 1) ∧ w = w' := by
  have c0 := h.disk.cell 0
  simp at c0
  simp only [DiskSt.fits, Bool.and_eq_false_iff, decide_eq_false_iff_not] at hf
  cases hb : D.isB i with
  | false =>
    have HI := disk_is base L D i w h
    rw [hb] at HI
    clear hb hf
    go_enter Try.func11, Try.ntmps11
    go_wp2_with (go_at_call 29; refine HI.mono ?_; rintro e w' ⟨rfl, rfl⟩)
    go_ret
    exact ⟨rfl, rfl⟩
  | true =>
    have HI := disk_is base L D i w h
    rw [hb] at HI
    have hs : ¬ (b.size = D.size) := by rcases hf with h' | h'
                                        · rw [hb] at h'; cases h'
                                        · exact h'
    have hs' : ((b.size : Int) != (D.size : Int)) = true := by simp; omega
    clear hb hf
    go_enter Try.func11, Try.ntmps11
    go_wp2_with (go_at_call 29; refine HI.mono ?_; rintro e w' ⟨rfl, rfl⟩)
    go_ret
    exact ⟨rfl, rfl⟩

theorem fits_parts {D : DiskSt} {i : Int} {b : ByteArray} (hf : D.fits i b = true) : D.isB i = true ∧ b.size = D.size ∧ 0 ≤ i ∧ i < D.secs.length := by
  simp only [DiskSt.fits, Bool.and_eq_true, decide_eq_true_eq] at hf
  refine ⟨hf.1, hf.2, ?_⟩
  simpa [DiskSt.isB] using hf.1

theorem disk_write_halt (base : Nat) (L : Lay) (D : DiskSt) (i : Int) (b : ByteArray) (w : World) (h : DiskIs base w L D) (hf : D.fits i b = true) (hb : D.fuse.bears = false) :
    Calls Try.prog 11 #[.pointer (some ⟨L.bd, 0, none⟩), .int .i64 i, .string b] w fun e w' => e = .returned (.int .i64 2) ∧ DiskTo base w L { D with fuse := D.fuse.spend } w' := by
  obtain ⟨f1, f2, f3, f4⟩ := fits_parts hf
  have c0 := h.disk.cell 0
  have c3 := h.disk.cell 3
  simp at c0 c3
  have HI := disk_is base L D i w h
  rw [f1] at HI
  have HF := fuse_spend_no L.bf D.fuse w h.fuse hb
  have hs' : ((b.size : Int) != (D.size : Int)) = false := by simp; omega
  clear f1 f2 hf hb
  go_enter Try.func11, Try.ntmps11
  go_wp2_with (first | (go_at_call 29; refine HI.mono ?_; rintro e w' ⟨rfl, rfl⟩) | (go_at_call 30; refine HF.mono ?_; rintro e w1 ⟨rfl, hto⟩))
  go_ret
  exact ⟨rfl, L.ov, h.fuseTo hto, Lay.fp_bf hto, fun _ hg => .inl hg⟩

set_option maxHeartbeats 400000 in
theorem disk_write_ok (base : Nat) (L : Lay) (D : DiskSt) (i : Int) (b : ByteArray) (w : World) (h : DiskIs base w L D) (hf : D.fits i b = true) (hb : D.fuse.bears = true) (ok : D.fuse.Ok) (hn : D.opn.length ≤ 1000000) :
    Calls Try.prog 11 #[.pointer (some ⟨L.bd, 0, none⟩), .int .i64 i, .string b] w fun e w' => e = .returned (.int .i64 0) ∧ DiskTo base w L { D with opn := D.opn ++ [(i.toNat, b)], fuse := D.fuse.spend } w' := by
  obtain ⟨f1, f2, f3, f4⟩ := fits_parts hf
  obtain ⟨i, rfl⟩ := Int.eq_ofNat_of_zero_le f3
  obtain ⟨i0, hi, hz0, hz1, hz2⟩ := info_parts info66
  have c0 := h.disk.cell 0
  have c3 := h.disk.cell 3
  simp at c0 c3
  have HI := disk_is base L D i w h
  rw [f1] at HI
  have HF := fuse_spend_yes L.bf D.fuse w h.fuse ok hb
  have hs' : ((b.size : Int) != (D.size : Int)) = false := by simp; omega
  clear f1 f2 hf hb
  go_enter Try.func11, Try.ntmps11
  go_wp2_with (first | (go_at_call 29; refine HI.mono ?_; rintro e w' ⟨rfl, rfl⟩) | (go_at_call 30; refine HF.mono ?_; rintro e w1 ⟨rfl, hto⟩; have h1 := h.fuseTo hto; have d2 := h1.disk.cell 2; simp at d2) | (at_builtin; refine wpList_append_own_f _ rfl (.tmp 32) (.tmp 36) 61 rfl base 66 i0 (.agg #[.int .i64 0, .string ByteArray.empty]) 2 24 Try.underlying61 hi hz0 hz1 hz2 rfl (by decide) _ _ _ rfl (h1.opn.alloc _) ⟨w1.heap.size, 0, none⟩ 1 1 [.int .i64 (i : Int), .string b] rfl rfl ?c1 ?c2 ?c3 ?c4 ?c5 ?_))
  case c1 =>
    intro j u hj
    match j, hj with
    | 0, hj => simp at hj; subst hj; simp [Addr.add]
    | 1, hj => simp at hj; subst hj; simp [Addr.add]
  case c2 =>
    intro u hu
    simp at hu
    rcases hu with rfl | rfl <;> rfl
  case c3 => unfold maxLen; omega
  case c4 => omega
  case c5 => have := h1.disk.lt; have := h1.b1; simp; omega
  intro ov w2 hown2 hg2 hfresh
  obtain ⟨sa, sc, hov⟩ := owns_form hown2
  subst hov
  have hk : Kept L.fp w1 w2 := (((Kept.refl _ _).alloc _).trans (Kept.of_grown hg2 |>.mono fun k hk => .inr (.inr (.inr hk))))
  have hcur : ∀ g, L.ov.ownBlock = some g → ∃ cur, Blk w1 g cur 66 := fun g hg => owns_blk h1.opn hg
  have kg : Kept (fun k => L.ov.ownBlock = some k) w1 w2 := ((Kept.refl _ _).alloc _).trans (Kept.of_grown hg2)
  have d2 : Blk w2 L.bd _ 63 := h1.disk.kept kg (fun e => by obtain ⟨cur, hc⟩ := hcur _ e; exact hc.ne h1.disk (by decide) rfl)
  have s2 : Blk w2 L.bs _ 9 := h1.secs.kept kg (fun e => by obtain ⟨cur, hc⟩ := hcur _ e; exact hc.ne h1.secs (by decide) rfl)
  have f2 : Blk w2 L.bf _ 59 := Blk.kept h1.fuse kg (fun e => by obtain ⟨cur, hc⟩ := hcur _ e; exact hc.ne h1.fuse (by decide) rfl)
  have e2 := d2.cell 2
  have fr2 := d2.frozen ⟨L.bd, 2, none⟩ rfl
  simp at e2
  have hfin : DiskTo base w L { D with opn := D.opn ++ [(i, b)], fuse := D.fuse.spend } (w2.setCell ⟨L.bd, 2, none⟩ (.slice sa (D.opn.length + 1) sc)) := by
    refine ⟨.slice sa (D.opn.length + 1) sc, ⟨?_, s2.setOther (d2.ne s2 (by decide)) _, Blk.setOther f2 (d2.ne f2 (by decide)) _, ?_, h.b1, h.b2, h.b3⟩, ?_, ?_⟩
    · simpa using d2.set 2 (.slice sa (D.opn.length + 1) sc)
    · have := ownsRow_setCell_other hown2 (a := ⟨L.bd, 2, none⟩) (fun e => by obtain ⟨cur, hc⟩ := owns_blk hown2 e; exact hc.ne d2 (by decide) rfl) (.slice sa (D.opn.length + 1) sc)
      simpa [openCells_append, openCells] using this
    · exact ((Lay.fp_bf hto).trans hk).setCell (.inl (.inl rfl)) _
    · intro g hg
      rcases hfresh g hg with h' | h'
      · exact .inl h'
      · have := (Lay.fp_bf hto).size

        exact .inr (by omega)
  clear hown2 hg2 hfresh hk hcur kg d2 s2 f2
  go_wp2
  go_ret
  exact ⟨rfl, hfin⟩

/-- Write, whatever the answer. -/
theorem disk_write (base : Nat) (L : Lay) (D : DiskSt) (i : Int) (b : ByteArray) (w : World) (h : DiskIs base w L D) (ok : D.fuse.Ok) (hn : D.opn.length ≤ 1000000) :
    Calls Try.prog 11 #[.pointer (some ⟨L.bd, 0, none⟩), .int .i64 i, .string b] w fun e w' => e = .returned (.int .i64 (D.writes i b)) ∧ DiskTo base w L (D.wrote i b) w' := by
  unfold DiskSt.writes DiskSt.wrote
  cases hf : D.fits i b with
  | false =>
    rw [if_neg (by simp), if_neg (by simp)]
    exact (disk_write_no base L D i b w h hf).mono fun e w' ⟨he, hw⟩ => ⟨he, hw ▸ ⟨L.ov, h, Kept.refl _ _, fun _ hg => .inl hg⟩⟩
  | true =>
    rw [if_pos rfl, if_pos rfl]
    cases hb : D.fuse.bears with
    | false =>
      rw [if_neg (by simp), if_neg (by simp)]
      exact disk_write_halt base L D i b w h hf hb
    | true =>
      rw [if_pos rfl, if_pos rfl]
      exact disk_write_ok base L D i b w h hf hb ok hn
end Go.Proofs.Ytbajhplblnemnaa
