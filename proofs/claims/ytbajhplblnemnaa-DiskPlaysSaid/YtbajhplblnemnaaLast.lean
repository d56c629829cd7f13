/- The walk of the disk's inner 'last', and of Flush. -/
import Derived.Test.YtbajhplblnemnaaWrite
import Derived.BigRegion
namespace Go.Proofs.Ytbajhplblnemnaa
open Go.RowKit

/-- The sectors behind some writes. -/
def lay (S : List ByteArray) (l : List (Nat × ByteArray)) : List ByteArray := l.foldl (fun S x => S.set x.1 x.2) S
theorem lay_length (S : List ByteArray) (l : List (Nat × ByteArray)) : (lay S l).length = S.length := by
  induction l generalizing S with
  | nil => rfl
  | cons x l ih => simp only [lay, List.foldl_cons] at ih ⊢; rw [ih]; simp
theorem lay_snoc (S : List ByteArray) (l : List (Nat × ByteArray)) (i : Nat) (h : i < l.length) : lay S (l.take (i + 1)) = (lay S (l.take i)).set l[i].1 l[i].2 := by
  rw [List.take_succ_eq_append_getElem h]
  simp only [lay, List.foldl_append, List.foldl_cons, List.foldl_nil]

theorem DiskIs.drew {base : Nat} {w : World} {L : Lay} {D : DiskSt} (h : DiskIs base w L D) : DiskIs base w.drew L D := ⟨h.disk, h.secs, h.fuse, h.opn, h.b1, h.b2, h.b3⟩
theorem DiskIs.alloc {base : Nat} {w : World} {L : Lay} {D : DiskSt} (h : DiskIs base w L D) (o : Obj) : DiskIs base (w.alloc o) L D :=
  h.kept (S := fun _ => False) ((Kept.refl _ _).alloc o) (fun _ _ => id)
theorem DiskIs.setSec {base : Nat} {w : World} {L : Lay} {D : DiskSt} (h : DiskIs base w L D) (i : Nat) (s : ByteArray) :
    DiskIs base (w.setCell ⟨L.bs, i, none⟩ (.string s)) L { D with secs := D.secs.set i s } := by
  have e1 : L.bs ≠ L.bd := h.secs.ne h.disk (by decide)
  have e3 : L.bs ≠ L.bf := h.secs.ne h.fuse (by decide)
  refine ⟨?_, ?_, Blk.setOther h.fuse e3 _, ?_, h.b1, h.b2, h.b3⟩
  · have := h.disk.setOther (p := ⟨L.bs, i, none⟩) e1 (.string s)
    simpa using this
  · rw [← secCells_set]; exact h.secs.set i _
  · exact ownsRow_setCell_other h.opn (a := ⟨L.bs, i, none⟩) (fun e => by obtain ⟨cur, hc⟩ := owns_blk h.opn e; exact hc.ne h.secs (by decide) rfl) _

theorem owns_drew {w : World} {base : Nat} {e : TypeId} {size : Nat} {v : Value} {n : Nat} {xs : List Value} (h : w.ownsRow base e size v n xs) : w.drew.ownsRow base e size v n xs := h

/-- What became of a disk whose open writes were let go. -/
def LastTo (base : Nat) (w : World) (L : Lay) (D : DiskSt) (w' : World) : Prop := DiskIs base w' { L with ov := .slice none 0 0 } D ∧ Kept L.fp w w'
theorem LastTo.to {base : Nat} {w : World} {L : Lay} {D : DiskSt} {w' : World} (h : LastTo base w L D w') : DiskTo base w L D w' := ⟨_, h.1, h.2, fun _ hg => by cases hg⟩

set_option maxHeartbeats 400000 in
theorem disk_last_walk (base : Nat) (L : Lay) (D : DiskSt) (a : Option Addr) (cap : Nat) (l : List (Nat × ByteArray)) (w : World) (h : DiskIs base w L D)
    (hl : w.ownsRow base 66 2 (.slice a l.length cap) l.length (openCells l)) (hin : ∀ i (h : i < l.length), l[i].1 < D.secs.length) (hn : l.length ≤ 1000000) :
    Calls Try.prog 31 #[.pointer (some ⟨L.bd, 0, none⟩), .slice a l.length cap] w fun e w' => e = .returned (.tuple #[]) ∧ LastTo base w L { D with secs := lay D.secs l, opn := [] } w' := by
  go_enter Try.func31, Try.ntmps31
  go_wp2
  go_loopw [8] (fun i wr => ∃ k : Nat, k ≤ l.length ∧ i = .int .i64 (k : Int) ∧ DiskIs base wr L { D with secs := lay D.secs (l.take k) } ∧ wr.ownsRow base 66 2 (.slice a l.length cap) l.length (openCells l) ∧ Kept L.fp w wr)
    (fun i _ => l.length - (intOf i).toNat)
  case atStart => exact ⟨0, Nat.zero_le _, rfl, by simpa [lay] using h, hl, Kept.refl _ _⟩
  case round =>
    obtain ⟨k, hk, rfl, hd, ho, hkp⟩ := hrel
    by_cases hlt : k < l.length
    · obtain ⟨a', cap', hv, hr, hblk⟩ := rows2_of_owns ho
      injection hv with e1 _ e2
      subst e1
      subst e2
      obtain ⟨g, hg⟩ := hr.addr (by omega)
      subst hg
      have x0 := hr.at0 k hlt g rfl
      have x1 := hr.at1 k hlt g rfl
      have hki := hin k hlt
      have sc := hd.secs.cell l[k].1
      rw [secCells_at _ _ (by simp only [lay_length]; exact hki)] at sc
      have sf := hd.secs.frozen ⟨L.bs, l[k].1, none⟩ rfl
      have d1 := hd.disk.cell 1
      simp [lay_length] at d1
      have hb1 := hd.disk.lt
      have hb2 := hd.secs.lt
      have hsn := lay_snoc D.secs l k hlt
      have hD := ((hd.setSec l[k].1 l[k].2).alloc (.cells #[.int .i64 (l[k].1 : Int), .string l[k].2] 66)).drew
      have hO : (((wr.setCell ⟨L.bs, l[k].1, none⟩ (.string l[k].2)).alloc (.cells #[.int .i64 (l[k].1 : Int), .string l[k].2] 66)).drew).ownsRow base 66 2 (.slice (some ⟨g, 0, none⟩) l.length cap) l.length (openCells l) :=
        owns_drew ((ownsRow_setCell_other ho (a := ⟨L.bs, l[k].1, none⟩) (fun e => by obtain ⟨cur, hc⟩ := owns_blk ho e; exact hc.ne hd.secs (by decide) rfl) _).alloc _)
      have hK : Kept L.fp w (((wr.setCell ⟨L.bs, l[k].1, none⟩ (.string l[k].2)).alloc (.cells #[.int .i64 (l[k].1 : Int), .string l[k].2] 66)).drew) :=
        ((hkp.setCell (p := ⟨L.bs, l[k].1, none⟩) (.inl (.inr (.inl rfl))) _).alloc _).drew
      simp only [← hsn] at hD
      have HF := Lib.hid (And.intro hD (And.intro hO hK))
      clear hD hO hK hsn hd ho hkp
      generalize l[k].1 = A at *
      generalize l[k].2 = B at *
      go_wp2
      go_region
      all_goals go_wp2
      all_goals go_roundw
      case rel =>
        obtain ⟨hD, hO, hK⟩ := HF.out
        exact ⟨k + 1, by omega, by go_num, hD, hO, hK⟩
      case measure => simp [intOf]; omega
    · obtain rfl : k = l.length := by omega
      have d2 := hd.disk.cell 2
      have f2 := hd.disk.frozen ⟨L.bd, 2, none⟩ rfl
      simp at d2
      have hfin : LastTo base w L { D with secs := lay D.secs l, opn := [] } (wr.setCell ⟨L.bd, 2, none⟩ (.slice none 0 0)) := by
        refine ⟨⟨?_, ?_, ?_, ?_, h.b1, h.b2, h.b3⟩, hkp.setCell (.inl (.inl rfl)) _⟩
        · have := hd.disk.set 2 (.slice none 0 0)
          simpa using this
        · have := hd.secs.setOther (p := ⟨L.bd, 2, none⟩) (hd.disk.ne hd.secs (by decide)) (.slice none 0 0)
          simpa using this
        · exact Blk.setOther hd.fuse (p := ⟨L.bd, 2, none⟩) (hd.disk.ne hd.fuse (by decide)) _
        · exact World.ownsRow_nil _ _ _ _
      clear hd hkp ho
      go_wp2
      go_end0
      exact ⟨rfl, hfin⟩

/-- A disk is well: its numbers are in their bounds; each open write is of a sector, and has its size. -/
structure DiskSt.Good (D : DiskSt) : Prop where
  fuse : D.fuse.Ok
  size0 : 128 ≤ D.size
  size1 : D.size ≤ 1024
  num0 : 4 ≤ D.secs.length
  num1 : D.secs.length ≤ 1024
  secs : ∀ s ∈ D.secs, s.size = D.size
  opn : ∀ x ∈ D.opn, x.1 < D.secs.length ∧ x.2.size = D.size
  few : D.opn.length ≤ 1000000

def DiskSt.flushed (D : DiskSt) : DiskSt := if D.fuse.bears = true then ⟨D.size, lay D.secs D.opn, [], D.fuse.spend⟩ else { D with fuse := D.fuse.spend }
def DiskSt.flushes (D : DiskSt) : Int := if D.fuse.bears = true then 0 else 2

theorem DiskTo.trans {base : Nat} {w w1 w2 : World} {L : Lay} {E : DiskSt} (h : Kept L.fp w w1) (k : DiskTo base w1 L E w2) : DiskTo base w L E w2 := by
  obtain ⟨ov, k1, k2, k3⟩ := k
  exact ⟨ov, k1, h.trans k2, fun g hg => (k3 g hg).imp id (fun h' => Nat.le_trans h.size h')⟩

theorem disk_flush (base : Nat) (L : Lay) (D : DiskSt) (w : World) (h : DiskIs base w L D) (ok : D.Good) :
    Calls Try.prog 13 #[.pointer (some ⟨L.bd, 0, none⟩)] w fun e w' => e = .returned (.int .i64 D.flushes) ∧ DiskTo base w L D.flushed w' := by
  have c3 := h.disk.cell 3
  simp at c3
  unfold DiskSt.flushes DiskSt.flushed
  cases hb : D.fuse.bears with
  | false =>
    rw [if_neg (by simp), if_neg (by simp)]
    have HF := fuse_spend_no L.bf D.fuse w h.fuse hb
    go_enter Try.func13, Try.ntmps13
    go_wp2_with (go_at_call 30; refine HF.mono ?_; rintro e w1 ⟨rfl, hto⟩)
    go_ret
    exact ⟨rfl, L.ov, h.fuseTo hto, Lay.fp_bf hto, fun _ hg => .inl hg⟩
  | true =>
    rw [if_pos rfl, if_pos rfl]
    have HF := fuse_spend_yes L.bf D.fuse w h.fuse ok.fuse hb
    obtain ⟨a, cap, hov, _⟩ := rows2_of_owns h.opn
    obtain ⟨bd, bs, bf, ov⟩ := L
    simp only at hov
    subst hov
    go_enter Try.func13, Try.ntmps13
    go_wp2_with (first | (go_at_call 30; refine HF.mono ?_; rintro e w1 ⟨rfl, hto⟩; have h1 := h.fuseTo hto; have d2 := h1.disk.cell 2; simp at d2) | (go_at_call 31; refine (disk_last_walk base _ _ a cap D.opn w1 h1 h1.opn (fun i hi => (ok.opn _ (List.getElem_mem hi)).1) ok.few).mono ?_; rintro e w2 ⟨rfl, hd⟩))
    go_ret
    exact ⟨rfl, DiskTo.trans (Lay.fp_bf hto) hd.to⟩
end Go.Proofs.Ytbajhplblnemnaa
