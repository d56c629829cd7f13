/- Three disks side by side, and what all or nothing of their writes makes of them. -/
import Derived.Test.YtbajhplblnemnaaLasts
import Derived.Deep.RegionHeld3
namespace Go.Proofs.Ytbajhplblnemnaa
open Go.RowKit
set_option linter.unusedVariables false

/-- They share no block. -/
def Apart (L M : Lay) : Prop := ∀ k, L.fp k → ¬ M.fp k
theorem Apart.symm {L M : Lay} (h : Apart L M) : Apart M L := fun k hm hl => h k hl hm

/-- Behind a call upon L: another disk is as it was, and they share no block. -/
theorem apart_to {base : Nat} {w w' : World} {L M : Lay} {F : DiskSt} {ov : Value} (hM : DiskIs base w M F) (ha : Apart L M) (k : Kept L.fp w w') (hf : ∀ g, ov.ownBlock = some g → L.ov.ownBlock = some g ∨ w.heap.size ≤ g) :
    DiskIs base w' M F ∧ Apart { L with ov := ov } M := by
  refine ⟨hM.kept k (fun b hb hl => ha b hl hb), ?_⟩
  rintro b (hb | hb | hb | hb) hm
  · exact ha b (.inl hb) hm
  · exact ha b (.inr (.inl hb)) hm
  · exact ha b (.inr (.inr (.inl hb))) hm
  · rcases hf b hb with h | h
    · exact ha b (.inr (.inr (.inr h))) hm
    · have := hM.fp_lt b hm
      omega

/-- Three disks, made by the call itself. -/
structure Trio (w0 w : World) (LA LB LC : Lay) (DA DB DC : DiskSt) : Prop where
  a : DiskIs w0.heap.size w LA DA
  b : DiskIs w0.heap.size w LB DB
  c : DiskIs w0.heap.size w LC DC
  ab : Apart LA LB
  bc : Apart LB LC
  ca : Apart LC LA
  below : Below w0.heap.size w0 w
  ga : DA.Good
  gb : DB.Good
  gc : DC.Good

theorem Trio.rot {w0 w : World} {LA LB LC : Lay} {DA DB DC : DiskSt} (h : Trio w0 w LA LB LC DA DB DC) : Trio w0 w LB LC LA DB DC DA :=
  ⟨h.b, h.c, h.a, h.bc, h.ca, h.ab, h.below, h.gb, h.gc, h.ga⟩
theorem Trio.toA {w0 w w' : World} {LA LB LC : Lay} {DA DB DC E : DiskSt} (h : Trio w0 w LA LB LC DA DB DC) (k : DiskTo w0.heap.size w LA E w') (g : E.Good) :
    ∃ ov, Trio w0 w' { LA with ov := ov } LB LC E DB DC ∧ Kept LA.fp w w' := by
  obtain ⟨ov, k1, k2, k3⟩ := k
  obtain ⟨b1, b2⟩ := apart_to h.b h.ab k2 k3
  obtain ⟨c1, c2⟩ := apart_to h.c h.ca.symm k2 k3
  exact ⟨ov, ⟨k1, b1, c1, b2, h.bc, c2.symm, h.below.trans (k2.below h.below.size h.a.fp_ge), g, h.gb, h.gc⟩, k2⟩
theorem Trio.toB {w0 w w' : World} {LA LB LC : Lay} {DA DB DC E : DiskSt} (h : Trio w0 w LA LB LC DA DB DC) (k : DiskTo w0.heap.size w LB E w') (g : E.Good) :
    ∃ ov, Trio w0 w' LA { LB with ov := ov } LC DA E DC ∧ Kept LB.fp w w' := by
  obtain ⟨ov, t, k'⟩ := h.rot.toA k g
  exact ⟨ov, t.rot.rot, k'⟩
theorem Trio.toC {w0 w w' : World} {LA LB LC : Lay} {DA DB DC E : DiskSt} (h : Trio w0 w LA LB LC DA DB DC) (k : DiskTo w0.heap.size w LC E w') (g : E.Good) :
    ∃ ov, Trio w0 w' LA LB { LC with ov := ov } DA DB E ∧ Kept LC.fp w w' := by
  obtain ⟨ov, t, k'⟩ := h.rot.rot.toA k g
  exact ⟨ov, t.rot, k'⟩
theorem Trio.more {w0 w w' : World} {LA LB LC : Lay} {DA DB DC : DiskSt} (h : Trio w0 w LA LB LC DA DB DC) (k : Below w.heap.size w w') : Trio w0 w' LA LB LC DA DB DC :=
  ⟨h.a.kept (Kept.of_below k (fun _ => False)) (fun _ _ => id), h.b.kept (Kept.of_below k (fun _ => False)) (fun _ _ => id), h.c.kept (Kept.of_below k (fun _ => False)) (fun _ _ => id),
    h.ab, h.bc, h.ca, h.below.trans (k.mono h.below.size), h.ga, h.gb, h.gc⟩
theorem Trio.drew {w0 w : World} {LA LB LC : Lay} {DA DB DC : DiskSt} (h : Trio w0 w LA LB LC DA DB DC) : Trio w0 w.drew LA LB LC DA DB DC :=
  ⟨h.a.drew, h.b.drew, h.c.drew, h.ab, h.bc, h.ca, h.below.drew, h.ga, h.gb, h.gc⟩
theorem Trio.alloc {w0 w : World} {LA LB LC : Lay} {DA DB DC : DiskSt} (h : Trio w0 w LA LB LC DA DB DC) (o : Obj) : Trio w0 (w.alloc o) LA LB LC DA DB DC :=
  h.more ((Below.refl _ _).alloc (Nat.le_refl _) o)

/-- What three disks under the same writes hold: never a power failure. -/
structure CrInv (k : Nat) (D : DiskSt) : Prop where
  size : D.size = 128
  secs : D.secs = secs0 8
  few : D.opn.length ≤ k
  fuse : ∃ m : Nat, m ≤ k ∧ D.fuse = idle m

theorem CrInv.bears {k : Nat} {D : DiskSt} (h : CrInv k D) : D.fuse.bears = true := by
  obtain ⟨m, _, hm⟩ := h.fuse
  rw [hm]
  exact idle_bears m
theorem CrInv.wrote {k : Nat} {D : DiskSt} (h : CrInv k D) (i : Int) (s : ByteArray) : CrInv (k + 1) (D.wrote i s) := by
  obtain ⟨m, hm, hf⟩ := h.fuse
  have hb := h.bears
  unfold DiskSt.wrote
  split
  · refine ⟨h.size, h.secs, ?_, m + 1, by omega, by simp only [hf, idle_spend]⟩
    have := h.few; simp only [List.length_append, List.length_singleton]; omega
  · exact ⟨h.size, h.secs, by have := h.few; omega, m, by omega, hf⟩

theorem bitOn_all (i : Nat) : bitOn 18446744073709551615 i = true := by
  have h : i % 64 < 64 := Nat.mod_lt _ (by decide)
  unfold bitOn
  generalize i % 64 = j at h
  have : ∀ j : Fin 64, (18446744073709551615 / 2 ^ j.val % 2 == 1) = true := by decide +kernel
  exact this ⟨j, h⟩
theorem bitOn_none (i : Nat) : bitOn 0 i = false := by simp [bitOn]

theorem keptTo_all (l : List (Nat × ByteArray)) (k : Nat) (hk : k ≤ l.length) : keptTo 18446744073709551615 l k = l.take k := by
  induction k with
  | zero => simp [keptTo]
  | succ k ih =>
    rw [keptTo, if_pos (bitOn_all k), ih (by omega), List.take_succ_eq_append_getElem (by omega)]
    simp [List.getElem?_eq_getElem (show k < l.length by omega)]
theorem keptTo_none (l : List (Nat × ByteArray)) (k : Nat) : keptTo 0 l k = [] := by
  induction k with
  | zero => rfl
  | succ k ih => rw [keptTo, bitOn_none, if_neg (by simp), ih]

theorem tear_whole {b old : ByteArray} {n : Nat} (hb : b.size = n) (ho : old.size = n) : tear b old n = b := by
  subst hb
  unfold tear
  rw [ho]
  have e1 : b.extract 0 b.size = b := by
    apply ByteArray.ext
    rw [ByteArray.data_extract]
    exact Array.extract_size
  have e2 : old.extract b.size b.size = ByteArray.empty := by
    apply ByteArray.ext
    rw [ByteArray.data_extract]
    simp
    omega
  rw [e1, e2]
  exact ByteArray.append_empty
theorem crash_whole {S : List ByteArray} {ks : List (Nat × ByteArray)} {n : Nat} (hS : ∀ s ∈ S, s.size = n) (hk : ∀ x ∈ ks, x.1 < S.length ∧ x.2.size = n) : crashSecs S ks n = lay S ks := by
  unfold crashSecs
  split
  · rename_i h
    rw [List.getLast?_eq_none_iff] at h
    subst h
    rfl
  · rename_i x hx
    have hmem : x ∈ ks := List.mem_of_getLast? hx
    have hl := lay_sizes (l := ks.dropLast) hS fun y hy => (hk y (List.dropLast_subset _ hy)).2
    have h1 : x.1 < (lay S ks.dropLast).length := by rw [lay_length]; exact (hk x hmem).1
    have h2 : (lay S ks.dropLast).getD x.1 ByteArray.empty = (lay S ks.dropLast)[x.1] := by simp [h1]
    rw [h2, tear_whole (hk x hmem).2 (hl _ (List.getElem_mem h1))]
    have h3 : ks = ks.dropLast ++ [x] := by
      obtain ⟨ys, hx'⟩ := List.getLast?_eq_some_iff.1 hx
      rw [hx']
      simp
    conv => rhs; rw [h3]
    simp [lay]

theorem CrInv.all {k : Nat} {D : DiskSt} (h : CrInv k D) (g : D.Good) : (D.crashed 18446744073709551615 128).now = lay (secs0 8) D.opn ∧ D.flushed.now = lay (secs0 8) D.opn ∧ (D.crashed 0 128).now = secs0 8 := by
  have hc : cutOf 128 D.size = 128 := by rw [h.size]; decide
  refine ⟨?_, ?_, ?_⟩
  · simp only [DiskSt.now, DiskSt.crashed, hc, keptTo_all _ _ (Nat.le_refl _), List.take_length]
    rw [crash_whole (n := 128) (by have := g.secs; rw [h.size] at this; exact this) (fun x hx => by have := g.opn x hx; rw [h.size] at this; exact this), h.secs]
    rfl
  · rw [(flushed_ok h.bears).1, h.secs]
    rfl
  · simp only [DiskSt.now, DiskSt.crashed, keptTo_none, crashSecs, List.getLast?_nil, h.secs]
    rfl
end Go.Proofs.Ytbajhplblnemnaa
