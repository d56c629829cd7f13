/- What a disk holds, and the walks of its small methods: is, Size, Len, Open, Read. -/
import Derived.Test.YtbajhplblnemnaaFill
namespace Go.Proofs.Ytbajhplblnemnaa
open Go.RowKit

/-- What a disk holds: a sector's bytes, the sectors that last, the writes that are not flushed, its fuse. -/
structure DiskSt where
  size : Nat
  secs : List ByteArray
  opn : List (Nat × ByteArray)
  fuse : FuseSt

/-- Where it lies. -/
structure Lay where
  bd : Nat
  bs : Nat
  bf : Nat
  ov : Value

def openCells : List (Nat × ByteArray) → List Value
  | [] => []
  | w :: l => .int .i64 (w.1 : Int) :: .string w.2 :: openCells l
theorem openCells_length (l : List (Nat × ByteArray)) : (openCells l).length = l.length * 2 := by
  induction l with
  | nil => rfl
  | cons x l ih => simp [openCells, ih]; omega
theorem openCells_append (l m : List (Nat × ByteArray)) : openCells (l ++ m) = openCells l ++ openCells m := by
  induction l with
  | nil => rfl
  | cons x l ih => simp [openCells, ih]
theorem openCells_at (l : List (Nat × ByteArray)) (i : Nat) (h : i < l.length) : (openCells l)[i * 2]? = some (.int .i64 (l[i].1 : Int)) ∧ (openCells l)[i * 2 + 1]? = some (.string l[i].2) := by
  induction l generalizing i with
  | nil => simp at h
  | cons x l ih =>
    cases i with
    | zero => simp [openCells]
    | succ i =>
      have := ih i (by simpa using h)
      simp only [openCells, List.getElem_cons_succ]
      rw [show (i + 1) * 2 = i * 2 + 1 + 1 from by omega, show i * 2 + 1 + 1 + 1 = (i * 2 + 1) + 1 + 1 from by omega]
      simpa using this

def secCells (l : List ByteArray) : Array Value := (l.map Value.string).toArray
theorem secCells_at (l : List ByteArray) (i : Nat) (h : i < l.length) : (secCells l)[i]? = some (.string l[i]) := by simp [secCells, h]
theorem secCells_set (l : List ByteArray) (i : Nat) (s : ByteArray) : (secCells l).setIfInBounds i (.string s) = secCells (l.set i s) := by
  simp [secCells, List.map_set]

structure DiskIs (base : Nat) (w : World) (L : Lay) (D : DiskSt) : Prop where
  disk : Blk w L.bd #[.int .i64 (D.size : Int), .slice (some ⟨L.bs, 0, none⟩) D.secs.length D.secs.length, L.ov, .pointer (some ⟨L.bf, 0, none⟩)] 63
  secs : Blk w L.bs (secCells D.secs) 9
  fuse : FuseIs w L.bf D.fuse
  opn : w.ownsRow base 66 2 L.ov D.opn.length (openCells D.opn)
  b1 : base ≤ L.bd
  b2 : base ≤ L.bs
  b3 : base ≤ L.bf

/-- The blocks that its calls may turn. -/
def Lay.fp (L : Lay) (k : Nat) : Prop := k = L.bd ∨ k = L.bs ∨ k = L.bf ∨ L.ov.ownBlock = some k

theorem DiskIs.kept {S : Nat → Prop} {base : Nat} {w w' : World} {L : Lay} {D : DiskSt} (h : DiskIs base w L D) (k : Kept S w w') (hn : ∀ b, L.fp b → ¬ S b) : DiskIs base w' L D :=
  ⟨h.disk.kept k (hn _ (.inl rfl)), h.secs.kept k (hn _ (.inr (.inl rfl))), Blk.kept h.fuse k (hn _ (.inr (.inr (.inl rfl)))),
    owns_kept h.opn k (fun _ hg => hn _ (.inr (.inr (.inr hg)))), h.b1, h.b2, h.b3⟩

theorem addr_add (g j : Nat) : (⟨g, 0, none⟩ : Addr).add j = ⟨g, j, none⟩ := by unfold Addr.add; split <;> simp_all

/-- The open writes' slice, whatever its address: its cells. -/
structure Rows2 (w : World) (a : Option Addr) (cap : Nat) (l : List (Nat × ByteArray)) : Prop where
  hcap : l.length ≤ cap
  hmax : cap ≤ maxLen
  addr : 0 < l.length → ∃ g, a = some ⟨g, 0, none⟩
  at0 : ∀ i (h : i < l.length) g, a = some ⟨g, 0, none⟩ → w.cell? ⟨g, i * 2, none⟩ = some (.int .i64 (l[i].1 : Int))
  at1 : ∀ i (h : i < l.length) g, a = some ⟨g, 0, none⟩ → w.cell? ⟨g, i * 2 + 1, none⟩ = some (.string l[i].2)

theorem rows2_of_owns {w : World} {base : Nat} {v : Value} {l : List (Nat × ByteArray)} (h : w.ownsRow base 66 2 v l.length (openCells l)) :
    ∃ a cap, v = .slice a l.length cap ∧ Rows2 w a cap l ∧ (∀ g, a = some g → v.ownBlock = some g.block) := by
  have h0 := h
  obtain ⟨_, h2⟩ := h
  rcases h2 with ⟨rfl, hn⟩ | ⟨g, cap, cur, rfl, hb, hg, hc, hm, hs, ht⟩
  · have : l = [] := List.length_eq_zero_iff.1 hn
    subst this
    exact ⟨none, 0, rfl, ⟨by simp, by unfold maxLen; omega, by simp, fun i h => by simp at h, fun i h => by simp at h⟩, by simp⟩
  · refine ⟨_, _, rfl, ⟨hc, hm, fun _ => ⟨g, rfl⟩, ?_, ?_⟩, fun x hx => by cases hx; rfl⟩
    · intro i hi g' hg'
      cases hg'
      have := h0.cells (g := g) rfl (i * 2) _ (openCells_at l i hi).1
      rw [addr_add] at this
      exact this
    · intro i hi g' hg'
      cases hg'
      have := h0.cells (g := g) rfl (i * 2 + 1) _ (openCells_at l i hi).2
      rw [addr_add] at this
      exact this

/-- Is it a sector's number? -/
def DiskSt.isB (D : DiskSt) (i : Int) : Bool := decide (0 ≤ i ∧ i < D.secs.length)

theorem disk_is (base : Nat) (L : Lay) (D : DiskSt) (i : Int) (w : World) (h : DiskIs base w L D) :
    Calls Try.prog 29 #[.pointer (some ⟨L.bd, 0, none⟩), .int .i64 i] w fun e w' => e = .returned (.bool (D.isB i)) ∧ w = w' := by
  have c1 := h.disk.cell 1
  simp at c1
  by_cases h0 : 0 ≤ i
  · by_cases h1 : i < D.secs.length
    · have hb : D.isB i = true := by simp [DiskSt.isB, h0, h1]
      rw [hb]
      go_enter Try.func29, Try.ntmps29
      go_wp2
      go_ret
      exact ⟨by simp, rfl⟩
    · have hb : D.isB i = false := by simp [DiskSt.isB, h1]
      rw [hb]
      go_enter Try.func29, Try.ntmps29
      go_wp2
      go_ret
      exact ⟨by simp, rfl⟩
  · have hb : D.isB i = false := by simp [DiskSt.isB, h0]
    rw [hb]
    go_enter Try.func29, Try.ntmps29
    go_wp2
    go_ret
    exact ⟨by simp, rfl⟩

theorem disk_size (base : Nat) (L : Lay) (D : DiskSt) (w : World) (h : DiskIs base w L D) :
    Calls Try.prog 20 #[.pointer (some ⟨L.bd, 0, none⟩)] w fun e w' => e = .returned (.int .i64 (D.size : Int)) ∧ w = w' := by
  have c1 := h.disk.cell 0
  simp at c1
  go_enter Try.func20, Try.ntmps20
  go_wp2
  go_ret
  exact ⟨by simp, rfl⟩

theorem disk_len (base : Nat) (L : Lay) (D : DiskSt) (w : World) (h : DiskIs base w L D) :
    Calls Try.prog 21 #[.pointer (some ⟨L.bd, 0, none⟩)] w fun e w' => e = .returned (.int .i64 (D.secs.length : Int)) ∧ w = w' := by
  have c1 := h.disk.cell 1
  simp at c1
  go_enter Try.func21, Try.ntmps21
  go_wp2
  go_ret
  exact ⟨by simp, rfl⟩

theorem disk_open (base : Nat) (L : Lay) (D : DiskSt) (w : World) (h : DiskIs base w L D) :
    Calls Try.prog 16 #[.pointer (some ⟨L.bd, 0, none⟩)] w fun e w' => e = .returned (.int .i64 (D.opn.length : Int)) ∧ w = w' := by
  obtain ⟨a, cap, hov, hr, _⟩ := rows2_of_owns h.opn
  have c1 := h.disk.cell 2
  rw [hov] at c1
  simp at c1
  clear hov
  go_enter Try.func16, Try.ntmps16
  go_wp2
  go_ret
  exact ⟨by simp, rfl⟩
end Go.Proofs.Ytbajhplblnemnaa
