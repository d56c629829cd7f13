/- The plain law: the program's disk and the reference's answer alike, step by step. No Go in sight. -/
import Derived.Test.YtbajhplblnemnaaRefC
namespace Go.Proofs.Ytbajhplblnemnaa
open Go.RowKit
set_option linter.unusedVariables false

/-- The two fuses stand alike. -/
structure FSim (F : FuseSt) (R : RFuse) : Prop where
  blown : R.blown = F.blown
  count : R.count = F.count
  left : (R.armed = false ∧ F.left = -1) ∨ (R.armed = true ∧ 0 ≤ F.left ∧ R.left = F.left)

theorem FSim.bears {F : FuseSt} {R : RFuse} (h : FSim F R) : R.blowsNow = !F.bears := by
  unfold RFuse.blowsNow FuseSt.bears
  rw [h.blown]
  rcases h.left with ⟨h1, h2⟩ | ⟨h1, h2, h3⟩
  · rw [h1, h2]
    cases F.blown <;> rfl
  · rw [h1, h3]
    cases F.blown <;> simp
theorem FSim.spend {F : FuseSt} {R : RFuse} (h : FSim F R) : FSim F.spend R.spend := by
  have hb := h.bears
  unfold FuseSt.spend RFuse.spend
  rw [hb]
  cases hB : F.bears with
  | true =>
    simp only [Bool.not_true, Bool.false_eq_true, if_false, if_true]
    refine ⟨h.blown, by simp only [h.count], ?_⟩
    rcases h.left with ⟨h1, h2⟩ | ⟨h1, h2, h3⟩
    · left
      simp only [h1, h2]
      exact ⟨trivial, by decide⟩
    · right
      have h0 : F.left ≠ 0 := by
        intro e
        simp [FuseSt.bears, e] at hB
      have hp : 0 < F.left := by omega
      simp only [h1, if_true, hp, h3]
      exact ⟨trivial, by omega, trivial⟩
  | false =>
    simp only [Bool.not_false, if_true, Bool.false_eq_true, if_false]
    exact ⟨rfl, h.count, h.left⟩
theorem FSim.arm {F : FuseSt} {R : RFuse} (h : FSim F R) (n : Int) : FSim (F.arm n) (R.arm n) := by
  refine ⟨rfl, h.count, .inr ⟨rfl, ?_, rfl⟩⟩
  simp only [FuseSt.arm]
  split <;> omega
theorem FSim.reset {F : FuseSt} {R : RFuse} (h : FSim F R) : FSim F.reset R.reset := ⟨rfl, h.count, .inl ⟨rfl, rfl⟩⟩
theorem FSim.fresh : FSim FuseSt.fresh RFuse.fresh := ⟨rfl, rfl, .inl ⟨rfl, rfl⟩⟩

theorem rspend_ok {F : RFuse} (h : F.Ok) (hc : F.count < 1000000000) : F.spend.Ok := by
  obtain ⟨a, b, c, d⟩ := h
  unfold RFuse.spend
  split
  · exact ⟨a, b, c, d⟩
  · rename_i hb
    refine ⟨?_, ?_, ?_, ?_⟩
    · intro ha
      simp only at ha
      simp only [ha, if_true]
      have : F.left ≠ 0 := by
        intro e
        simp [RFuse.blowsNow, ha, e] at hb
      have := a ha
      omega
    · simp only; split <;> omega
    · simp only; omega
    · simp only; omega
theorem rarm_ok {F : RFuse} (h : F.Ok) (n : Int) (hn : n ≤ 9223372036854775807) : (F.arm n).Ok := by
  refine ⟨fun _ => ?_, ?_, h.c0, h.c1⟩ <;> simp only [RFuse.arm] <;> split <;> omega
theorem rreset_ok {F : RFuse} (h : F.Ok) : F.reset.Ok := ⟨by simp [RFuse.reset], h.l1, h.c0, h.c1⟩
theorem rfresh_ok : RFuse.fresh.Ok := ⟨by decide, by decide, by decide, by decide⟩

/-- The two disks stand alike. -/
structure Sim (D : DiskSt) (R : RefSt) : Prop where
  size : R.size = D.size
  last : R.last = D.secs
  now : R.now = D.now
  wh : R.wh = D.opn.map (·.1)
  what : R.what = D.opn.map (·.2)
  fuse : FSim D.fuse R.fuse
  ok : R.fuse.Ok

theorem now_length (D : DiskSt) : D.now.length = D.secs.length := lay_length _ _
theorem Sim.isB {D : DiskSt} {R : RefSt} (h : Sim D R) (i : Int) : R.isB i = D.isB i := by simp [RefSt.isB, DiskSt.isB, h.now, now_length]
theorem Sim.fits {D : DiskSt} {R : RefSt} (h : Sim D R) (i : Int) (b : ByteArray) : R.fits i b = D.fits i b := by simp [RefSt.fits, DiskSt.fits, h.isB, h.size]
theorem Sim.reads {D : DiskSt} {R : RefSt} (h : Sim D R) (i : Int) : R.reads i = D.reads i := by simp [RefSt.reads, DiskSt.reads, h.isB, h.now]
theorem Sim.writes {D : DiskSt} {R : RefSt} (h : Sim D R) (i : Int) (b : ByteArray) : R.writes i b = D.writes i b := by
  simp only [RefSt.writes, DiskSt.writes, h.fits, h.fuse.bears]
  cases D.fits i b <;> cases D.fuse.bears <;> rfl
theorem Sim.wrote {D : DiskSt} {R : RefSt} (h : Sim D R) (i : Int) (b : ByteArray) (hc : D.fuse.count < 1000000000) : Sim (D.wrote i b) (R.wrote i b) := by
  have ok := rspend_ok h.ok (by rw [h.fuse.count]; exact hc)
  simp only [RefSt.wrote, DiskSt.wrote, h.fits, h.fuse.bears]
  cases hf : D.fits i b with
  | false => simpa using h
  | true =>
    cases hb : D.fuse.bears with
    | false => exact ⟨h.size, h.last, h.now, h.wh, h.what, h.fuse.spend, ok⟩
    | true =>
      refine ⟨h.size, h.last, ?_, ?_, ?_, h.fuse.spend, ok⟩
      · simp [DiskSt.now, lay, h.now]
      · simp [h.wh]
      · simp [h.what]
theorem Sim.flushes {D : DiskSt} {R : RefSt} (h : Sim D R) : R.flushes = D.flushes := by
  simp only [RefSt.flushes, DiskSt.flushes, h.fuse.bears]
  cases D.fuse.bears <;> rfl
theorem Sim.flushed {D : DiskSt} {R : RefSt} (h : Sim D R) (hc : D.fuse.count < 1000000000) : Sim D.flushed R.flushed := by
  have ok := rspend_ok h.ok (by rw [h.fuse.count]; exact hc)
  simp only [RefSt.flushed, DiskSt.flushed, h.fuse.bears]
  cases hb : D.fuse.bears with
  | false => exact ⟨h.size, h.last, h.now, h.wh, h.what, h.fuse.spend, ok⟩
  | true => exact ⟨h.size, h.now, by simp only [DiskSt.now, lay]; exact h.now, rfl, rfl, h.fuse.spend, ok⟩
theorem Sim.fused {D : DiskSt} {R : RefSt} (h : Sim D R) {F : FuseSt} {G : RFuse} (k : FSim F G) (ok : G.Ok) : Sim { D with fuse := F } { R with fuse := G } :=
  ⟨h.size, h.last, h.now, h.wh, h.what, k, ok⟩
theorem Sim.fresh (size n : Int) {F : FuseSt} {G : RFuse} (k : FSim F G) (ok : G.Ok) : Sim (DiskSt.fresh size n F) (RefSt.fresh size n G) := ⟨rfl, rfl, rfl, rfl, rfl, k, ok⟩

/-! ### the crash -/
theorem lastOn_spec (keep n : Nat) : (lastOn keep n = -1 ∧ ∀ j, j < n → bitOn keep j = false) ∨ ∃ l : Nat, lastOn keep n = (l : Int) ∧ l < n ∧ bitOn keep l = true ∧ ∀ j : Nat, l < j → j < n → bitOn keep j = false := by
  induction n with
  | zero => exact .inl ⟨rfl, fun j h => by omega⟩
  | succ n ih =>
    unfold lastOn
    cases hb : bitOn keep n with
    | true =>
      rw [if_pos rfl]
      exact .inr ⟨n, rfl, by omega, hb, fun j h1 h2 => by omega⟩
    | false =>
      rw [if_neg (by simp)]
      rcases ih with ⟨h1, h2⟩ | ⟨l, h1, h2, h3, h4⟩
      · refine .inl ⟨h1, fun j hj => ?_⟩
        by_cases e : j = n
        · subst e; exact hb
        · exact h2 j (by omega)
      · refine .inr ⟨l, h1, by omega, h3, fun j hj hj2 => ?_⟩
        by_cases e : j = n
        · subst e; exact hb
        · exact h4 j hj (by omega)

theorem refLay_before {D : DiskSt} {R : RefSt} (h : Sim D R) (keep c : Nat) (L : Int) (k : Nat) (hk : k ≤ D.opn.length) (hL : ∀ j, j < k → (j : Int) ≠ L) : refLay R keep c L k = lay D.secs (keptTo keep D.opn k) := by
  induction k with
  | zero => simp [refLay, keptTo, lay, h.last]
  | succ k ih =>
    have ih := ih (by omega) (fun j hj => hL j (by omega))
    have hlt : k < D.opn.length := by omega
    have e1 : R.wh.getD k 0 = D.opn[k].1 := by simp [h.wh, hlt]
    have e2 : R.what.getD k ByteArray.empty = D.opn[k].2 := by simp [h.what, hlt]
    have e3 : D.opn.getD k (0, ByteArray.empty) = D.opn[k] := by simp [hlt]
    unfold refLay keptTo
    split
    · rw [if_neg (hL k (by omega)), ih, e1, e2, e3]
      simp [lay]
    · exact ih

theorem refLay_after {R : RefSt} (keep c : Nat) (L : Int) (m k : Nat) (hk : m ≤ k) (hb : ∀ j, m ≤ j → j < k → bitOn keep j = false) : refLay R keep c L k = refLay R keep c L m := by
  induction k with
  | zero =>
    obtain rfl : m = 0 := by omega
    rfl
  | succ k ih =>
    by_cases e : m = k + 1
    · subst e; rfl
    · rw [refLay, hb k (by omega) (by omega), if_neg (by simp)]
      exact ih (by omega) (fun j h1 h2 => hb j h1 (by omega))
theorem keptTo_after (keep : Nat) (l : List (Nat × ByteArray)) (m k : Nat) (hk : m ≤ k) (hb : ∀ j, m ≤ j → j < k → bitOn keep j = false) : keptTo keep l k = keptTo keep l m := by
  induction k with
  | zero =>
    obtain rfl : m = 0 := by omega
    rfl
  | succ k ih =>
    by_cases e : m = k + 1
    · subst e; rfl
    · rw [keptTo, hb k (by omega) (by omega), if_neg (by simp)]
      exact ih (by omega) (fun j h1 h2 => hb j h1 (by omega))

theorem refLay_crash {D : DiskSt} {R : RefSt} (h : Sim D R) (keep c : Nat) : refLay R keep c (lastOn keep D.opn.length) D.opn.length = crashSecs D.secs (keptTo keep D.opn D.opn.length) c := by
  rcases lastOn_spec keep D.opn.length with ⟨h1, h2⟩ | ⟨l, h1, h2, h3, h4⟩
  · rw [h1, keptTo_after keep D.opn 0 _ (by omega) (fun j _ hj => h2 j hj), refLay_after keep c (-1) 0 _ (by omega) (fun j _ hj => h2 j hj)]
    simp [refLay, keptTo, crashSecs, h.last]
  · have e1 : R.wh.getD l 0 = D.opn[l].1 := by simp [h.wh, h2]
    have e2 : R.what.getD l ByteArray.empty = D.opn[l].2 := by simp [h.what, h2]
    have e3 : D.opn.getD l (0, ByteArray.empty) = D.opn[l] := by simp [h2]
    rw [h1, keptTo_after keep D.opn (l + 1) _ (by omega) (fun j hj hj2 => h4 j (by omega) hj2), refLay_after keep c l (l + 1) _ (by omega) (fun j hj hj2 => h4 j (by omega) hj2)]
    rw [refLay, keptTo, if_pos h3, if_pos h3, if_pos rfl, refLay_before h keep c l l (by omega) (fun j hj => by omega), e1, e2, e3]
    simp [crashSecs, List.getLast?_append]

theorem Sim.crashed {D : DiskSt} {R : RefSt} (h : Sim D R) (keep : Nat) (torn : Int) : Sim (D.crashed keep torn) (R.crashed keep torn) := by
  have hl : R.wh.length = D.opn.length := by simp [h.wh]
  have e : refLay R keep (cutOf torn R.size) (lastOn keep R.wh.length) R.wh.length = crashSecs D.secs (keptTo keep D.opn D.opn.length) (cutOf torn D.size) := by
    rw [hl, h.size]
    exact refLay_crash h keep _
  exact ⟨h.size, e, by simp only [RefSt.crashed, DiskSt.crashed, DiskSt.now, lay, List.foldl_nil]; exact e, rfl, rfl, h.fuse.reset, rreset_ok h.ok⟩

theorem Sim.isFits {D : DiskSt} {R : RefSt} (h : Sim D R) (g : D.Good) (few : D.opn.length ≤ 100000) : R.Fits := by
  refine ⟨by rw [h.size]; exact g.size0, by rw [h.size]; exact g.size1, by rw [h.now, now_length]; exact g.num0, by rw [h.now, now_length]; exact g.num1, by rw [h.last, h.now, now_length], ?_, ?_, ?_, ?_, ?_, h.ok⟩
  · rw [h.last, h.size]; exact g.secs
  · simp [h.wh, h.what]
  · intro x hx
    rw [h.wh] at hx
    obtain ⟨y, hy, rfl⟩ := List.mem_map.1 hx
    rw [h.now, now_length]
    exact (g.opn y hy).1
  · intro x hx
    rw [h.what] at hx
    obtain ⟨y, hy, rfl⟩ := List.mem_map.1 hx
    rw [h.size]
    exact (g.opn y hy).2
  · rw [h.wh]; simpa using few
end Go.Proofs.Ytbajhplblnemnaa
