/- The walk of the disk's Crash. -/
import Derived.Test.YtbajhplblnemnaaLast
import Derived.WalkSmall
namespace Go.Proofs.Ytbajhplblnemnaa
open Go.RowKit

/-- Is the i-th bit on? -/
def bitOn (keep i : Nat) : Bool := keep / 2 ^ (i % 64) % 2 == 1
/-- Of the first so many writes those that are kept. -/
def keptTo (keep : Nat) (l : List (Nat × ByteArray)) : Nat → List (Nat × ByteArray)
  | 0 => []
  | k + 1 => if bitOn keep k = true then keptTo keep l k ++ [l.getD k (0, ByteArray.empty)] else keptTo keep l k
theorem keptTo_le (keep : Nat) (l : List (Nat × ByteArray)) (k : Nat) : (keptTo keep l k).length ≤ k := by
  induction k with
  | zero => simp [keptTo]
  | succ k ih =>
    unfold keptTo
    split
    · rw [List.length_append, List.length_singleton]; omega
    · omega

theorem owns_take {w : World} {base : Nat} {e : TypeId} {size : Nat} {a : Option Addr} {n cap : Nat} {xs : List Value} (h : w.ownsRow base e size (.slice a n cap) n xs) (m : Nat) (hm : m ≤ n) : w.ownsRow base e size (.slice a m cap) m (xs.take (m * size)) := by
  obtain ⟨h1, h2⟩ := h
  refine ⟨?_, ?_⟩
  · rw [List.length_take, h1]
    exact Nat.min_eq_left (Nat.mul_le_mul_right _ hm)
  · rcases h2 with ⟨hv, rfl⟩ | ⟨g, cap', cur, hv, hg, hh, hc, hmx, hs, ht⟩
    · obtain rfl : m = 0 := by omega
      injection hv with e1 _ e3
      subst e1; subst e3
      exact .inl ⟨rfl, rfl⟩
    · injection hv with e1 _ e3
      subst e1; subst e3
      refine .inr ⟨g, cap, cur, rfl, hg, hh, by omega, hmx, hs, ?_⟩
      rw [← ht, List.take_take, Nat.min_eq_left (Nat.mul_le_mul_right _ hm)]

theorem owns_base {w : World} {base base' : Nat} {e : TypeId} {size : Nat} {v : Value} {n : Nat} {xs : List Value} (h : w.ownsRow base' e size v n xs) (hb : base ≤ base') : w.ownsRow base e size v n xs := by
  obtain ⟨h1, h2⟩ := h
  refine ⟨h1, ?_⟩
  rcases h2 with h2 | ⟨g, cap, cur, hv, hg, r⟩
  · exact .inl h2
  · exact .inr ⟨g, cap, cur, hv, by omega, r⟩

theorem keep_bit (keep k : Nat) (h : keep ≤ 18446744073709551615) : (bits BinOp.and IntKind.u64 ((keep : Int) / 2 ^ (k % 64)) 1 == 1) = bitOn keep k := by
  have e : ((keep : Int) / 2 ^ (k % 64)) = ((keep / 2 ^ (k % 64) : Nat) : Int) := by
    rw [Int.natCast_ediv, Int.natCast_pow]
    rfl
  have hle : keep / 2 ^ (k % 64) ≤ 18446744073709551615 := Nat.le_trans (Nat.div_le_self _ _) h
  unfold bitOn
  rw [e]
  generalize keep / 2 ^ (k % 64) = q at *
  rw [and_one_u64 _ (by omega) (by omega)]
  rw [Bool.eq_iff_iff]
  simp only [beq_iff_eq]
  omega

/-- A sector of which the first c bytes were written. -/
def tear (b old : ByteArray) (c : Nat) : ByteArray := b.extract 0 c ++ old.extract c old.size
def cutOf (torn : Int) (size : Nat) : Nat := (min (max torn 0) (size : Int)).toNat
def crashSecs (S : List ByteArray) (ks : List (Nat × ByteArray)) (c : Nat) : List ByteArray :=
  match ks.getLast? with
  | none => S
  | some x => (lay S ks.dropLast).set x.1 (tear x.2 ((lay S ks.dropLast).getD x.1 ByteArray.empty) c)
def DiskSt.crashed (D : DiskSt) (keep : Nat) (torn : Int) : DiskSt :=
  ⟨D.size, crashSecs D.secs (keptTo keep D.opn D.opn.length) (cutOf torn D.size), [], D.fuse.reset⟩

theorem keptTo_mem {keep : Nat} {l : List (Nat × ByteArray)} {k : Nat} (hk : k ≤ l.length) {x : Nat × ByteArray} (hx : x ∈ keptTo keep l k) : x ∈ l := by
  induction k with
  | zero => simp [keptTo] at hx
  | succ k ih =>
    unfold keptTo at hx
    split at hx
    · rcases List.mem_append.1 hx with h | h
      · exact ih (by omega) h
      · simp at h
        subst h
        simp [List.getElem?_eq_getElem (show k < l.length by omega)]
    · exact ih (by omega) hx

theorem owns_of_blk {w : World} {g : Nat} {c : Array Value} {t : TypeId} (h : Blk w g c t) {base : Nat} (hb : base ≤ g) {size : Nat} (n : Nat) (hn : n ≤ maxLen) (hs : c.size = n * size) {xs : List Value} (hx : c.toList = xs) : w.ownsRow base t size (.slice (some ⟨g, 0, none⟩) n n) n xs := by
  subst hx
  refine ⟨by simpa using hs, .inr ⟨g, n, c, rfl, hb, h, Nat.le_refl _, hn, hs, ?_⟩⟩
  rw [List.take_of_length_le (by simp [hs])]
theorem box_0 (w : World) (x y : Value) (t : TypeId) : (w.alloc (.cells #[x, y] t)).cell? ⟨w.heap.size, 0, none⟩ = some x := by simp
theorem box_1 (w : World) (x y : Value) (t : TypeId) : (w.alloc (.cells #[x, y] t)).cell? ⟨w.heap.size, 1, none⟩ = some y := by simp
theorem lay_sizes {S : List ByteArray} {n : Nat} (hS : ∀ s ∈ S, s.size = n) {l : List (Nat × ByteArray)} (hl : ∀ x ∈ l, x.2.size = n) : ∀ s ∈ lay S l, s.size = n := by
  induction l generalizing S with
  | nil => exact hS
  | cons x l ih =>
    refine ih (S := S.set x.1 x.2) (fun s hs => ?_) (fun y hy => hl y (by simp [hy]))
    rcases List.mem_or_eq_of_mem_set hs with h | h
    · exact hS s h
    · subst h; exact hl x (by simp)

set_option maxHeartbeats 1000000 in
theorem disk_crash (base : Nat) (L : Lay) (D : DiskSt) (keep torn : Int) (w : World) (h : DiskIs base w L D) (ok : D.Good) (hk0 : 0 ≤ keep) (hk1 : keep ≤ 18446744073709551615) :
    Calls Try.prog 14 #[.pointer (some ⟨L.bd, 0, none⟩), .int .u64 keep, .int .i64 torn] w fun e w' => e = .returned (.tuple #[]) ∧ DiskTo base w L (D.crashed keep.toNat torn) w' := by
  obtain ⟨keep, rfl⟩ := Int.eq_ofNat_of_zero_le hk0
  rw [Int.toNat_natCast]
  obtain ⟨i0, hi, hz0, hz1, hz2⟩ := info_parts info66
  obtain ⟨a, cap, hov, hr, _⟩ := rows2_of_owns h.opn
  have c2 := h.disk.cell 2
  rw [hov] at c2
  simp at c2
  clear hov
  have hsz : base ≤ w.heap.size := Nat.le_of_lt (Nat.lt_of_le_of_lt h.b1 h.disk.lt)
  have few := ok.few
  go_enter Try.func14, Try.ntmps14
  go_wp2
  go_loopw [6, 17] (fun v i wr => ∃ k : Nat, k ≤ D.opn.length ∧ i = .int .i64 (k : Int) ∧ wr.ownsRow w.heap.size 66 2 v (keptTo keep D.opn k).length (openCells (keptTo keep D.opn k)) ∧ Kept (fun _ => False) w wr)
    (fun _ i _ => D.opn.length - (intOf i).toNat)
  case atStart => exact ⟨0, Nat.zero_le _, rfl, World.ownsRow_nil _ _ _ _, Kept.refl _ _⟩
  case round =>
    obtain ⟨k, hk, rfl, ho, hkp⟩ := hrel
    by_cases hlt : k < D.opn.length
    · obtain ⟨g, hg⟩ := hr.addr (by omega)
      subst hg
      have hgl : g < w.heap.size := World.block_lt_of_cell? w ⟨g, k * 2, none⟩ (hr.at0 k hlt g rfl)
      have x0 := (hkp.cell (p := ⟨g, k * 2, none⟩) hgl id).trans (hr.at0 k hlt g rfl)
      have x1 := (hkp.cell (p := ⟨g, k * 2 + 1, none⟩) hgl id).trans (hr.at1 k hlt g rfl)
      have hgd : D.opn.getD k (0, ByteArray.empty) = (D.opn[k].1, D.opn[k].2) := by simp [hlt]
      have hkl := keptTo_le keep D.opn k
      have hbit := keep_bit keep k (by omega)
      generalize D.opn[k].1 = A at *
      generalize D.opn[k].2 = B at *
      have HG := Lib.hid hgd
      clear hgd
      cases hbo : bitOn keep k with
      | false =>
        rw [hbo] at hbit
        have hkt : keptTo keep D.opn (k + 1) = keptTo keep D.opn k := by simp [keptTo, hbo]
        have HT := Lib.hid hkt
        have HO := Lib.hid ho
        clear hkt hbo ho
        go_wp2
        go_roundw
        case rel => exact ⟨k + 1, by omega, by go_num, by rw [HT.out]; exact HO.out.alloc _, hkp.alloc _⟩
        case measure => simp [intOf]; omega
      | true =>
        rw [hbo] at hbit
        have hkt : keptTo keep D.opn (k + 1) = keptTo keep D.opn k ++ [(A, B)] := by simp only [keptTo, hbo, if_true, HG.out]
        have HT := Lib.hid hkt
        clear hkt hbo
        go_wp2_with (at_builtin; refine wpList_append_own _ rfl (.tmp 28) (.tmp 30) 61 rfl w.heap.size 66 i0 (.agg #[.int .i64 0, .string ByteArray.empty]) 2 24 Try.underlying61 hi hz0 hz1 hz2 rfl (by decide) _ _ _ rfl ((ho.alloc _).alloc _) ⟨wr.heap.size + 1, 0, none⟩ 1 1 [.int .i64 (A : Int), .string B] rfl rfl ?c1 ?c2 ?c3 ?c4 ?c5 ?_)
        case c1 =>
          intro j u hj
          match j, hj with
          | 0, hj => simp at hj; subst hj; simp [Addr.add]
          | 1, hj => simp at hj; subst hj; simp [Addr.add]
        case c2 =>
          intro u hu
          simp at hu
          rcases hu with rfl | rfl <;> rfl
        case c3 => unfold maxLen; omega
        case c4 => omega
        case c5 => have := hkp.size; simp; omega
        intro v' w2 hown2 hg2 _
        have hO : w2.ownsRow w.heap.size 66 2 v' (keptTo keep D.opn (k + 1)).length (openCells (keptTo keep D.opn (k + 1))) := by
          rw [HT.out]
          simpa [openCells_append, openCells] using hown2
        have hK : Kept (fun _ => False) w w2 := by
          refine Kept.trans' ((hkp.alloc _).alloc _) (Kept.of_grown hg2) ?_
          intro i hi
          exact .inr (ho.lt i hi).1
        clear hown2 hg2 ho hkp
        go_wp2
        go_roundw
        case rel => exact ⟨k + 1, by omega, by go_num, hO, hK⟩
        case measure => simp [intOf]; omega
    · obtain rfl : k = D.opn.length := by omega
      have hkl := keptTo_le keep D.opn D.opn.length
      have hd := h.kept hkp (fun _ _ => id)
      have hcr : D.crashed keep torn = ⟨D.size, crashSecs D.secs (keptTo keep D.opn D.opn.length) (cutOf torn D.size), [], D.fuse.reset⟩ := rfl
      have hmem : ∀ x ∈ keptTo keep D.opn D.opn.length, x.1 < D.secs.length ∧ x.2.size = D.size := fun x hx => ok.opn x (keptTo_mem (Nat.le_refl _) hx)
      have HC := Lib.hid hcr
      clear hcr
      obtain ⟨a1, cap1, hv⟩ := owns_form ho
      subst hv
      generalize keptTo keep D.opn D.opn.length = ks at *
      have hlp : ∀ k, L.fp k → k < w.heap.size := by
        rintro k (rfl | rfl | rfl | hk)
        · exact h.disk.lt
        · exact h.secs.lt
        · exact Blk.lt h.fuse
        · exact (h.opn.lt k hk).2
      rcases List.eq_nil_or_concat ks with rfl | ⟨init, x, rfl⟩
      · have HL := disk_last_walk base L D a1 cap1 [] wr hd (owns_base ho hsz) (by simp) (by simp)
        clear ho
        go_wp2_with (first | (go_at_call 31; refine HL.mono ?_; rintro e w2 ⟨rfl, hto⟩; have q2 := hto.1.disk.cell 3; simp at q2) | (go_at_call 32; refine (fuse_reset L.bf D.fuse w2 hto.1.fuse).mono ?_; rintro e w3 ⟨rfl, hto3⟩))
        go_end0
        refine ⟨rfl, .slice none 0 0, ?_, ?_, fun _ hg => by cases hg⟩
        · rw [HC.out]
          exact hto.1.fuseTo hto3
        · exact ((hkp.mono fun _ => False.elim).trans hto.2).trans (Lay.fp_bf hto3)
      · obtain ⟨A, B⟩ := x
        have hAB := hmem (A, B) (by simp)
        simp only at hAB
        obtain ⟨hA, hB⟩ := hAB
        have hcs : crashSecs D.secs (init.concat (A, B)) (cutOf torn D.size) = (lay D.secs init).set A (tear B ((lay D.secs init).getD A ByteArray.empty) (cutOf torn D.size)) := by
          simp [crashSecs, List.getLast?_append]
        have hlen : (init.concat (A, B)).length = init.length + 1 := by simp
        rw [hlen] at ho hkl
        obtain ⟨g1, hg1⟩ : ∃ g, a1 = some ⟨g, 0, none⟩ := by
          rcases ho.2 with ⟨hv, hz⟩ | ⟨g, _, _, hv, _⟩
          · omega
          · injection hv with e _ _; exact ⟨g, e⟩
        subst hg1
        have x0 := ho.cells (g := g1) rfl (init.length * 2) (.int .i64 (A : Int)) (by simp [openCells_append, openCells, openCells_length])
        have x1 := ho.cells (g := g1) rfl (init.length * 2 + 1) (.string B) (by simp [openCells_append, openCells, openCells_length])
        rw [addr_add] at x0 x1
        have hcap : init.length + 1 ≤ cap1 := by
          rcases ho.2 with ⟨_, hz⟩ | ⟨_, _, _, hv, _, _, hc, _⟩
          · omega
          · injection hv with _ _ e; omega
        have hoi : wr.ownsRow w.heap.size 66 2 (.slice (some ⟨g1, 0, none⟩) init.length cap1) init.length (openCells init) := by
          have := owns_take ho init.length (by omega)
          simpa [openCells_append, openCells_length] using this
        clear ho
        have HCS := Lib.hid hcs
        clear hcs
        have HL := disk_last_walk base L D (some ⟨g1, 0, none⟩) cap1 init (wr.alloc (.cells #[.int .i64 (A : Int), .string B] 66)) (hd.alloc _) ((owns_base hoi hsz).alloc _) (fun i hi => (hmem _ (by simp [List.getElem_mem])).1) (by omega)
        have hcc : (min (max torn 0) (D.size : Int)) = ((cutOf torn D.size : Nat) : Int) := by unfold cutOf; omega
        have hc1 : cutOf torn D.size ≤ D.size := by unfold cutOf; omega
        have hls := lay_sizes (l := init) ok.secs (fun x hx => (hmem x (by simp [hx])).2)
        generalize cutOf torn D.size = c at *
        have hA' : A < (lay D.secs init).length := by rw [lay_length]; exact hA
        have hold : (lay D.secs init).getD A ByteArray.empty = (lay D.secs init)[A] := by simp [hA']
        have hos := hls _ (List.getElem_mem hA')
        rw [hold] at HCS
        go_wp2_with (first | (go_at_call 31; refine HL.mono ?_; rintro e w2 ⟨rfl, hto⟩; have q0 := hto.1.disk.cell 0; have q1 := hto.1.disk.cell 1; have q3 := hto.1.disk.cell 3; simp [lay_length] at q0 q1 q3))
        have b0 : w2.cell? ⟨wr.heap.size, 0, none⟩ = some (.int .i64 (A : Int)) := (hto.2.cell (p := ⟨wr.heap.size, 0, none⟩) (by simp) (fun hf => by have := hlp _ hf; have := hkp.size; simp only at *; omega)).trans (box_0 _ _ _ _)
        have b1 : w2.cell? ⟨wr.heap.size, 1, none⟩ = some (.string B) := (hto.2.cell (p := ⟨wr.heap.size, 1, none⟩) (by simp) (fun hf => by have := hlp _ hf; have := hkp.size; simp only at *; omega)).trans (box_1 _ _ _ _)
        have sc := hto.1.secs.cell A
        rw [secCells_at _ _ hA'] at sc
        generalize (lay D.secs init)[A] = OLD at *
        clear HL hls hmem hd hkl
        have hbig : ¬ 9223372036854775807 < D.size := by have := ok.size1; omega
        have htear : tear B OLD c = B.extract 0 c ++ OLD.extract c D.size := by unfold tear; rw [hos]
        rw [htear] at HCS
        clear htear
        go_wp2
        go_region
        generalize hT : B.extract 0 c ++ OLD.extract c D.size = T at *
        have hw2 : base ≤ w2.heap.size := by have := hto.2.size; have := hkp.size; simp at *; omega
        have ho2 : (w2.alloc (.cells #[.int .i64 (A : Int), .string T] 66)).drew.ownsRow base 66 2 (.slice (some ⟨w2.heap.size, 0, none⟩) 1 1) 1 (openCells [(A, T)]) :=
          owns_drew (owns_of_blk (Blk.new w2 #[.int .i64 (A : Int), .string T] 66) hw2 1 (by decide) rfl rfl)
        have hone : ∀ i (h : i < [(A, T)].length), ([(A, T)][i]).1 < (lay D.secs init).length := by
          intro i hi
          obtain rfl : i = 0 := by simpa using hi
          exact hA'
        have HL2 := disk_last_walk base _ _ (some ⟨w2.heap.size, 0, none⟩) 1 [(A, T)] _ (hto.1.alloc (.cells #[.int .i64 (A : Int), .string T] 66)).drew ho2 hone (by simp)
        go_wp2_with (first | (go_at_call 31; refine HL2.mono ?_; rintro e w3 ⟨rfl, hto3⟩; have q2 := hto3.1.disk.cell 3; simp at q2) | (go_at_call 32; refine (fuse_reset L.bf D.fuse w3 hto3.1.fuse).mono ?_; rintro e w4 ⟨rfl, hto4⟩))
        go_end0
        refine ⟨rfl, .slice none 0 0, ?_, ?_, fun _ hg => by cases hg⟩
        · rw [HC.out, HCS.out]
          exact hto3.1.fuseTo hto4
        · have k2 : Kept L.fp w w2 := ((hkp.mono fun _ => False.elim).alloc _).trans hto.2
          have k3 : Kept L.fp w w3 := ((k2.alloc _).drew).trans (hto3.2.mono fun k hk => by
            rcases hk with hk | hk | hk | hk
            · exact .inl hk
            · exact .inr (.inl hk)
            · exact .inr (.inr (.inl hk))
            · cases hk)
          exact k3.trans (Lay.fp_bf hto4)
end Go.Proofs.Ytbajhplblnemnaa
