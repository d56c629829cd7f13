/- The walks of the reference's Flush, New, Crash. -/
import Derived.Test.YtbajhplblnemnaaRef
import Derived.Deep.LoopGhost
namespace Go.Proofs.Ytbajhplblnemnaa
open Go.RowKit
set_option linter.unusedVariables false

def RefSt.flushed (D : RefSt) : RefSt := if D.fuse.blowsNow = true then { D with fuse := D.fuse.spend } else { D with last := D.now, wh := [], what := [], fuse := D.fuse.spend }
def RefSt.flushes (D : RefSt) : Int := if D.fuse.blowsNow = true then 2 else 0

theorem ref_flush (b0 base : Nat) (M : RLay) (D : RefSt) (w : World) (h : RefIs b0 base w M D) (ok : D.fuse.Ok) :
    Calls Try.prog 23 #[.pointer (some ⟨M.md, 0, none⟩)] w fun e w' => e = .returned (.int .i64 D.flushes) ∧ RefTo b0 base w M D.flushed w' := by
  obtain ⟨md, mf, lv, nv, wv, tv⟩ := M
  obtain ⟨na, nc, hnv⟩ := owns_form h.now
  simp only at hnv
  subst hnv
  have c5 := h.disk.cell 5
  simp at c5
  have HF := rfuse_spend mf D.fuse w h.fuse ok
  unfold RefSt.flushes RefSt.flushed
  cases hb : D.fuse.blowsNow with
  | true =>
    rw [hb] at HF
    rw [if_pos rfl, if_pos rfl]
    clear hb
    go_enter Try.func23, Try.ntmps23
    go_wp2_with (go_at_call 34; refine HF.mono ?_; rintro e w1 ⟨rfl, hto⟩)
    go_ret
    exact ⟨rfl, lv, _, wv, tv, h.fuseTo hto, RLay.fp_mf hto⟩
  | false =>
    rw [hb] at HF
    rw [if_neg (by simp), if_neg (by simp)]
    clear hb
    go_enter Try.func23, Try.ntmps23
    go_wp2_with (go_at_call 34; refine HF.mono ?_; rintro e w1 ⟨rfl, hto⟩; have h1 := h.fuseTo hto; have q1 := h1.disk.cell 1; have q2 := h1.disk.cell 2; have q3 := h1.disk.cell 3; have q4 := h1.disk.cell 4; have f1 := h1.disk.frozen ⟨md, 1, none⟩ rfl; have f3 := h1.disk.frozen ⟨md, 3, none⟩ rfl; have f4 := h1.disk.frozen ⟨md, 4, none⟩ rfl; simp at q1 q2 q3 q4)
    go_ret
    have hA := h1.setLast h1.now rfl
    have hB := hA.setWh (v := .slice none 0 0) (n := []) (m := 0) (World.ownsRow_nil _ _ _ _) rfl
    have hC := hB.setWhat (v := .slice none 0 0) (n := []) (m := 0) (World.ownsRow_nil _ _ _ _) rfl
    refine ⟨rfl, _, _, _, _, hC, ?_⟩
    exact (((RLay.fp_mf hto).setCell (.inl (.inl rfl)) _).setCell (.inl (.inl rfl)) _).setCell (.inl (.inl rfl)) _

theorem info5 : (Try.prog.info? 5).map (fun i => (i.zero, i.size, i.bytes)) = some (some (.int .u8 0), 1, 1) := by kernel_rfl
def RefSt.fresh (size n : Int) (F : RFuse) : RefSt := ⟨sizeOfN size, List.replicate (numOfN n) (rep 0 (sizeOfN size)), List.replicate (numOfN n) (rep 0 (sizeOfN size)), [], [], F⟩

theorem zero_conv (w : World) (S : Nat) (hS : S ≤ 1024) : (convert 67 9 (.slice (some ⟨w.heap.size, 0, none⟩) S S)).run Try.prog (w.alloc (.cells (madeCells #[.int .u8 0] S) 5)) = .ok (.string (rep 0 S)) (w.alloc (.cells (madeCells #[.int .u8 0] S) 5)) := by
  have h := run_convert_bytes_back (P := Try.prog) (w.alloc (.cells (madeCells #[.int .u8 0] S) 5)) 67 9 5 ⟨w.heap.size, 0, none⟩ S (List.replicate S 0) Try.underlying67 Try.underlying5 Try.underlying9
    (fun j hj => by
      have hj' : j < S := by simpa using hj
      rw [addr_add, World.cell?_alloc_new]
      have : (madeCells #[Value.int .u8 0] S)[j]? = (madeCells #[Value.int .u8 0] S).toList[j]? := by simp
      rw [this, toList_madeCells_one, List.getElem?_replicate, if_pos hj']
      simp)
  simpa [rep] using h

/-- The reference's two lists of sectors, while New lays them. -/
structure NewIs (b0 base : Nat) (w : World) (md mf : Nat) (lv nv : Value) (S k k' : Nat) (F : RFuse) : Prop where
  it : RefIs b0 base w ⟨md, mf, lv, nv, .slice none 0 0, .slice none 0 0⟩ ⟨S, List.replicate k (rep 0 S), List.replicate k' (rep 0 S), [], [], F⟩
  ne : ∀ g, lv.ownBlock = some g → nv.ownBlock ≠ some g

theorem NewIs.step {b0 base : Nat} {w w' : World} {md mf : Nat} {lv nv : Value} {S k k' : Nat} {F : RFuse} (h : NewIs b0 base w md mf lv nv S k k' F) {v : Value} (hv : (v = lv ∨ v = nv)) (K : Kept (fun g => v.ownBlock = some g) w w') :
    Blk w' md #[.int .i64 (S : Int), lv, nv, .slice none 0 0, .slice none 0 0, .pointer (some ⟨mf, 0, none⟩)] 53 ∧ RFuseIs w' mf F := by
  have hr : ∀ b, v.ownBlock = some b → ¬ RLay.fp ⟨md, mf, lv, nv, .slice none 0 0, .slice none 0 0⟩ b := fun b hb => h.it.row_fp b (by rcases hv with rfl | rfl; exact .inl hb; exact .inr (.inl hb))
  exact ⟨h.it.disk.kept K (fun e => hr _ e (.inl rfl)), Blk.kept h.it.fuse K (fun e => hr _ e (.inr rfl))⟩

theorem strVals_snoc (k : Nat) (x : ByteArray) : strVals (List.replicate k x) ++ [Value.string x] = strVals (List.replicate (k + 1) x) := by
  rw [List.replicate_succ']
  simp [strVals]
theorem NewIs.setLast {b0 base : Nat} {w w' : World} {md mf : Nat} {lv nv : Value} {S k k' : Nat} {F : RFuse} (h : NewIs b0 base w md mf lv nv S k k' F) (K : Kept (fun g => lv.ownBlock = some g) w w') {v : Value}
    (ho : w'.ownsRow base 9 1 v (k + 1) (strVals (List.replicate k (rep 0 S)) ++ [.string (rep 0 S)])) (hf : ∀ g, v.ownBlock = some g → lv.ownBlock = some g ∨ w.heap.size + 1 ≤ g) :
    NewIs b0 base (w'.setCell ⟨md, 1, none⟩ v) md mf v nv S (k + 1) k' F := by
  obtain ⟨d, f⟩ := h.step (.inl rfl) K
  have hn : w'.ownsRow base 9 1 nv k' (strVals (List.replicate k' (rep 0 S))) := owns_kept (by simpa using h.it.now) K (fun g hg e => h.ne g e hg)
  have hd := d.set 1 v
  have e9 : ∀ {x : Value} {n : Nat} {xs : List Value}, w'.ownsRow base 9 1 x n xs → (w'.setCell ⟨md, 1, none⟩ v).ownsRow base 9 1 x n xs := fun hx =>
    ownsRow_setCell_other hx (a := ⟨md, 1, none⟩) (fun e => by obtain ⟨cur, hc⟩ := owns_blk hx e; exact hc.ne d (by decide) rfl) v
  refine ⟨⟨by simpa using hd, Blk.setOther f (p := ⟨md, 1, none⟩) (d.ne f (by decide)) v, ?_, ?_, World.ownsRow_nil _ _ _ _, World.ownsRow_nil _ _ _ _, h.it.c0, h.it.c1⟩, ?_⟩
  · rw [strVals_snoc] at ho
    simpa using e9 ho
  · simpa using e9 hn
  · intro g hg hng
    rcases hf g hg with h1 | h1
    · exact h.ne g h1 hng
    · have := (h.it.now.lt g hng).2
      omega
theorem NewIs.setNow {b0 base : Nat} {w w' : World} {md mf : Nat} {lv nv : Value} {S k k' : Nat} {F : RFuse} (h : NewIs b0 base w md mf lv nv S k k' F) (K : Kept (fun g => nv.ownBlock = some g) w w') {v : Value}
    (ho : w'.ownsRow base 9 1 v (k' + 1) (strVals (List.replicate k' (rep 0 S)) ++ [.string (rep 0 S)])) (hf : ∀ g, v.ownBlock = some g → nv.ownBlock = some g ∨ w.heap.size + 1 ≤ g) :
    NewIs b0 base (w'.setCell ⟨md, 2, none⟩ v) md mf lv v S k (k' + 1) F := by
  obtain ⟨d, f⟩ := h.step (.inr rfl) K
  have hn : w'.ownsRow base 9 1 lv k (strVals (List.replicate k (rep 0 S))) := owns_kept (by simpa using h.it.last) K (fun g hg e => h.ne g hg e)
  have hd := d.set 2 v
  have e9 : ∀ {x : Value} {n : Nat} {xs : List Value}, w'.ownsRow base 9 1 x n xs → (w'.setCell ⟨md, 2, none⟩ v).ownsRow base 9 1 x n xs := fun hx =>
    ownsRow_setCell_other hx (a := ⟨md, 2, none⟩) (fun e => by obtain ⟨cur, hc⟩ := owns_blk hx e; exact hc.ne d (by decide) rfl) v
  refine ⟨⟨by simpa using hd, Blk.setOther f (p := ⟨md, 2, none⟩) (d.ne f (by decide)) v, ?_, ?_, World.ownsRow_nil _ _ _ _, World.ownsRow_nil _ _ _ _, h.it.c0, h.it.c1⟩, ?_⟩
  · simpa using e9 hn
  · rw [strVals_snoc] at ho
    simpa using e9 ho
  · intro g hg hvg
    rcases hf g hvg with h1 | h1
    · exact h.ne g hg h1
    · have := (h.it.last.lt g hg).2
      omega

set_option maxHeartbeats 1000000 in
theorem ref_new (b0 : Nat) (size n : Int) (mf : Nat) (F : RFuse) (w : World) (h : RFuseIs w mf F) (hb : b0 ≤ mf) (hbw : b0 ≤ w.heap.size) :
    Calls Try.prog 19 #[.int .i64 size, .int .i64 n, .pointer (some ⟨mf, 0, none⟩)] w fun e w' => e = .returned (.pointer (some ⟨w.heap.size, 0, none⟩)) ∧
      (∃ lv nv, RefIs b0 w.heap.size w' ⟨w.heap.size, mf, lv, nv, .slice none 0 0, .slice none 0 0⟩ (RefSt.fresh size n F)) ∧ Below w.heap.size w w' := by
  have CS := fun u => clamp_any size 128 1024 u (by omega)
  have CN := fun u => clamp_any n 4 1024 u (by omega)
  rw [show (min (max size 128) 1024 : Int) = (sizeOfN size : Int) from by unfold sizeOfN; omega] at CS
  rw [show (min (max n 4) 1024 : Int) = (numOfN n : Int) from by unfold numOfN; omega] at CN
  have hfr : RefSt.fresh size n F = ⟨sizeOfN size, List.replicate (numOfN n) (rep 0 (sizeOfN size)), List.replicate (numOfN n) (rep 0 (sizeOfN size)), [], [], F⟩ := rfl
  have hS1 : sizeOfN size ≤ 1024 := by unfold sizeOfN; omega
  have hN1 : numOfN n ≤ 1024 := by unfold numOfN; omega
  generalize sizeOfN size = S at *
  generalize numOfN n = N at *
  have HFR := Lib.hid hfr
  clear hfr
  have hmf := Blk.lt h
  obtain ⟨i0, hi0, hz0, hz1, hz2⟩ := info_parts info9
  have hmk := run_make_row' (P := Try.prog) 67 5 (.int .u8 0) 1 Try.underlying67 info5 rfl .i64 .i64 S (by omega) (by omega)
  have hcv := zero_conv (w.alloc (.cells #[.int .i64 (S : Int), .slice none 0 0, .slice none 0 0, .slice none 0 0, .slice none 0 0, .pointer (some ⟨mf, 0, none⟩)] 53)) S hS1
  simp only [World.size_alloc] at hcv
  go_enter Try.func19, Try.ntmps19
  go_wp2_with (go_at_call 33; refine (CS _).mono ?_; rintro e w1 ⟨rfl, rfl⟩)
  clear hcv hmk
  go_loopw [9] (fun i wr => ∃ k : Nat, k ≤ N ∧ i = .int .i64 (k : Int) ∧ ∃ lv nv, NewIs b0 w.heap.size wr w.heap.size mf lv nv S k k F ∧ Below w.heap.size w wr)
    (fun i _ => N - (intOf i).toNat)
  case atStart =>
    refine ⟨0, Nat.zero_le _, rfl, .slice none 0 0, .slice none 0 0, ⟨⟨(Blk.new w _ 53).alloc _, (Blk.alloc h _).alloc _, World.ownsRow_nil _ _ _ _, World.ownsRow_nil _ _ _ _, World.ownsRow_nil _ _ _ _, World.ownsRow_nil _ _ _ _, hbw, hb⟩, by simp [Value.ownBlock]⟩, ?_⟩
    exact ((Below.refl _ _).alloc (Nat.le_refl _) _).alloc (by simp) _
  case round =>
    obtain ⟨k, hk, rfl, lv, nv, hR, hB⟩ := hrel
    have hsz := hB.size
    by_cases hlt : k < N
    · go_upto_region 6 with (go_at_call 33; refine (CN _).mono ?_; rintro e w1 ⟨rfl, rfl⟩)
      go_cut [] (fun wx => ∃ lv', NewIs b0 w.heap.size wx w.heap.size mf lv' nv S (k + 1) k F ∧ Below w.heap.size w wx)
      case first =>
        have q1 := hR.it.disk.cell 1
        simp at q1
        have ho : wr.ownsRow w.heap.size 9 1 lv k (strVals (List.replicate k (rep 0 S))) := by simpa using hR.it.last
        have hm4 : k + 1 ≤ maxLen := by unfold maxLen; omega
        have hm5 : (k + 1) * 16 ≤ 140737488355328 := by omega
        go_wp2_with (at_builtin; refine wpList_append_own_f _ rfl (.tmp 31) (.tmp 33) 50 rfl w.heap.size 9 i0 (.string ByteArray.empty) 1 16 Try.underlying50 hi0 hz0 hz1 hz2 rfl (by decide) lv _ _ rfl (ho.alloc _) ⟨wr.heap.size, 0, none⟩ 1 1 [.string (rep 0 S)] rfl rfl (one_cell_new _ _ _) (one_cell_str _) hm4 hm5 (Nat.le_trans hsz (le_alloc _ _)) ?_; intro v4 w4 hown4 hg4 hf4; obtain ⟨a4, cp4, hv4⟩ := owns_form hown4; subst hv4; have K4 := ((Kept.refl (fun g => lv.ownBlock = some g) wr).alloc _).trans (Kept.of_grown hg4); have h4 := hR.step (.inl rfl) K4; have p3 := h4.1.cell 1; have fr3 := h4.1.frozen ⟨w.heap.size, 1, none⟩ rfl; simp at p3)
        have hfin := hR.setLast K4 hown4 (fun g hg => (hf4 g hg).imp id (fun h' => by simpa using h'))
        have kfin : Below w.heap.size w (w4.setCell ⟨w.heap.size, 1, none⟩ (.slice a4 (k + 1) cp4)) :=
          ((hB.alloc hsz _).grown hg4 (Nat.le_trans hsz (le_alloc _ _)) (fun g hg => (ho.lt g hg).1)).setCell (Nat.le_refl _) _
        clear hown4 hg4 hf4 h4 K4 ho
        go_wp2
        go_meet
        exact ⟨_, hfin, kfin⟩
      case rest =>
        obtain ⟨lv', hR', hB'⟩ := hcut
        clear hR hB hsz
        have hsz := hB'.size
        go_upto_region 7 with fail
        have q2 := hR'.it.disk.cell 2
        simp at q2
        have ho : wc.ownsRow w.heap.size 9 1 nv k (strVals (List.replicate k (rep 0 S))) := by simpa using hR'.it.now
        have hm4 : k + 1 ≤ maxLen := by unfold maxLen; omega
        have hm5 : (k + 1) * 16 ≤ 140737488355328 := by omega
        go_wp2_with (at_builtin; refine wpList_append_own_f _ rfl (.tmp 41) (.tmp 43) 50 rfl w.heap.size 9 i0 (.string ByteArray.empty) 1 16 Try.underlying50 hi0 hz0 hz1 hz2 rfl (by decide) nv _ _ rfl (ho.alloc _) ⟨wc.heap.size, 0, none⟩ 1 1 [.string (rep 0 S)] rfl rfl (one_cell_new _ _ _) (one_cell_str _) hm4 hm5 (Nat.le_trans hsz (le_alloc _ _)) ?_; intro v4 w4 hown4 hg4 hf4; obtain ⟨a4, cp4, hv4⟩ := owns_form hown4; subst hv4; have K4 := ((Kept.refl (fun g => nv.ownBlock = some g) wc).alloc _).trans (Kept.of_grown hg4); have h4 := hR'.step (.inr rfl) K4; have p3 := h4.1.cell 2; have fr3 := h4.1.frozen ⟨w.heap.size, 2, none⟩ rfl; simp at p3)
        have hfin := hR'.setNow K4 hown4 (fun g hg => (hf4 g hg).imp id (fun h' => by simpa using h'))
        have kfin : Below w.heap.size w (w4.setCell ⟨w.heap.size, 2, none⟩ (.slice a4 (k + 1) cp4)) :=
          ((hB'.alloc hsz _).grown hg4 (Nat.le_trans hsz (le_alloc _ _)) (fun g hg => (ho.lt g hg).1)).setCell (Nat.le_refl _) _
        clear hown4 hg4 hf4 h4 K4 ho
        go_wp2
        go_roundw
        case rel => exact ⟨k + 1, by omega, by go_num, _, _, hfin, kfin⟩
        case measure => simp [intOf]; omega
    · obtain rfl : k = N := by omega
      have hfin := hR.it
      clear hR
      go_wp2_with (go_at_call 33; refine (CN _).mono ?_; rintro e w1 ⟨rfl, rfl⟩)
      go_ret
      exact ⟨rfl, ⟨lv, nv, by rw [HFR.out]; exact hfin⟩, hB⟩
end Go.Proofs.Ytbajhplblnemnaa
