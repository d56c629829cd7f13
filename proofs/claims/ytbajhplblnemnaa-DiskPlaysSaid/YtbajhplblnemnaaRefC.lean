/- The walk of the reference's Crash. -/
import Derived.Test.YtbajhplblnemnaaRefG
import Derived.BigRegion
import Derived.Deep.RegionHeld3
namespace Go.Proofs.Ytbajhplblnemnaa
open Go.RowKit
set_option linter.unusedVariables false

/-- The last write that lasts, of the first so many. -/
def lastOn (keep : Nat) : Nat → Int
  | 0 => -1
  | k + 1 => if bitOn keep k = true then (k : Int) else lastOn keep k
theorem lastOn_lt (keep k : Nat) : -1 ≤ lastOn keep k ∧ lastOn keep k < k := by
  induction k with
  | zero => simp [lastOn]
  | succ k ih => unfold lastOn; split <;> omega

/-- What the reference's sectors are behind the first so many writes. -/
def refLay (D : RefSt) (keep c : Nat) (L : Int) : Nat → List ByteArray
  | 0 => D.last
  | k + 1 => if bitOn keep k = true then
      (refLay D keep c L k).set (D.wh.getD k 0) (if (k : Int) = L then tear (D.what.getD k ByteArray.empty) ((refLay D keep c L k).getD (D.wh.getD k 0) ByteArray.empty) c else D.what.getD k ByteArray.empty)
    else refLay D keep c L k
theorem refLay_length (D : RefSt) (keep c : Nat) (L : Int) (k : Nat) : (refLay D keep c L k).length = D.last.length := by
  induction k with
  | zero => rfl
  | succ k ih => unfold refLay; split <;> simp [ih]

/-- The reference's halved number at step k. -/
def HalfIs (keep k q : Nat) : Prop := q ≤ 18446744073709551615 ∧ (k % 64 ≠ 0 → q = keep / 2 ^ (k % 64))
theorem HalfIs.next {keep k q : Nat} (hk : keep ≤ 18446744073709551615) (h : q = keep / 2 ^ (k % 64)) : HalfIs keep (k + 1) (q / 2) := by
  subst h
  refine ⟨Nat.le_trans (Nat.div_le_self _ _) (Nat.le_trans (Nat.div_le_self _ _) hk), fun h => ?_⟩
  have e : (k + 1) % 64 = k % 64 + 1 := by omega
  rw [e, Nat.pow_succ, Nat.div_div_eq_div_mul]
theorem half_bit {keep k q : Nat} (h : q = keep / 2 ^ (k % 64)) : ((q : Int) % 2 == 1) = bitOn keep k := by
  subst h
  unfold bitOn
  generalize keep / 2 ^ (k % 64) = r
  rw [Bool.eq_iff_iff]
  simp only [beq_iff_eq]
  omega

structure RefSt.Fits (D : RefSt) : Prop where
  size0 : 128 ≤ D.size
  size1 : D.size ≤ 1024
  num0 : 4 ≤ D.now.length
  num1 : D.now.length ≤ 1024
  nums : D.last.length = D.now.length
  last : ∀ s ∈ D.last, s.size = D.size
  same : D.wh.length = D.what.length
  wh : ∀ x ∈ D.wh, x < D.now.length
  what : ∀ x ∈ D.what, x.size = D.size
  few : D.wh.length ≤ 100000
  fuse : D.fuse.Ok

theorem refLay_sizes {D : RefSt} (ok : D.Fits) {keep c : Nat} (hc : c ≤ D.size) (L : Int) (k : Nat) (hk : k ≤ D.wh.length) : ∀ s ∈ refLay D keep c L k, s.size = D.size := by
  induction k with
  | zero => exact ok.last
  | succ k ih =>
    have ih := ih (by omega)
    have hlw : k < D.what.length := by have := ok.same; omega
    have hlt : k < D.wh.length := by omega
    have hA : D.wh.getD k 0 < (refLay D keep c L k).length := by rw [refLay_length, ok.nums]; simp [hlt]; exact ok.wh _ (List.getElem_mem hlt)
    have hB : (D.what.getD k ByteArray.empty).size = D.size := by simp [hlw]; exact ok.what _ (List.getElem_mem hlw)
    unfold refLay
    split
    · intro s hs
      rcases List.mem_or_eq_of_mem_set hs with h | h
      · exact ih s h
      · subst h
        split
        · refine tear_size hB ?_ hc
          rw [List.getD_eq_getElem?_getD, List.getElem?_eq_getElem hA]
          exact ih _ (List.getElem_mem hA)
        · exact hB
    · exact ih

/-- What a crash makes of the reference. -/
def RefSt.crashed (D : RefSt) (keep : Nat) (torn : Int) : RefSt :=
  ⟨D.size, refLay D keep (cutOf torn D.size) (lastOn keep D.wh.length) D.wh.length, refLay D keep (cutOf torn D.size) (lastOn keep D.wh.length) D.wh.length, [], [], D.fuse.reset⟩

set_option maxRecDepth 100000 in
set_option maxHeartbeats 2000000 in
theorem ref_crash (b0 base : Nat) (M : RLay) (D : RefSt) (keep torn : Int) (w : World) (h : RefIs b0 base w M D) (ok : D.Fits) (hk0 : 0 ≤ keep) (hk1 : keep ≤ 18446744073709551615) (hbase : base ≤ w.heap.size) :
    Calls Try.prog 24 #[.pointer (some ⟨M.md, 0, none⟩), .int .u64 keep, .int .i64 torn] w fun e w' => e = .returned (.tuple #[]) ∧ RefTo b0 base w M (D.crashed keep.toNat torn) w' := by
  obtain ⟨keep, rfl⟩ := Int.eq_ofNat_of_zero_le hk0
  have hk2 : keep ≤ 18446744073709551615 := by omega
  obtain ⟨wa, wc0, hwv⟩ := owns_form h.wh
  have c3 := h.disk.cell 3
  rw [hwv] at c3
  simp at c3
  have few := ok.few
  have hcr : D.crashed keep torn = ⟨D.size, refLay D keep (cutOf torn D.size) (lastOn keep D.wh.length) D.wh.length, refLay D keep (cutOf torn D.size) (lastOn keep D.wh.length) D.wh.length, [], [], D.fuse.reset⟩ := rfl
  have HCR := Lib.hid hcr
  clear hcr
  have CT := fun u => clamp_any torn 0 (D.size : Int) u (by omega)
  rw [show (min (max torn 0) (D.size : Int) : Int) = (cutOf torn D.size : Int) from by unfold cutOf; omega] at CT
  have hc1 : cutOf torn D.size ≤ D.size := cutOf_le _ _
  generalize cutOf torn D.size = c at *
  obtain ⟨L, hL⟩ : ∃ L, L = lastOn keep D.wh.length := ⟨_, rfl⟩
  have hL1 := lastOn_lt keep D.wh.length
  rw [← hL] at hL1 HCR
  have HL0 := Lib.hid hL
  rw [Int.toNat_natCast]
  clear hL
  go_enter Try.func24, Try.ntmps24
  go_wp2
  go_loop [6, 7, 8] (fun t6 t7 t8 => ∃ k : Nat, k ≤ D.wh.length ∧ t8 = .int .i64 (k : Int) ∧ t6 = .int .i64 (lastOn keep k) ∧ ∃ q : Nat, t7 = .int .u64 (q : Int) ∧ HalfIs keep k q)
    (fun _ _ t8 => D.wh.length - (intOf t8).toNat)
  case atStart => exact ⟨0, Nat.zero_le _, rfl, rfl, keep, rfl, hk2, by simp⟩
  case round =>
    obtain ⟨k, hk, rfl, rfl, q, rfl, hq1, hq2⟩ := hrel
    by_cases hlt : k < D.wh.length
    · by_cases h64 : k % 64 = 0
      · have hb := half_bit (keep := keep) (k := k) (q := keep) (by rw [h64]; simp)
        have hb64 : ((k : Int) % 64 == 0) = true := by simp; omega
        have hn := HalfIs.next (keep := keep) (k := k) (q := keep) hk2 (by rw [h64]; simp)
        cases hbo : bitOn keep k with
        | true =>
          rw [hbo] at hb
          have hl : lastOn keep (k + 1) = (k : Int) := by simp [lastOn, hbo]
          have HL := Lib.hid hl
          clear hl hbo h64
          go_wp2
          go_round
          case rel => exact ⟨k + 1, by omega, by go_num, by rw [HL.out], keep / 2, by simp, hn⟩
          case measure => simp [intOf]; omega
        | false =>
          rw [hbo] at hb
          have hl : lastOn keep (k + 1) = lastOn keep k := by simp [lastOn, hbo]
          have HL := Lib.hid hl
          clear hl hbo h64
          go_wp2
          go_round
          case rel => exact ⟨k + 1, by omega, by go_num, by rw [HL.out], keep / 2, by simp, hn⟩
          case measure => simp [intOf]; omega
      · have hq := hq2 h64
        have hb := half_bit (keep := keep) (k := k) (q := q) hq
        have hb64 : ((k : Int) % 64 == 0) = false := by simp; omega
        have hn := HalfIs.next (keep := keep) (k := k) (q := q) hk2 hq
        clear hq hq2
        cases hbo : bitOn keep k with
        | true =>
          rw [hbo] at hb
          have hl : lastOn keep (k + 1) = (k : Int) := by simp [lastOn, hbo]
          have HL := Lib.hid hl
          clear hl hbo h64
          go_wp2
          go_round
          case rel => exact ⟨k + 1, by omega, by go_num, by rw [HL.out], q / 2, by simp, hn⟩
          case measure => simp [intOf]; omega
        | false =>
          rw [hbo] at hb
          have hl : lastOn keep (k + 1) = lastOn keep k := by simp [lastOn, hbo]
          have HL := Lib.hid hl
          clear hl hbo h64
          go_wp2
          go_round
          case rel => exact ⟨k + 1, by omega, by go_num, by rw [HL.out], q / 2, by simp, hn⟩
          case measure => simp [intOf]; omega
    · obtain rfl : k = D.wh.length := by omega
      rw [← HL0.out]
      clear hq1 hq2 hk hlt
      go_wp2
      go_loopw [7, 9] (fun t7 t9 wr => ∃ k : Nat, k ≤ D.wh.length ∧ t9 = .int .i64 (k : Int) ∧ ∃ q : Nat, t7 = .int .u64 (q : Int) ∧ HalfIs keep k q ∧ ∃ lv, RefIs b0 base wr { M with lv := lv } { D with last := refLay D keep c L k } ∧ Kept M.fp w wr)
        (fun _ t9 _ => D.wh.length - (intOf t9).toNat)
      case atStart => exact ⟨0, Nat.zero_le _, rfl, keep, rfl, ⟨hk2, by simp⟩, M.lv, h, Kept.refl _ _⟩
      case round =>
        obtain ⟨k, hk, rfl, q, rfl, ⟨hq1, hq2⟩, lv, hR, kR⟩ := hrel
        have d3 := hR.disk.cell 3
        simp at d3
        rw [hwv] at d3
        by_cases hlt : k < D.wh.length
        · have hlw : k < D.what.length := by have := ok.same; omega
          obtain ⟨gw, _, hgw, _, hcw⟩ := owns_some hR.wh (by simp only; omega)
          have hgw := hwv.symm.trans hgw
          injection hgw with e1 _ e3
          subst e1
          subst e3
          obtain ⟨gt, ct, hgt, _, hct⟩ := owns_some hR.what (by simp only; omega)
          have hxw := hR.wh
          have hxt := hR.what
          simp only at hxw hxt hgt
          rw [hwv] at hxw
          rw [hgt] at hxt
          have x0 := hxw.cellAt k (by omega)
          have y0 := hxt.cellAt k (by omega)
          rw [show (intVals D.wh)[k]? = some (.int .i64 ((D.wh.getD k 0 : Nat) : Int)) from by simp [intVals, hlt]] at x0
          rw [show (strVals D.what)[k]? = some (.string (D.what.getD k ByteArray.empty)) from by simp [strVals, hlw]] at y0
          have hin : D.wh.getD k 0 < D.now.length := by simp [hlt]; exact ok.wh _ (List.getElem_mem hlt)
          have hsz : (D.what.getD k ByteArray.empty).size = D.size := by simp [hlw]; exact ok.what _ (List.getElem_mem hlw)
          have hxA : (intVals D.wh)[k]? = some (.int .i64 ((D.wh.getD k 0 : Nat) : Int)) := by simp [intVals, hlt]
          have d4 := hR.disk.cell 4
          simp at d4
          rw [hgt] at d4
          have hsucc : refLay D keep c L (k + 1) = if bitOn keep k = true then (refLay D keep c L k).set (D.wh.getD k 0) (if (k : Int) = L then tear (D.what.getD k ByteArray.empty) ((refLay D keep c L k).getD (D.wh.getD k 0) ByteArray.empty) c else D.what.getD k ByteArray.empty) else refLay D keep c L k := rfl
          have hln := refLay_length D keep c L k
          have hszs := refLay_sizes ok hc1 L k (keep := keep) (by omega)
          have hnums := ok.nums
          have hnum1 : (refLay D keep c L k).length ≤ 1000000 := by have := ok.num1; omega
          have hAS : D.wh.getD k 0 < (refLay D keep c L k).length := by omega
          have hS0 : 0 < (refLay D keep c L k).length := by omega
          clear hln hnums
          generalize D.wh.getD k 0 = A at *
          generalize D.what.getD k ByteArray.empty = B at *
          generalize refLay D keep c L k = SS at *
          have HSS := Lib.hid hsucc
          clear hsucc
          go_upto_if 44 with fail
          go_cut [7] (fun t7 wx => wr = wx ∧ ∃ q : Nat, t7 = .int .u64 (q : Int) ∧ q = keep / 2 ^ (k % 64))
          case first =>
            by_cases h64 : k % 64 = 0
            · have hb64 : ((k : Int) % 64 == 0) = true := by simp; omega
              have hkk : keep = keep / 2 ^ (k % 64) := by rw [h64]; simp
              have HK := Lib.hid hkk
              clear hkk h64 hq2
              go_wp2
              go_meet
              exact ⟨rfl, keep, rfl, HK.out⟩
            · have hb64 : ((k : Int) % 64 == 0) = false := by simp; omega
              have hkk := hq2 h64
              have HK := Lib.hid hkk
              clear hkk h64 hq2
              go_wp2
              go_meet
              exact ⟨rfl, q, rfl, HK.out⟩
          case rest =>
            obtain ⟨rfl, q', rfl, hq'⟩ := hcut
            have hb := half_bit (keep := keep) (k := k) (q := q') hq'
            have hn := HalfIs.next (keep := keep) (k := k) (q := q') hk2 hq'
            have hql : q' ≤ 18446744073709551615 := by rw [hq']; exact Nat.le_trans (Nat.div_le_self _ _) hk2
            clear hq' hq2
            cases hbo : bitOn keep k with
            | false =>
              rw [hbo] at hb
              have hR2 : RefIs b0 base wr { M with lv := lv } { D with last := refLay D keep c L (k + 1) } := by
                have hs := HSS.out
                rw [hbo] at hs
                simp only [Bool.false_eq_true, if_false] at hs
                rw [hs]
                exact hR
              clear hbo
              go_wp2
              go_roundw
              case rel => exact ⟨k + 1, by omega, by go_num, q' / 2, by simp, hn, lv, hR2, kR⟩
              case measure => simp [intOf]; omega
            | true =>
              rw [hbo] at hb
              have HS2 : Hid (refLay D keep c L (k + 1) = SS.set A (if (k : Int) = L then tear B (SS.getD A ByteArray.empty) c else B)) := by
                have hs := HSS.out
                rw [hbo] at hs
                simp only [if_true] at hs
                exact hs
              clear hbo HSS
              obtain ⟨V, hV⟩ : ∃ V, V = (if (k : Int) = L then tear B (SS.getD A ByteArray.empty) c else B) := ⟨_, rfl⟩
              rw [← hV] at HS2
              have HV := Lib.hid hV
              clear hV
              go_upto_if 58 with fail
              go_cut [10] (fun t10 wx => (wr = wx ∨ wr.drew = wx) ∧ t10 = .string V)
              case first =>
                by_cases hkl : (k : Int) = L
                · have hkl2 : ((k : Int) == L) = true := by simpa using hkl
                  have hV := HV.out
                  rw [if_pos hkl] at hV
                  clear hkl HS2 HV
                  obtain ⟨gl, cl, hgl, _, hcl⟩ := owns_some hR.last (by simp only; omega)
                  have hxl := hR.last
                  simp only at hgl hxl
                  rw [hgl] at hxl
                  have z0 := hxl.cellAt A (by omega)
                  rw [show (strVals SS)[A]? = some (.string (SS.getD A ByteArray.empty)) from by simp [strVals, hAS]] at z0
                  have hos : (SS.getD A ByteArray.empty).size = D.size := by simp [hAS]; exact hszs _ (List.getElem_mem hAS)
                  have d1 := hR.disk.cell 1
                  simp at d1
                  rw [hgl] at d1
                  have d0 := hR.disk.cell 0
                  simp at d0
                  have htear : tear B (SS.getD A ByteArray.empty) c = B.extract 0 c ++ (SS.getD A ByteArray.empty).extract c D.size := by unfold tear; rw [hos]
                  rw [htear] at hV
                  clear htear hgl
                  generalize SS.getD A ByteArray.empty = OLD at *
                  have HV := Lib.hid hV
                  clear hV
                  have hbig : ¬ 9223372036854775807 < D.size := by have := ok.size1; omega
                  go_wp2_with (go_at_call 33; refine (CT _).mono ?_; rintro e w1 ⟨rfl, rfl⟩)
                  go_region
                  go_wp2
                  go_meet
                  exact ⟨.inr rfl, by rw [HV.out]⟩
                · have hkl2 : ((k : Int) == L) = false := by simpa using hkl
                  have hV := HV.out
                  rw [if_neg hkl] at hV
                  have HV := Lib.hid hV
                  clear hkl HS2 hV
                  go_wp2
                  go_meet
                  exact ⟨.inl rfl, by rw [HV.out]⟩
              case rest =>
                obtain ⟨hwx, rfl⟩ := hcut
                have hR' : RefIs b0 base wc { M with lv := lv } { D with last := SS } ∧ Kept M.fp w wc := by
                  rcases hwx with h1 | h1
                  · subst h1; exact ⟨hR, kR⟩
                  · subst h1; exact ⟨⟨hR.disk, hR.fuse, hR.last, hR.now, hR.wh, hR.what, hR.c0, hR.c1⟩, kR.drew⟩
                clear hwx hR kR HV x0 y0 d3 d4 hxw hxt
                obtain ⟨hR, kR⟩ := hR'
                obtain ⟨gl, cl, hgl, _, hcl⟩ := owns_some hR.last (by simp only; omega)
                have hxl := hR.last
                have hxw := hR.wh
                simp only at hgl hxl hxw
                rw [hwv] at hxw
                have x0 := hxw.cellAt k (by omega)
                rw [hxA] at x0
                have d1 := hR.disk.cell 1
                have d3 := hR.disk.cell 3
                simp at d1 d3
                rw [hgl] at d1
                rw [hwv] at d3
                rw [hgl] at hxl
                have hll : SS.length ≤ 1000000 := hnum1
                have hxl' : wc.drew.ownsRow base 9 1 (.slice (some ⟨gl, 0, none⟩) SS.length cl) SS.length (strVals SS) := owns_drew hxl
                have hRd : RefIs b0 base wc.drew { M with lv := lv } { D with last := SS } := ⟨hR.disk, hR.fuse, hR.last, hR.now, hR.wh, hR.what, hR.c0, hR.c1⟩
                have HGL := Lib.hid hgl
                clear hgl
                go_wp2_with fail
                go_region_with (go_at_call 35; refine (set_any gl cl SS A V base _ hxl' hAS hll).mono ?_; rintro e w2 ⟨v2, rfl, hown2, hb2⟩; obtain ⟨a2, c2', hv2⟩ := owns_form hown2; subst hv2; have k2 := Kept.of_below hb2 (fun _ => False); have h2 := hRd.kept k2 (fun _ _ => id) (fun _ _ => id); have q1 := h2.disk.cell 1; simp at q1; have frr := h2.disk.frozen ⟨M.md, 1, none⟩ rfl)
                all_goals
                  have hfin := h2.setLast (owns_base hown2 (Nat.le_trans hbase kR.size)) (n := SS.set A V) (by simp)
                  have kfin := (kR.drew.trans (k2.mono fun _ => False.elim)).setCell (p := ⟨M.md, 1, none⟩) (.inl (.inl rfl)) (.slice a2 SS.length c2')
                  rw [← HS2.out] at hfin
                  clear hown2 h2 k2 hb2 hRd hxl hxl' hxw x0 q1 frr d1 d3
                  go_wp2
                  go_roundw
                  case rel => exact ⟨k + 1, by omega, by go_num, q' / 2, by simp, hn, _, hfin, kfin⟩
                  case measure => simp [intOf]; omega
        · obtain rfl : k = D.wh.length := by omega
          obtain ⟨la, lc, hlv⟩ := owns_form hR.last
          simp only at hlv
          subst hlv
          have q1 := hR.disk.cell 1
          have q2 := hR.disk.cell 2
          have q4 := hR.disk.cell 4
          have q5 := hR.disk.cell 5
          have f2 := hR.disk.frozen ⟨M.md, 2, none⟩ rfl
          have f3 := hR.disk.frozen ⟨M.md, 3, none⟩ rfl
          have f4 := hR.disk.frozen ⟨M.md, 4, none⟩ rfl
          simp at q1 q2 q4 q5
          have hA := hR.setNow hR.last rfl
          have hB := hA.setWh (v := .slice none 0 0) (n := []) (m := 0) (World.ownsRow_nil _ _ _ _) rfl
          have hC := hB.setWhat (v := .slice none 0 0) (n := []) (m := 0) (World.ownsRow_nil _ _ _ _) rfl
          have kC := ((kR.setCell (p := ⟨M.md, 2, none⟩) (.inl (.inl rfl)) (.slice la (refLay D keep c L D.wh.length).length lc)).setCell (p := ⟨M.md, 3, none⟩) (.inl (.inl rfl)) (.slice none 0 0)).setCell (p := ⟨M.md, 4, none⟩) (.inl (.inl rfl)) (.slice none 0 0)
          clear hA hB hR kR hwv hq1 hq2
          generalize refLay D keep c L D.wh.length = SS at *
          go_wp2_with (go_at_call 36; refine (rfuse_reset M.mf D.fuse _ hC.fuse).mono ?_; rintro e w2 ⟨rfl, hto⟩)
          go_end0
          have hfin : RefIs b0 base w2 { M with lv := .slice la SS.length lc, nv := .slice la SS.length lc, wv := .slice none 0 0, tv := .slice none 0 0 } (D.crashed keep torn) := by
            rw [HCR.out]
            exact hC.fuseTo hto
          have kfin : Kept M.fp w w2 := kC.trans (hto.2.mono fun _ hk => .inr hk)
          exact ⟨rfl, .slice la SS.length lc, .slice la SS.length lc, .slice none 0 0, .slice none 0 0, hfin, kfin⟩
end Go.Proofs.Ytbajhplblnemnaa
