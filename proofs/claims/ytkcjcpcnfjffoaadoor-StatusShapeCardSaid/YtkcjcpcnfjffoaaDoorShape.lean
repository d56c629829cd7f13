/- The walk of the law StatusShape. -/
import Derived.Test.YtkcjcpcnfjffoaaDoorLines
import Derived.Lib.Hide
namespace Go.Proofs.YtkcjcpcnfjffoaaDoor
open Go.RowKit
set_option linter.unusedVariables false
set_option linter.unusedSimpArgs false

/-- What a line's bytes are. -/
structure LineIs (S : ByteArray) (n : Nat) : Prop where
  lo : 2 ≤ S.size
  hi : S.size ≤ 2011
  wrap : wrap64 ((S.size : Int) - 1) = (S.size : Int) - 1
  last : ∀ (i : Nat) (h : i < S.size), i = S.size - 1 → ((S[i].toNat : Nat) : Int) = 10
  head : ∀ (h : 0 < S.size), ((S[0].toNat : Nat) : Int) ≠ 32
  fine : ∀ (i : Nat) (h : i + 1 < S.size), ((S[i].toNat : Nat) : Int) ≠ 10 ∧ (((S[i].toNat : Nat) : Int) = 32 → ((S[i + 1].toNat : Nat) : Int) ≠ 32 ∧ ((S[i + 1].toNat : Nat) : Int) ≠ 10)
  count : ∀ (i : Nat) (h : i < S.size), (blanksIn (S.data.toList.take (i + 1)) : Int) = blanksIn (S.data.toList.take i) + (if ((S[i].toNat : Nat) : Int) = 32 then 1 else 0)
  all : blanksIn (S.data.toList.take (S.size - 1)) = n
theorem at_list (S : ByteArray) (i : Nat) (h : i < S.size) : S[i] = S.data.toList[i]'h := rfl
theorem toNat_ne {a : UInt8} {k : UInt8} (h : a ≠ k) : ((a.toNat : Nat) : Int) ≠ ((k.toNat : Nat) : Int) := by
  intro e
  exact h (UInt8.toNat_inj.1 (by exact_mod_cast e))
theorem toNat_eq {a : UInt8} {k : UInt8} (h : ((a.toNat : Nat) : Int) = ((k.toNat : Nat) : Int)) : a = k := UInt8.toNat_inj.1 (by exact_mod_cast h)
theorem line_is (r : ReplyV) (ok : r.Ok) : LineIs (progLine r) (if r.up = true then 20 else 6) := by
  have hl := progLine_toks r
  have hw := words_all r
  have hn := toks_length r
  have hs := progLine_size r ok
  generalize progLine r = S at *
  generalize toks r = ts at *
  have hsz : S.size = S.data.toList.length := rfl
  obtain ⟨t, rest, rfl⟩ : ∃ t rest, ts = t :: rest := by
    cases ts with
    | nil => simp at hn; split at hn <;> omega
    | cons t rest => exact ⟨t, rest, rfl⟩
  have h2 := sentence_length (r := rest) (hw t (by simp))
  have h3 := sentence_last (t :: rest)
  have h4 := sentence_neat hw
  obtain ⟨c, s, h5, h6, h7⟩ := sentence_head (r := rest) (hw t (by simp))
  have h8 := sentence_blanks hw
  rw [← hl] at h2 h3 h4 h5 h8
  have hlast : S.data.toList = S.data.toList.take (S.size - 1) ++ [10] := by
    rw [hl]; rw [show S.size - 1 = (sentence (t :: rest)).length - 1 by rw [← hl, hsz], ← List.dropLast_eq_take]; rw [← hl, h3.1]; rw [hl]; rfl
  refine ⟨by omega, hs, ?_, ?_, ?_, ?_, ?_, ?_⟩
  · rw [hsz] at hs ⊢
    unfold wrap64; omega
  · intro i h e
    rw [at_list]
    have := h3.2.2
    rw [← hsz, ← e, List.getElem?_eq_getElem (by rw [← hsz]; exact h)] at this
    rw [Option.some.inj this]
    rfl
  · intro h
    rw [at_list]
    have : S.data.toList[0]'(by omega) = c := by simp [h5]
    rw [this]
    exact toNat_ne h6
  · intro i h
    have := neat_at h4 i (by omega)
    rw [at_list, at_list]
    generalize S.data.toList[i]'(by omega) = a at *
    generalize S.data.toList[i + 1]'(by omega) = b at *
    simp only [amiss, Bool.or_eq_false_iff, Bool.and_eq_false_iff, beq_eq_false_iff_ne] at this
    refine ⟨toNat_ne this.1, fun e => ?_⟩
    have ea : a = 32 := toNat_eq e
    rcases this.2 with h' | h'
    · exact absurd ea h'
    · exact ⟨toNat_ne h'.1, toNat_ne h'.2⟩
  · intro i h
    rw [at_list, List.take_add_one, List.getElem?_eq_getElem (by omega)]
    unfold blanksIn
    rw [List.countP_append]
    by_cases e : S.data.toList[i]'(by omega) = 32
    · simp [e]
    · have := toNat_ne e
      have this : ((S.data.toList[i].toNat : Nat) : Int) ≠ 32 := this
      rw [if_neg this]
      have e' : ¬ S.data[i] = 32 := e
      simp [e, e']
  · have : blanksIn S.data.toList = blanksIn (S.data.toList.take (S.size - 1)) := by
      conv => lhs; rw [hlast]
      unfold blanksIn
      rw [List.countP_append]
      simp
    rw [← this, h8, hn]
    split <;> rfl

set_option maxHeartbeats 4000000 in
theorem shape_any (r : ReplyV) (ok : r.Ok) (w : World) (ht : Tab w) : Calls Tryd.prog 6 #[.agg r.cells] w fun e w' => e = .returned (.bool true) ∧ Below w.heap.size w w' := by
  have hR := RBox.new w r
  have hT := ht.alloc (.cells r.cells 32)
  have hF := (From.refl w).alloc (.cells r.cells 32)
  have hwb : ∃ wb, w.alloc (.cells r.cells 32) = wb := ⟨_, rfl⟩
  obtain ⟨wb, hwb⟩ := hwb
  rw [hwb] at hR hT hF
  have CL := fun W h => line_any r ok W h
  have hS := line_is r ok
  generalize progLine r = S at *
  unfold ReplyV.cells at hwb CL ⊢
  go_enter Tryd.func6, Tryd.ntmps6
  go_upto_region 1 with fail
  try rw [hwb]
  clear hwb
  generalize w.heap.size = BX at hR ⊢
  have CL' : ∀ W, Tab W → Calls Tryd.prog 9 #[.agg r.cells.toList.toArray] W fun e w' => e = .returned (.string S) ∧ Below W.heap.size W w' := CL
  clear CL
  go_wp2_with fail
  refine (awake_any _ hT).mono ?_
  rintro e w1 ⟨rfl, hb1⟩
  have hR1 := Lib.hid (hR.below hb1).range
  go_wp2_with (refine wpList_load_mid rfl 32 (.tmp 1) rfl BX 0 rfl r.cells.toList _ hR1.out Tryd.underlying32 rfl info32L ?_)
  refine (CL' _ (hT.below hb1)).mono ?_
  rintro e w2 ⟨rfl, hb2⟩
  have g1 := hS.lo
  have g2 := hS.hi
  have g3 := hS.wrap
  go_wp2
  all_goals first
    | (exfalso; omega)
    | (exfalso; refine absurd (hS.last (S.size - 1) (by omega) rfl) ?_; assumption)
    | (exfalso; refine absurd ?_ (hS.head (by omega)); assumption)
    | (exfalso; rename_i h; rcases h with h | h; omega; exact hS.head (by omega) (eq_of_beq h))
    | skip
  rename_i hx _ _
  clear hx
  have hT2 := (hT.below hb1).below hb2
  have hF2 := (hF.below hb1).below hb2
  have hc : w2.cell? ⟨BX, 19, none⟩ = some (.bool r.up) := ((hR.below hb1).below hb2).at_ 19 (.bool r.up) rfl
  clear hT hF hR hb1 hb2 hR1 CL'
  go_loopw [29, 4] (fun i c wr => ∃ k : Nat, k ≤ S.size - 1 ∧ i = .int .i64 (k : Int) ∧ c = .int .i64 ((blanksIn (S.data.toList.take k) : Nat) : Int) ∧ wr = w2)
    (fun i _ _ => S.size - (intOf i).toNat)
  case atStart => exact ⟨0, Nat.zero_le _, rfl, rfl, rfl⟩
  case round =>
    obtain ⟨k, hk, rfl, rfl, rfl⟩ := hrel
    by_cases hlt : k < S.size - 1
    · have f1 := hS.fine k (by omega)
      have f2 := hS.count k (by omega)
      have f3 : blanksIn (S.data.toList.take k) ≤ k := by
        unfold blanksIn
        exact Nat.le_trans List.countP_le_length (by simp; omega)
      generalize blanksIn (S.data.toList.take k) = B at *
      go_wp2
      all_goals first
        | (refine ⟨⟨k + 1, by omega, by go_num, by rw [f2, if_pos (by assumption)], trivial⟩, ?_⟩; simp [intOf]; omega)
        | (refine ⟨⟨k + 1, by omega, by go_num, by rw [f2, if_neg (by assumption), Int.add_zero], trivial⟩, ?_⟩; simp [intOf]; omega)
        | (exfalso; rename_i h; have f5 := f1.2 (by assumption); rcases h with h | h; exact f5.1 (eq_of_beq h); exact f5.2 (eq_of_beq h))
        | (exfalso; exact f1.1 (by assumption))
    · obtain rfl : k = S.size - 1 := by omega
      have f4 := hS.all
      rw [f4]
      cases hu : r.up with
      | true =>
        rw [hu] at hc
        rw [if_pos rfl]
        go_wp2
        go_ret
        exact ⟨rfl, hF2⟩
      | false =>
        rw [hu] at hc
        rw [if_neg (by simp)]
        go_wp2
        go_ret
        exact ⟨rfl, hF2⟩
end Go.Proofs.YtkcjcpcnfjffoaaDoor
