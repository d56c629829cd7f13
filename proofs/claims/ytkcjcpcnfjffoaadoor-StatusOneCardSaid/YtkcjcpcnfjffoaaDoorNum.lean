/- The reference's numbers: Num and two. -/
import Derived.Test.YtkcjcpcnfjffoaaDoorBase
import Derived.Lib.ItoaLen
namespace Go.Proofs.YtkcjcpcnfjffoaaDoor
open Go.RowKit
set_option linter.unusedVariables false

def numStr (n : Int) : ByteArray := ⟨(Lib.itoa n).toArray⟩
def I64 (n : Int) : Prop := -9223372036854775808 ≤ n ∧ n ≤ 9223372036854775807

theorem addr_add (g j : Nat) : (⟨g, 0, none⟩ : Addr).add j = ⟨g, j, none⟩ := by unfold Addr.add; split <;> simp_all
theorem numStr_size (n : Int) (h : I64 n) : (numStr n).size ≤ 21 := by
  have := Lib.itoa_length_le n h.1 h.2
  simpa [numStr, ByteArray.size] using this
theorem digit_conv (w : World) (b : UInt8) : (convert 52 9 (.slice (some ⟨w.heap.size, 0, none⟩) 1 1)).run Tryd.prog (w.alloc (.cells #[.int .u8 (b.toNat : Int)] 5)) = .ok (.string ⟨#[b]⟩) (w.alloc (.cells #[.int .u8 (b.toNat : Int)] 5)) := by
  have h := run_convert_bytes_back (P := Tryd.prog) (w.alloc (.cells #[.int .u8 (b.toNat : Int)] 5)) 52 9 5 ⟨w.heap.size, 0, none⟩ 1 [b] Tryd.underlying52 Tryd.underlying5 Tryd.underlying9
    (fun j hj => by
      have hj' : j = 0 := by simpa using hj
      subst hj'
      rw [addr_add, World.cell?_alloc_new]
      simp)
  simpa using h

set_option maxHeartbeats 4000000 in
theorem num_digit (d : Nat) (hd : d < 10) (w : World) : Calls Tryd.prog 19 #[.int .i64 (d : Int)] w fun e w' => e = .returned (.string (numStr (d : Int))) ∧ Below w.heap.size w w' := by
  have hn : numStr (d : Int) = ⟨#[UInt8.ofNat (48 + d)]⟩ := by unfold numStr; rw [Lib.itoa_nonneg, Lib.decDigits_one hd]
  rw [hn]
  have hcv := digit_conv w (UInt8.ofNat (48 + d))
  have ht : (UInt8.ofNat (48 + d)).toNat = 48 + d := by rw [UInt8.toNat_ofNat']; omega
  rw [ht] at hcv
  push_cast at hcv
  clear hn ht
  generalize UInt8.ofNat (48 + d) = B at *
  go_enter Tryd.func19, Tryd.ntmps19
  go_wp2
  go_ret
  exact ⟨rfl, (Below.refl _ _).alloc (Nat.le_refl _) _⟩

set_option maxHeartbeats 4000000 in
theorem num_nonneg (u : Nat) (hu : u ≤ 9223372036854775807) (w : World) : Calls Tryd.prog 19 #[.int .i64 (u : Int)] w fun e w' => e = .returned (.string (numStr (u : Int))) ∧ Below w.heap.size w w' := by
  induction u using Nat.strongRecOn generalizing w with
  | ind u ih =>
    by_cases hd : u < 10
    · exact num_digit u hd w
    · have h1 := fun w1 => ih (u / 10) (by omega) (by omega) w1
      have h2 := fun w1 => num_digit (u % 10) (by omega) w1
      push_cast at h1 h2
      have hs : numStr (u : Int) = numStr ((u : Int) / 10) ++ numStr ((u : Int) % 10) := by
        have e1 : ((u : Int) / 10) = ((u / 10 : Nat) : Int) := by omega
        have e2 : ((u : Int) % 10) = ((u % 10 : Nat) : Int) := by omega
        unfold numStr
        rw [e1, e2, Lib.itoa_nonneg, Lib.itoa_nonneg, Lib.itoa_nonneg, Lib.decDigits, dif_neg hd, Lib.decDigits_one (i := u % 10) (by omega)]
        apply ByteArray.ext
        simp
      have s1 := numStr_size ((u : Int) / 10) ⟨by omega, by omega⟩
      have s2 := numStr_size ((u : Int) % 10) ⟨by omega, by omega⟩
      rw [hs]
      clear hs ih
      generalize numStr ((u : Int) / 10) = A at *
      generalize numStr ((u : Int) % 10) = C at *
      go_enter Tryd.func19, Tryd.ntmps19
      go_wp2_with fail
      refine (h1 _).mono ?_
      rintro e w1 ⟨rfl, hb1⟩
      go_wp2_with fail
      refine (h2 _).mono ?_
      rintro e w2 ⟨rfl, hb2⟩
      go_wp2
      go_ret
      exact ⟨rfl, hb1.trans (hb2.mono hb1.size)⟩

set_option maxHeartbeats 4000000 in
theorem num_neg (u : Nat) (h0 : 1 ≤ u) (hu : u ≤ 9223372036854775808) (w : World) : Calls Tryd.prog 19 #[.int .i64 (-(u : Int))] w fun e w' => e = .returned (.string (numStr (-(u : Int)))) ∧ Below w.heap.size w w' := by
  induction u using Nat.strongRecOn generalizing w with
  | ind u ih =>
    by_cases hd : u < 10
    · have h1 := num_nonneg u (by omega)
      have hs : numStr (-(u : Int)) = ⟨#[45]⟩ ++ numStr (u : Int) := by
        unfold numStr
        rw [Lib.itoa_nonneg, Lib.itoa_neg u h0]
        apply ByteArray.ext
        simp
      have s1 := numStr_size (u : Int) ⟨by omega, by omega⟩
      have e1 : - (- (u : Int)) = (u : Int) := by omega
      rw [hs]
      clear hs ih
      generalize numStr (u : Int) = A at *
      go_enter Tryd.func19, Tryd.ntmps19
      go_wp2_with fail
      refine (h1 _).mono ?_
      rintro e w1 ⟨rfl, hb1⟩
      go_wp2
      go_ret
      exact ⟨rfl, hb1⟩
    · have h1 := fun w1 => ih (u / 10) (by omega) (by omega) (by omega) w1
      have h2 := fun w1 => num_digit (u % 10) (by omega) w1
      have hs : numStr (-(u : Int)) = numStr (-((u / 10 : Nat) : Int)) ++ numStr ((u % 10 : Nat) : Int) := by
        unfold numStr
        rw [Lib.itoa_neg u h0, Lib.itoa_neg (u / 10) (by omega), Lib.itoa_nonneg, Lib.decDigits, dif_neg hd, Lib.decDigits_one (i := u % 10) (by omega)]
        apply ByteArray.ext
        simp
      have s1 := numStr_size (-((u / 10 : Nat) : Int)) ⟨by omega, by omega⟩
      have s2 := numStr_size ((u % 10 : Nat) : Int) ⟨by omega, by omega⟩
      rw [hs]
      clear hs ih
      generalize numStr (-((u / 10 : Nat) : Int)) = A at *
      generalize numStr ((u % 10 : Nat) : Int) = C at *
      go_enter Tryd.func19, Tryd.ntmps19
      go_wp2_with fail
      refine (h1 _).mono ?_
      rintro e w1 ⟨rfl, hb1⟩
      go_wp2_with fail
      refine (h2 _).mono ?_
      rintro e w2 ⟨rfl, hb2⟩
      go_wp2
      go_ret
      exact ⟨rfl, hb1.trans (hb2.mono hb1.size)⟩
theorem num_any (n : Int) (h : I64 n) (w : World) : Calls Tryd.prog 19 #[.int .i64 n] w fun e w' => e = .returned (.string (numStr n)) ∧ Below w.heap.size w w' := by
  by_cases hn : 0 ≤ n
  · obtain ⟨u, rfl⟩ := Int.eq_ofNat_of_zero_le hn
    exact num_nonneg u (by have := h.2; omega) w
  · obtain ⟨u, rfl⟩ : ∃ u : Nat, n = -(u : Int) := ⟨n.natAbs, by omega⟩
    exact num_neg u (by omega) (by have := h.1; omega) w

/-- " a b". -/
def twoStr (a b : Int) : ByteArray := ⟨#[32]⟩ ++ numStr a ++ ⟨#[32]⟩ ++ numStr b
theorem two_any (a b : Int) (ha : I64 a) (hb : I64 b) (w : World) : Calls Tryd.prog 20 #[.int .i64 a, .int .i64 b] w fun e w' => e = .returned (.string (twoStr a b)) ∧ Below w.heap.size w w' := by
  have h1 := num_any a ha
  have h2 := num_any b hb
  have s1 := numStr_size a ha
  have s2 := numStr_size b hb
  unfold twoStr
  generalize numStr a = A at *
  generalize numStr b = C at *
  go_enter Tryd.func20, Tryd.ntmps20
  go_wp2_with fail
  refine (h1 _).mono ?_
  rintro e w1 ⟨rfl, hb1⟩
  go_wp2_with fail
  refine (h2 _).mono ?_
  rintro e w2 ⟨rfl, hb2⟩
  go_wp2
  go_ret
  exact ⟨rfl, hb1.trans (hb2.mono hb1.size)⟩
end Go.Proofs.YtkcjcpcnfjffoaaDoor
