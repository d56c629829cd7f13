/- Texts of one byte: strings.Repeat at one byte, and the law's own fill. -/
import Derived.Test.YtbajhplblnemnaaFuse
import Derived.Test.YtbajhplblnemnaaShelf
import Derived.Lib.Hide
namespace Go.Proofs.Ytbajhplblnemnaa
open Go.RowKit

/-- So many of one byte. -/
def rep (x : UInt8) (n : Nat) : ByteArray := ⟨(List.replicate n x).toArray⟩
theorem rep_size (x : UInt8) (n : Nat) : (rep x n).size = n := by simp [rep, ByteArray.size]
theorem repeatL_one_byte (x : UInt8) (c : Nat) : Lib.repeatL [x] c = List.replicate c x := by
  have := Lib.repeatL_replicate x 1 c
  simpa using this

theorem repeat_byte (x : UInt8) (c : Int) (w : World) (h0 : 0 ≤ c) (h1 : c ≤ 2000) :
    Calls Try.prog 28 #[.string ⟨#[x]⟩, .int .i64 c] w fun e w' => e = .returned (.string (rep x c.toNat)) ∧ Below w.heap.size w w' := by
  obtain ⟨n, rfl⟩ := Int.eq_ofNat_of_zero_le h0
  have h := Try.strings_Repeat ⟨#[x]⟩ n w (by omega) (by show 1 * n ≤ _; omega)
  refine h.mono fun e w' ⟨he, hb⟩ => ⟨he.trans ?_, hb⟩
  rw [show (⟨#[x]⟩ : ByteArray).data.toList = [x] from rfl, repeatL_one_byte]
  rfl

/-- The length that fill asks for. -/
def fillLen (n : Int) : Nat := (min (max n 0) 2000).toNat

theorem fill_any (x : UInt8) (n : Int) (w : World) :
    Calls Try.prog 12 #[.int .u8 (x.toNat : Int), .int .i64 n] w fun e w' => e = .returned (.string (rep x (fillLen n))) ∧ Below w.heap.size w w' := by
  have hconv := run_convert_bytes_back (P := Try.prog) (w.alloc (.cells #[.int .u8 (x.toNat : Int)] 5)) 67 9 5 ⟨w.heap.size, 0, none⟩ 1 [x] Try.underlying67 Try.underlying5 Try.underlying9
    (fun j hj => by obtain rfl : j = 0 := by simpa using hj
                    simp [Addr.add])
  simp only [List.length_singleton] at hconv
  go_enter Try.func12, Try.ntmps12
  go_wp2_with (go_at_call 28; refine (repeat_byte x _ _ (by omega) (by omega)).mono ?_; rintro e w' ⟨rfl, hb⟩)
  go_ret
  exact ⟨rfl, ((Below.refl _ _).alloc (Nat.le_refl _) _).trans (hb.mono (by simp))⟩
end Go.Proofs.Ytbajhplblnemnaa
