/- The program's words: a word, and numbers behind it. -/
import Derived.Test.YtkcjcpcnfjffoaaDoorNum
import Derived.Lib.AppendIntMem
namespace Go.Proofs.YtkcjcpcnfjffoaaDoor
open Go.RowKit
set_option linter.unusedVariables false

/-- The table of powers of ten reads as the row's list says. -/
def Tab (w : World) : Prop := Lib.TabIs Tryd.prog w "internal/strconv.uint64pow10" .u64 Lib.pow10Tab
theorem Tab.below {w w' : World} (h : Tab w) (k : Below w.heap.size w w') : Tab w' := Lib.tabBelow_of_tabIs h w' k
theorem Tab.drew {w : World} (h : Tab w) : Tab w.drew := h
theorem Tab.alloc {w : World} (h : Tab w) (o : Obj) : Tab (w.alloc o) := h.below ((Below.refl _ _).alloc (Nat.le_refl _) _)

theorem itoa_any (n : Int) (h : I64 n) (w : World) (ht : Tab w) : Calls Tryd.prog 23 #[.int .i64 n] w fun e w' => e = .returned (.string (numStr n)) ∧ Below w.heap.size w w' :=
  (Tryd.strconv_Itoa n h.1 h.2 w ht).mono fun e w' ⟨he, k, os, hw⟩ => ⟨he, by rw [hw]; exact Lib.below_grow _ w (Nat.le_refl _) k os⟩

def wordsStr (word : ByteArray) (ns : List Int) : ByteArray := ns.foldl (fun s n => s ++ (⟨#[32]⟩ ++ numStr n)) word
theorem wordsStr_snoc (word : ByteArray) (ns : List Int) (k : Nat) (h : k < ns.length) : wordsStr word (ns.take (k + 1)) = wordsStr word (ns.take k) ++ (⟨#[32]⟩ ++ numStr ns[k]) := by
  unfold wordsStr
  rw [List.take_add_one, List.getElem?_eq_getElem h, List.foldl_append]
  rfl
theorem wordsStr_size (word : ByteArray) (ns : List Int) (hn : ∀ n ∈ ns, I64 n) : (wordsStr word ns).size ≤ word.size + 22 * ns.length := by
  induction ns generalizing word with
  | nil => simp [wordsStr]
  | cons n r ih =>
    have h1 := ih (word ++ (⟨#[32]⟩ ++ numStr n)) (fun m hm => hn m (List.mem_cons_of_mem _ hm))
    have h2 := numStr_size n (hn n List.mem_cons_self)
    have h3 : (⟨#[32]⟩ : ByteArray).size = 1 := rfl
    simp only [ByteArray.size_append, h3] at h1
    simp only [List.length_cons]
    show (wordsStr (word ++ (⟨#[32]⟩ ++ numStr n)) r).size ≤ _
    omega

set_option maxHeartbeats 4000000 in
theorem words_any (word : ByteArray) (hw : word.size ≤ 100) (b o cap : Nat) (ns : List Int) (hn : ∀ n ∈ ns, I64 n) (hl : ns.length ≤ 100) (w : World) (ht : Tab w) (hb : b < w.heap.size)
    (hc : ∀ j (h : j < ns.length), w.cell? ⟨b, o + j, none⟩ = some (.int .i64 ns[j])) :
    Calls Tryd.prog 17 #[.string word, .slice (some ⟨b, o, none⟩) ns.length cap] w fun e w' => e = .returned (.string (wordsStr word ns)) ∧ Below w.heap.size w w' := by
  go_enter Tryd.func17, Tryd.ntmps17
  go_wp2_with fail
  go_loopw [5, 11] (fun s i wr => ∃ k : Nat, k ≤ ns.length ∧ i = .int .i64 (k : Int) ∧ s = .string (wordsStr word (ns.take k)) ∧ Below w.heap.size w wr)
    (fun _ i _ => ns.length - (intOf i).toNat)
  case atStart => exact ⟨0, Nat.zero_le _, rfl, rfl, Below.refl _ _⟩
  case round =>
    obtain ⟨k, hk, rfl, rfl, hB⟩ := hrel
    have hsz := hB.size
    by_cases hlt : k < ns.length
    · have c0 := (hB.cell (p := ⟨b, o + k, none⟩) hb).trans (hc k hlt)
      have h1 := itoa_any ns[k] (hn _ (List.getElem_mem hlt)) wr (ht.below hB)
      have s1 := numStr_size ns[k] (hn _ (List.getElem_mem hlt))
      have s2 := wordsStr_size word (ns.take k) (fun n h => hn n (List.mem_of_mem_take h))
      rw [List.length_take, Nat.min_eq_left (by omega)] at s2
      have hs := wordsStr_snoc word ns k hlt
      generalize numStr ns[k] = A at *
      generalize wordsStr word (ns.take k) = S at *
      clear hc
      go_wp2_with fail
      refine h1.mono ?_
      rintro e w1 ⟨rfl, hb1⟩
      have s3 : ((⟨#[32]⟩ : ByteArray) ++ A).size ≤ 22 := by rw [ByteArray.size_append]; show 1 + A.size ≤ 22; omega
      go_wp2
      go_roundw
      case rel => exact ⟨k + 1, by omega, by go_num, by rw [hs], hB.trans (hb1.mono hsz)⟩
      case measure => simp [intOf]; omega
    · obtain rfl : k = ns.length := by omega
      rw [List.take_length]
      clear hc
      go_wp2
      go_ret
      exact ⟨rfl, hB⟩
end Go.Proofs.YtkcjcpcnfjffoaaDoor
