/- A reply's words, and its line. -/
import Derived.Test.YtkcjcpcnfjffoaaDoorLine
import Derived.Test.YtkcjcpcnfjffoaaDoorPlain
namespace Go.Proofs.YtkcjcpcnfjffoaaDoor
set_option linter.unusedVariables false

def toksHead (r : ReplyV) (u : ByteArray) : List (List UInt8) :=
  [(errName r.err).data.toList, u.data.toList, wTick.data.toList, Lib.itoa r.tick, wRoute.data.toList, Lib.itoa r.slot, Lib.itoa r.cgen]
def toksTail (r : ReplyV) : List (List UInt8) :=
  [(phaseName r.phase).data.toList, wActive.data.toList, Lib.itoa r.active, wGen.data.toList, Lib.itoa r.gen, wRev.data.toList, Lib.itoa r.r0, Lib.itoa r.r1,
    wWant.data.toList, Lib.itoa r.w0, Lib.itoa r.w1, wReady.data.toList, Lib.itoa r.d0, Lib.itoa r.d1]
def toks (r : ReplyV) : List (List UInt8) := if r.up = true then toksHead r wUp ++ toksTail r else toksHead r wDown
theorem progLine_toks (r : ReplyV) : (progLine r).data.toList = sentence (toks r) := by
  unfold progLine parts toks
  cases hu : r.up with
  | true =>
    rw [if_pos rfl, if_pos rfl]
    simp [sentence, headParts, tailParts, toksHead, toksTail, Lib.join, List.intercalate, wordsStr, numStr]
  | false =>
    rw [if_neg (by simp), if_neg (by simp)]
    simp [sentence, headParts, toksHead, Lib.join, List.intercalate, wordsStr, numStr]
theorem toks_length (r : ReplyV) : (toks r).length = if r.up = true then 21 else 7 := by
  unfold toks
  split <;> rfl

theorem word_err (p : Int) : Word (errName p).data.toList := by
  by_cases hin : 0 ≤ p ∧ p < 15
  · have hc : p = 0 ∨ p = 1 ∨ p = 2 ∨ p = 3 ∨ p = 4 ∨ p = 5 ∨ p = 6 ∨ p = 7 ∨ p = 8 ∨ p = 9 ∨ p = 10 ∨ p = 11 ∨ p = 12 ∨ p = 13 ∨ p = 14 := by omega
    rcases hc with rfl | rfl | rfl | rfl | rfl | rfl | rfl | rfl | rfl | rfl | rfl | rfl | rfl | rfl | rfl <;> exact ⟨by decide, by decide⟩
  · rw [errName_out (by omega)]
    exact ⟨by decide, by decide⟩
theorem word_phase (p : Int) : Word (phaseName p).data.toList := by
  by_cases hin : 0 ≤ p ∧ p < 8
  · have hc : p = 0 ∨ p = 1 ∨ p = 2 ∨ p = 3 ∨ p = 4 ∨ p = 5 ∨ p = 6 ∨ p = 7 := by omega
    rcases hc with rfl | rfl | rfl | rfl | rfl | rfl | rfl | rfl <;> exact ⟨by decide, by decide⟩
  · rw [phaseName_out (by omega)]
    exact ⟨by decide, by decide⟩
theorem words_head (r : ReplyV) (u : ByteArray) (hu : Word u.data.toList) : ∀ t ∈ toksHead r u, Word t := by
  intro t ht
  simp only [toksHead, List.mem_cons, List.not_mem_nil, or_false] at ht
  rcases ht with rfl | rfl | rfl | rfl | rfl | rfl | rfl
  · exact word_err _
  · exact hu
  · exact ⟨by decide, by decide⟩
  · exact word_itoa _
  · exact ⟨by decide, by decide⟩
  · exact word_itoa _
  · exact word_itoa _
theorem words_tail (r : ReplyV) : ∀ t ∈ toksTail r, Word t := by
  intro t ht
  simp only [toksTail, List.mem_cons, List.not_mem_nil, or_false] at ht
  rcases ht with rfl | rfl | rfl | rfl | rfl | rfl | rfl | rfl | rfl | rfl | rfl | rfl | rfl | rfl
  · exact word_phase _
  · exact ⟨by decide, by decide⟩
  · exact word_itoa _
  · exact ⟨by decide, by decide⟩
  · exact word_itoa _
  · exact ⟨by decide, by decide⟩
  · exact word_itoa _
  · exact word_itoa _
  · exact ⟨by decide, by decide⟩
  · exact word_itoa _
  · exact word_itoa _
  · exact ⟨by decide, by decide⟩
  · exact word_itoa _
  · exact word_itoa _
theorem words_all (r : ReplyV) : ∀ t ∈ toks r, Word t := by
  unfold toks
  split
  · intro t ht
    rcases List.mem_append.1 ht with ht | ht
    · exact words_head r wUp ⟨by decide, by decide⟩ t ht
    · exact words_tail r t ht
  · exact words_head r wDown ⟨by decide, by decide⟩

/-- A name tells its number. -/
def errIdx (b : List UInt8) : Int :=
  ((List.range 15).find? fun i => (errName (i : Nat)).data.toList == b).getD 99
theorem errIdx_name {p : Int} (h : 0 ≤ p ∧ p ≤ 14) : errIdx (errName p).data.toList = p := by
  have hc : p = 0 ∨ p = 1 ∨ p = 2 ∨ p = 3 ∨ p = 4 ∨ p = 5 ∨ p = 6 ∨ p = 7 ∨ p = 8 ∨ p = 9 ∨ p = 10 ∨ p = 11 ∨ p = 12 ∨ p = 13 ∨ p = 14 := by omega
  rcases hc with rfl | rfl | rfl | rfl | rfl | rfl | rfl | rfl | rfl | rfl | rfl | rfl | rfl | rfl | rfl <;> decide +kernel
def phaseIdx (b : List UInt8) : Int :=
  ((List.range 8).find? fun i => (phaseName (i : Nat)).data.toList == b).getD 99
theorem phaseIdx_name {p : Int} (h : 0 ≤ p ∧ p ≤ 7) : phaseIdx (phaseName p).data.toList = p := by
  have hc : p = 0 ∨ p = 1 ∨ p = 2 ∨ p = 3 ∨ p = 4 ∨ p = 5 ∨ p = 6 ∨ p = 7 := by omega
  rcases hc with rfl | rfl | rfl | rfl | rfl | rfl | rfl | rfl <;> decide +kernel

/-- What a line tells. -/
structure Same (a b : ReplyV) : Prop where
  err : a.err = b.err
  tick : a.tick = b.tick
  slot : a.slot = b.slot
  cgen : a.cgen = b.cgen
  w0 : a.w0 = b.w0
  w1 : a.w1 = b.w1
  d0 : a.d0 = b.d0
  d1 : a.d1 = b.d1
  phase : a.phase = b.phase
  active : a.active = b.active
  gen : a.gen = b.gen
  r0 : a.r0 = b.r0
  r1 : a.r1 = b.r1
theorem line_one {a b : ReplyV} (ha : a.up = true) (hb : b.up = true) (ea : 0 ≤ a.err ∧ a.err ≤ 14) (eb : 0 ≤ b.err ∧ b.err ≤ 14) (pa : 0 ≤ a.phase ∧ a.phase ≤ 7) (pb : 0 ≤ b.phase ∧ b.phase ≤ 7) :
    progLine a = progLine b ↔ Same a b := by
  constructor
  · intro h
    have h1 : sentence (toks a) = sentence (toks b) := by rw [← progLine_toks, ← progLine_toks, h]
    have h2 := sentence_inj (words_all a) (words_all b) (by rw [toks_length, toks_length, ha, hb]) h1
    unfold toks at h2
    rw [if_pos ha, if_pos hb] at h2
    simp only [toksHead, toksTail, List.cons_append, List.nil_append, List.cons.injEq, true_and, and_true] at h2
    obtain ⟨a1, a2, a3, a4, a5, a6, a7, a8, a9, a10, a11, a12, a13⟩ := h2
    have e := congrArg errIdx a1
    rw [errIdx_name ea, errIdx_name eb] at e
    have p := congrArg phaseIdx a5
    rw [phaseIdx_name pa, phaseIdx_name pb] at p
    exact ⟨e, itoa_inj a2, itoa_inj a3, itoa_inj a4, itoa_inj a10, itoa_inj a11, itoa_inj a12, itoa_inj a13, p, itoa_inj a6, itoa_inj a7, itoa_inj a8, itoa_inj a9⟩
  · rintro ⟨h1, h2, h3, h4, h5, h6, h7, h8, h9, h10, h11, h12, h13⟩
    unfold progLine parts headParts tailParts
    rw [ha, hb, h1, h2, h3, h4, h5, h6, h7, h8, h9, h10, h11, h12, h13]
end Go.Proofs.YtkcjcpcnfjffoaaDoor
