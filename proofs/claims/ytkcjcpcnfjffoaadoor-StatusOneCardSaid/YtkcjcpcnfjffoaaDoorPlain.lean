/- The plain law of a line: words parted by one blank each, a line feed at the end. No program in sight. -/
import Derived.Lib.Join
import Derived.Lib.ItoaNum
import Derived.Lib.ItoaMem
namespace Go.Proofs.YtkcjcpcnfjffoaaDoor
set_option linter.unusedVariables false

/-- A word: something, no blank in it and no line feed. -/
structure Word (l : List UInt8) : Prop where
  some_ : l ≠ []
  plain : ∀ c ∈ l, c ≠ 32 ∧ c ≠ 10

theorem digit_plain (d : Nat) (h : d < 10) : UInt8.ofNat (48 + d) ≠ 32 ∧ UInt8.ofNat (48 + d) ≠ 10 := by
  have ht : (UInt8.ofNat (48 + d)).toNat = 48 + d := by rw [UInt8.toNat_ofNat']; omega
  constructor
  · intro e; rw [e] at ht; have : (32 : UInt8).toNat = 32 := rfl; omega
  · intro e; rw [e] at ht; have : (10 : UInt8).toNat = 10 := rfl; omega

theorem word_digits (u : Nat) : Word (Lib.decDigits u) := by
  induction u using Nat.strongRecOn with
  | ind u ih =>
    rw [Lib.decDigits]
    split
    · rename_i h
      refine ⟨by simp, fun c hc => ?_⟩
      simp only [List.mem_singleton] at hc
      subst hc
      exact digit_plain u h
    · rename_i h
      refine ⟨by simp, fun c hc => ?_⟩
      rcases List.mem_append.1 hc with hc | hc
      · exact (ih (u / 10) (by omega)).plain c hc
      · simp only [List.mem_singleton] at hc
        subst hc
        exact digit_plain _ (by omega)

theorem word_itoa (n : Int) : Word (Lib.itoa n) := by
  unfold Lib.itoa
  split
  · refine ⟨by simp, fun c hc => ?_⟩
    rcases List.mem_cons.1 hc with rfl | hc
    · decide
    · exact (word_digits _).plain c hc
  · exact word_digits _

def valOf (l : List UInt8) : Nat := l.foldl (fun a c => a * 10 + (c.toNat - 48)) 0
theorem val_digits (u : Nat) : valOf (Lib.decDigits u) = u := by
  induction u using Nat.strongRecOn with
  | ind u ih =>
    rw [Lib.decDigits]
    split
    · rename_i h
      have ht : (UInt8.ofNat (48 + u)).toNat = 48 + u := by rw [UInt8.toNat_ofNat']; omega
      simp only [valOf, List.foldl_cons, List.foldl_nil, ht]
      omega
    · rename_i h
      have ht : (UInt8.ofNat (48 + u % 10)).toNat = 48 + u % 10 := by rw [UInt8.toNat_ofNat']; omega
      have := ih (u / 10) (by omega)
      unfold valOf at this ⊢
      rw [List.foldl_append, this]
      simp only [List.foldl_cons, List.foldl_nil, ht]
      omega
theorem digits_head (u : Nat) : (Lib.decDigits u).head? ≠ some 45 := by
  induction u using Nat.strongRecOn with
  | ind u ih =>
    rw [Lib.decDigits]
    split
    · rename_i h
      have ht : (UInt8.ofNat (48 + u)).toNat = 48 + u := by rw [UInt8.toNat_ofNat']; omega
      simp only [List.head?_cons]
      intro e
      injection e with e
      rw [e] at ht
      have : (45 : UInt8).toNat = 45 := rfl
      omega
    · rename_i h
      have := ih (u / 10) (by omega)
      cases hd : Lib.decDigits (u / 10) with
      | nil => exact absurd hd (word_digits _).some_
      | cons c r =>
        rw [hd] at this
        simpa using this

theorem itoa_inj {a b : Int} (h : Lib.itoa a = Lib.itoa b) : a = b := by
  unfold Lib.itoa at h
  split at h
  · split at h
    · have h2 := congrArg valOf (List.cons.inj h).2
      rw [val_digits, val_digits] at h2
      omega
    · exact absurd (by rw [← h]; rfl) (digits_head b.toNat)
  · split at h
    · exact absurd (by rw [h]; rfl) (digits_head a.toNat)
    · have h2 := congrArg valOf h
      rw [val_digits, val_digits] at h2
      omega

/-- Words, parted by blanks, and a line feed. -/
def sentence (ts : List (List UInt8)) : List UInt8 := Lib.join ts [32] ++ [10]
theorem sentence_one (t : List UInt8) : sentence [t] = t ++ [10] := by simp [sentence, Lib.join_one]
theorem sentence_cons (t u : List UInt8) (r : List (List UInt8)) : sentence (t :: u :: r) = t ++ 32 :: sentence (u :: r) := by
  simp [sentence, Lib.join_cons, Lib.joinTail]

theorem cut_inj {t u a b : List UInt8} (ht : ∀ c ∈ t, c ≠ 32 ∧ c ≠ 10) (hu : ∀ c ∈ u, c ≠ 32 ∧ c ≠ 10) {x y : UInt8} (hx : x = 32 ∨ x = 10) (hy : y = 32 ∨ y = 10) (h : t ++ x :: a = u ++ y :: b) : t = u ∧ x = y ∧ a = b := by
  induction t generalizing u with
  | nil =>
    cases u with
    | nil => simpa using h
    | cons c u =>
      simp only [List.nil_append, List.cons_append, List.cons.injEq] at h
      have := hu c List.mem_cons_self
      rcases hx with e | e <;> rw [e] at h <;> simp [← h.1] at this
  | cons d t ih =>
    cases u with
    | nil =>
      simp only [List.nil_append, List.cons_append, List.cons.injEq] at h
      have := ht d List.mem_cons_self
      rcases hy with e | e <;> rw [e] at h <;> simp [h.1] at this
    | cons c u =>
      simp only [List.cons_append, List.cons.injEq] at h
      obtain ⟨h1, h2⟩ := h
      obtain ⟨e1, e2, e3⟩ := ih (u := u) (fun c hc => ht c (List.mem_cons_of_mem _ hc)) (fun c hc => hu c (List.mem_cons_of_mem _ hc)) h2
      exact ⟨by rw [h1, e1], e2, e3⟩

theorem sentence_inj : ∀ {xs ys : List (List UInt8)}, (∀ t ∈ xs, Word t) → (∀ t ∈ ys, Word t) → xs.length = ys.length → sentence xs = sentence ys → xs = ys
  | [], [], _, _, _, _ => rfl
  | [x], [y], hx, hy, _, h => by
    rw [sentence_one, sentence_one] at h
    rw [(cut_inj (hx x List.mem_cons_self).plain (hy y List.mem_cons_self).plain (.inr rfl) (.inr rfl) h).1]
  | x :: x2 :: xs, y :: y2 :: ys, hx, hy, hl, h => by
    rw [sentence_cons, sentence_cons] at h
    obtain ⟨e1, _, e2⟩ := cut_inj (hx x List.mem_cons_self).plain (hy y List.mem_cons_self).plain (.inl rfl) (.inl rfl) h
    rw [e1, sentence_inj (fun t ht => hx t (List.mem_cons_of_mem _ ht)) (fun t ht => hy t (List.mem_cons_of_mem _ ht)) (by simpa using hl) e2]

/-- What the law looks at, byte by byte: is something amiss with two bytes that follow each other? -/
def amiss (a b : UInt8) : Bool := a == 10 || (a == 32 && (b == 32 || b == 10))
def neat : List UInt8 → Bool
  | a :: b :: r => !amiss a b && neat (b :: r)
  | _ => true
theorem neat_at : ∀ {s : List UInt8}, neat s = true → ∀ (i : Nat) (h : i + 1 < s.length), amiss s[i] s[i + 1] = false
  | a :: b :: r, h, i, hi => by
    simp only [neat, Bool.and_eq_true, Bool.not_eq_true'] at h
    cases i with
    | zero => exact h.1
    | succ i => exact neat_at h.2 i (by simpa using hi)
  | [a], _, i, hi => by simp at hi
  | [], _, i, hi => by simp at hi

theorem amiss_plain {a b : UInt8} (h : a ≠ 32 ∧ a ≠ 10) : amiss a b = false := by simp [amiss, h.1, h.2]
theorem neat_word : ∀ {t : List UInt8} (s : List UInt8), (∀ c ∈ t, c ≠ 32 ∧ c ≠ 10) → neat s = true → neat (t ++ s) = true
  | [], s, _, hs => hs
  | [a], [], _, _ => rfl
  | [a], b :: s, h, hs => by simp [neat, hs, amiss_plain (h a List.mem_cons_self)]
  | a :: b :: t, s, h, hs => by
    have := neat_word (t := b :: t) s (fun c hc => h c (List.mem_cons_of_mem _ hc)) hs
    simp only [List.cons_append] at this ⊢
    simp [neat, this, amiss_plain (h a List.mem_cons_self)]
theorem sentence_ne (ts : List (List UInt8)) : sentence ts ≠ [] := by simp [sentence]
theorem sentence_head {t : List UInt8} {r : List (List UInt8)} (h : Word t) : ∃ c s, sentence (t :: r) = c :: s ∧ c ≠ 32 ∧ c ≠ 10 := by
  obtain ⟨h1, h2⟩ := h
  cases t with
  | nil => exact absurd rfl h1
  | cons c t =>
    cases r with
    | nil => exact ⟨c, t ++ [10], by rw [sentence_one]; rfl, h2 c List.mem_cons_self⟩
    | cons u r => exact ⟨c, t ++ 32 :: sentence (u :: r), by rw [sentence_cons]; rfl, h2 c List.mem_cons_self⟩
theorem sentence_neat : ∀ {ts : List (List UInt8)}, (∀ t ∈ ts, Word t) → neat (sentence ts) = true
  | [], _ => rfl
  | [t], h => by rw [sentence_one]; exact neat_word _ (h t List.mem_cons_self).plain rfl
  | t :: u :: r, h => by
    rw [sentence_cons]
    refine neat_word _ (h t List.mem_cons_self).plain ?_
    have ih := sentence_neat (ts := u :: r) (fun x hx => h x (List.mem_cons_of_mem _ hx))
    obtain ⟨c, s, hc, h1, h2⟩ := sentence_head (r := r) (h u (by simp))
    rw [hc] at ih ⊢
    simp [neat, ih, amiss, h1, h2]

def blanksIn (l : List UInt8) : Nat := l.countP (· == 32)
theorem word_blanks {t : List UInt8} (h : ∀ c ∈ t, c ≠ 32 ∧ c ≠ 10) : blanksIn t = 0 := by
  unfold blanksIn
  rw [List.countP_eq_zero]
  intro c hc
  simp [(h c hc).1]
theorem sentence_blanks : ∀ {ts : List (List UInt8)}, (∀ t ∈ ts, Word t) → blanksIn (sentence ts) = ts.length - 1
  | [], _ => rfl
  | [t], h => by
    rw [sentence_one]
    have := word_blanks (h t List.mem_cons_self).plain
    simp only [blanksIn, List.countP_append] at this ⊢
    rw [this]
    rfl
  | t :: u :: r, h => by
    rw [sentence_cons]
    have h1 := word_blanks (h t List.mem_cons_self).plain
    have h2 := sentence_blanks (ts := u :: r) (fun x hx => h x (List.mem_cons_of_mem _ hx))
    simp only [blanksIn, List.countP_append, List.countP_cons] at h1 h2 ⊢
    rw [h1, h2]
    simp
theorem sentence_length {t : List UInt8} {r : List (List UInt8)} (h : Word t) : 2 ≤ (sentence (t :: r)).length := by
  obtain ⟨h1, h2⟩ := h
  cases t with
  | nil => exact absurd rfl h1
  | cons c t =>
    simp [sentence, Lib.join_cons]
    omega
theorem sentence_last (ts : List (List UInt8)) : (sentence ts).dropLast = Lib.join ts [32] ∧ (sentence ts).length = (Lib.join ts [32]).length + 1 ∧ (sentence ts)[(sentence ts).length - 1]? = some 10 := by
  simp [sentence]
end Go.Proofs.YtkcjcpcnfjffoaaDoor
