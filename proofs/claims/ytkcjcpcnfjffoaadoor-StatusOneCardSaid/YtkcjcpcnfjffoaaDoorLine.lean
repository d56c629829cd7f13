/- The program's Line. -/
import Derived.Test.YtkcjcpcnfjffoaaDoorWords
import Derived.Deep.RegionHeld3
import Derived.Deep.DeepCutAuto
namespace Go.Proofs.YtkcjcpcnfjffoaaDoor
open Go.RowKit
set_option linter.unusedVariables false

/-- A reply, as the model holds it. -/
structure ReplyV where
  err : Int
  phase : Int
  active : Int
  r0 : Int
  r1 : Int
  s0 : Int
  s1 : Int
  p0 : Bool
  p1 : Bool
  delay : Int
  gen : Int
  switch : Int
  flip : Int
  slot : Int
  cgen : Int
  w0 : Int
  w1 : Int
  d0 : Int
  d1 : Int
  up : Bool
  tick : Int

def ReplyV.cells (r : ReplyV) : Array Value :=
  #[.int .i64 r.err, .int .i64 r.phase, .int .i64 r.active, .int .i64 r.r0, .int .i64 r.r1, .int .i64 r.s0, .int .i64 r.s1, .bool r.p0, .bool r.p1, .int .i64 r.delay, .int .i64 r.gen, .int .i64 r.switch, .int .i64 r.flip,
    .int .i64 r.slot, .int .i64 r.cgen, .int .i64 r.w0, .int .i64 r.w1, .int .i64 r.d0, .int .i64 r.d1, .bool r.up, .int .i64 r.tick]
structure ReplyV.Ok (r : ReplyV) : Prop where
  phase : I64 r.phase
  active : I64 r.active
  r0 : I64 r.r0
  r1 : I64 r.r1
  gen : I64 r.gen
  slot : I64 r.slot
  cgen : I64 r.cgen
  w0 : I64 r.w0
  w1 : I64 r.w1
  d0 : I64 r.d0
  d1 : I64 r.d1
  tick : I64 r.tick

def wTick : ByteArray := ⟨#[116, 105, 99, 107]⟩
def wRoute : ByteArray := ⟨#[114, 111, 117, 116, 101]⟩
def wActive : ByteArray := ⟨#[97, 99, 116, 105, 118, 101]⟩
def wGen : ByteArray := ⟨#[103, 101, 110]⟩
def wRev : ByteArray := ⟨#[114, 101, 118]⟩
def wWant : ByteArray := ⟨#[119, 97, 110, 116]⟩
def wReady : ByteArray := ⟨#[114, 101, 97, 100, 121]⟩
def wUp : ByteArray := ⟨#[117, 112]⟩
def wDown : ByteArray := ⟨#[100, 111, 119, 110]⟩

def headParts (r : ReplyV) (u : ByteArray) : List ByteArray := [errName r.err, u, wordsStr wTick [r.tick], wordsStr wRoute [r.slot, r.cgen]]
def tailParts (r : ReplyV) : List ByteArray := [phaseName r.phase, wordsStr wActive [r.active], wordsStr wGen [r.gen], wordsStr wRev [r.r0, r.r1], wordsStr wWant [r.w0, r.w1], wordsStr wReady [r.d0, r.d1]]
def parts (r : ReplyV) : List ByteArray := if r.up = true then headParts r wUp ++ tailParts r else headParts r wDown
def progLine (r : ReplyV) : ByteArray := ⟨(Lib.join ((parts r).map (·.data.toList)) [32]).toArray⟩ ++ ⟨#[10]⟩

/-- A slice whose cells hold these numbers. -/
structure IntRow (w : World) (b o : Nat) (ns : List Int) : Prop where
  lt : b < w.heap.size
  at_ : ∀ j (h : j < ns.length), w.cell? ⟨b, o + j, none⟩ = some (.int .i64 ns[j])
theorem IntRow.below {w w' : World} {b o : Nat} {ns : List Int} (h : IntRow w b o ns) (k : Below w.heap.size w w') : IntRow w' b o ns :=
  ⟨Nat.lt_of_lt_of_le h.lt k.size, fun j hj => (k.cell (p := ⟨b, o + j, none⟩) h.lt).trans (h.at_ j hj)⟩
theorem IntRow.alloc {w : World} {b o : Nat} {ns : List Int} (h : IntRow w b o ns) (x : Obj) : IntRow (w.alloc x) b o ns := h.below ((Below.refl _ _).alloc (Nat.le_refl _) _)
theorem IntRow.drew {w : World} {b o : Nat} {ns : List Int} (h : IntRow w b o ns) : IntRow w.drew b o ns := h.below (Below.refl _ _).drew
theorem IntRow.one (w : World) (n : Int) (t : TypeId) : IntRow (w.alloc (.cells #[.int .i64 n] t)) w.heap.size 0 [n] := by
  refine ⟨by simp, fun j hj => ?_⟩
  obtain rfl : j = 0 := by simpa using hj
  simp
theorem IntRow.two (w : World) (n m : Int) (t : TypeId) : IntRow (w.alloc (.cells #[.int .i64 n, .int .i64 m] t)) w.heap.size 0 [n, m] := by
  refine ⟨by simp, fun j hj => ?_⟩
  have : j = 0 ∨ j = 1 := by simp at hj; omega
  rcases this with rfl | rfl <;> simp

theorem IntRow.one1 (w : World) (x : Obj) (n : Int) (t : TypeId) : IntRow ((w.alloc x).alloc (.cells #[.int .i64 n] t)) (w.heap.size + 1) 0 [n] := by simpa using IntRow.one (w.alloc x) n t
theorem IntRow.oned (w : World) (n : Int) (t : TypeId) : IntRow (w.drew.alloc (.cells #[.int .i64 n] t)) w.heap.size 0 [n] := IntRow.one w.drew n t
theorem IntRow.oned1 (w : World) (x : Obj) (n : Int) (t : TypeId) : IntRow ((w.drew.alloc x).alloc (.cells #[.int .i64 n] t)) (w.heap.size + 1) 0 [n] := IntRow.one1 w.drew x n t
theorem IntRow.two1 (w : World) (x : Obj) (n m : Int) (t : TypeId) : IntRow ((w.alloc x).alloc (.cells #[.int .i64 n, .int .i64 m] t)) (w.heap.size + 1) 0 [n, m] := by simpa using IntRow.two (w.alloc x) n m t
theorem IntRow.twod (w : World) (n m : Int) (t : TypeId) : IntRow (w.drew.alloc (.cells #[.int .i64 n, .int .i64 m] t)) w.heap.size 0 [n, m] := IntRow.two w.drew n m t
theorem IntRow.twod1 (w : World) (x : Obj) (n m : Int) (t : TypeId) : IntRow ((w.drew.alloc x).alloc (.cells #[.int .i64 n, .int .i64 m] t)) (w.heap.size + 1) 0 [n, m] := IntRow.two1 w.drew x n m t

theorem words_row {w : World} {b o : Nat} {ns : List Int} (word : ByteArray) (cap : Nat) (h : IntRow w b o ns) (hw : word.size ≤ 100) (hn : ∀ n ∈ ns, I64 n) (hl : ns.length ≤ 100) (ht : Tab w) (k : Nat) (hk : ns.length = k) :
    Calls Tryd.prog 17 #[.string word, .slice (some ⟨b, o, none⟩) k cap] w fun e w' => e = .returned (.string (wordsStr word ns)) ∧ Below w.heap.size w w' := by
  subst hk
  exact words_any word hw b o cap ns hn hl w ht h.lt h.at_

theorem box_at (w : World) (cs : Array Value) (t : TypeId) (i : Nat) (v : Value) (h : cs[i]? = some v) : (w.alloc (.cells cs t)).cell? ⟨w.heap.size, i, none⟩ = some v := by
  rw [World.cell?_alloc_new]; exact h

/-- A reply in its block. -/
structure RBox (w : World) (b : Nat) (r : ReplyV) : Prop where
  lt : b < w.heap.size
  at_ : ∀ i v, r.cells[i]? = some v → w.cell? ⟨b, i, none⟩ = some v
theorem RBox.below {w w' : World} {b : Nat} {r : ReplyV} (h : RBox w b r) (k : Below w.heap.size w w') : RBox w' b r :=
  ⟨Nat.lt_of_lt_of_le h.lt k.size, fun i v hv => (k.cell (p := ⟨b, i, none⟩) h.lt).trans (h.at_ i v hv)⟩
theorem RBox.alloc {w : World} {b : Nat} {r : ReplyV} (h : RBox w b r) (x : Obj) : RBox (w.alloc x) b r := h.below ((Below.refl _ _).alloc (Nat.le_refl _) _)
theorem RBox.drew {w : World} {b : Nat} {r : ReplyV} (h : RBox w b r) : RBox w.drew b r := h.below (Below.refl _ _).drew
theorem RBox.new (w : World) (r : ReplyV) : RBox (w.alloc (.cells r.cells 32)) w.heap.size r := ⟨by simp, fun i v hv => box_at w _ _ i v hv⟩
theorem RBox.head {w : World} {b : Nat} {r : ReplyV} (h : RBox w b r) : w.cell? ⟨b, 0, none⟩ = some (.int .i64 r.err) ∧ w.cell? ⟨b, 13, none⟩ = some (.int .i64 r.slot) ∧ w.cell? ⟨b, 14, none⟩ = some (.int .i64 r.cgen) ∧ w.cell? ⟨b, 20, none⟩ = some (.int .i64 r.tick) :=
  ⟨h.at_ _ _ rfl, h.at_ _ _ rfl, h.at_ _ _ rfl, h.at_ _ _ rfl⟩

/-- What has come of w. -/
def From (w w' : World) : Prop := Below w.heap.size w w'
theorem From.refl (w : World) : From w w := Below.refl _ _
theorem From.below {w a b : World} (h : From w a) (k : Below a.heap.size a b) : From w b := Below.trans h (k.mono h.size)
theorem From.alloc {w a : World} (h : From w a) (x : Obj) : From w (a.alloc x) := h.below ((Below.refl _ _).alloc (Nat.le_refl _) _)
theorem From.drew {w a : World} (h : From w a) : From w a.drew := h.below (Below.refl _ _).drew

theorem one64 {n : Int} (h : I64 n) : ∀ m ∈ [n], I64 m := by simpa using h
theorem two64 {n k : Int} (h : I64 n) (h2 : I64 k) : ∀ m ∈ [n, k], I64 m := by
  intro m hm
  simp at hm
  rcases hm with rfl | rfl
  · exact h
  · exact h2

theorem words_tick {W : World} {b : Nat} {r : ReplyV} (ok : r.Ok) (h : IntRow W b 0 [r.tick]) (t : Tab W) : Calls Tryd.prog 17 #[.string ⟨#[116, 105, 99, 107]⟩, .slice (some ⟨b, 0, none⟩) 1 1] W fun e w' => e = .returned (.string (wordsStr wTick [r.tick])) ∧ Below W.heap.size W w' :=
  words_row wTick 1 h (by decide) (one64 ok.tick) (by simp) t 1 rfl
theorem words_route {W : World} {b : Nat} {r : ReplyV} (ok : r.Ok) (h : IntRow W b 0 [r.slot, r.cgen]) (t : Tab W) : Calls Tryd.prog 17 #[.string ⟨#[114, 111, 117, 116, 101]⟩, .slice (some ⟨b, 0, none⟩) 2 2] W fun e w' => e = .returned (.string (wordsStr wRoute [r.slot, r.cgen])) ∧ Below W.heap.size W w' :=
  words_row wRoute 2 h (by decide) (two64 ok.slot ok.cgen) (by simp) t 2 rfl
theorem words_active {W : World} {b : Nat} {r : ReplyV} (ok : r.Ok) (h : IntRow W b 0 [r.active]) (t : Tab W) : Calls Tryd.prog 17 #[.string ⟨#[97, 99, 116, 105, 118, 101]⟩, .slice (some ⟨b, 0, none⟩) 1 1] W fun e w' => e = .returned (.string (wordsStr wActive [r.active])) ∧ Below W.heap.size W w' :=
  words_row wActive 1 h (by decide) (one64 ok.active) (by simp) t 1 rfl
theorem words_gen {W : World} {b : Nat} {r : ReplyV} (ok : r.Ok) (h : IntRow W b 0 [r.gen]) (t : Tab W) : Calls Tryd.prog 17 #[.string ⟨#[103, 101, 110]⟩, .slice (some ⟨b, 0, none⟩) 1 1] W fun e w' => e = .returned (.string (wordsStr wGen [r.gen])) ∧ Below W.heap.size W w' :=
  words_row wGen 1 h (by decide) (one64 ok.gen) (by simp) t 1 rfl
theorem words_rev {W : World} {b o : Nat} {r : ReplyV} (ok : r.Ok) (h : IntRow W b o [r.r0, r.r1]) (t : Tab W) : Calls Tryd.prog 17 #[.string ⟨#[114, 101, 118]⟩, .slice (some ⟨b, o, none⟩) 2 2] W fun e w' => e = .returned (.string (wordsStr wRev [r.r0, r.r1])) ∧ Below W.heap.size W w' :=
  words_row wRev 2 h (by decide) (two64 ok.r0 ok.r1) (by simp) t 2 rfl
theorem words_want {W : World} {b o : Nat} {r : ReplyV} (ok : r.Ok) (h : IntRow W b o [r.w0, r.w1]) (t : Tab W) : Calls Tryd.prog 17 #[.string ⟨#[119, 97, 110, 116]⟩, .slice (some ⟨b, o, none⟩) 2 2] W fun e w' => e = .returned (.string (wordsStr wWant [r.w0, r.w1])) ∧ Below W.heap.size W w' :=
  words_row wWant 2 h (by decide) (two64 ok.w0 ok.w1) (by simp) t 2 rfl
theorem words_ready {W : World} {b o : Nat} {r : ReplyV} (ok : r.Ok) (h : IntRow W b o [r.d0, r.d1]) (t : Tab W) : Calls Tryd.prog 17 #[.string ⟨#[114, 101, 97, 100, 121]⟩, .slice (some ⟨b, o, none⟩) 2 2] W fun e w' => e = .returned (.string (wordsStr wReady [r.d0, r.d1])) ∧ Below W.heap.size W w' :=
  words_row wReady 2 h (by decide) (two64 ok.d0 ok.d1) (by simp) t 2 rfl

/-- A slice whose cells hold these strings. -/
structure StrRow (w : World) (b : Nat) (xs : List ByteArray) : Prop where
  lt : b < w.heap.size
  at_ : ∀ (j : Nat) x, xs[j]? = some x → w.cell? ⟨b, 0 + j, none⟩ = some (.string x)
theorem StrRow.below {w w' : World} {b : Nat} {xs : List ByteArray} (h : StrRow w b xs) (k : Below w.heap.size w w') : StrRow w' b xs :=
  ⟨Nat.lt_of_lt_of_le h.lt k.size, fun j x hj => (k.cell (p := ⟨b, 0 + j, none⟩) h.lt).trans (h.at_ j x hj)⟩
theorem StrRow.alloc {w : World} {b : Nat} {xs : List ByteArray} (h : StrRow w b xs) (x : Obj) : StrRow (w.alloc x) b xs := h.below ((Below.refl _ _).alloc (Nat.le_refl _) _)
theorem StrRow.four (w : World) (x0 x1 x2 x3 : ByteArray) (t : TypeId) : StrRow (w.alloc (.cells #[.string x0, .string x1, .string x2, .string x3] t)) w.heap.size [x0, x1, x2, x3] := by
  refine ⟨by simp, fun j x hj => ?_⟩
  rw [World.cell?_alloc_new]
  match j, hj with
  | 0, hj => simp at hj; subst hj; rfl
  | 1, hj => simp at hj; subst hj; rfl
  | 2, hj => simp at hj; subst hj; rfl
  | 3, hj => simp at hj; subst hj; rfl
theorem line_bound (xs : List ByteArray) (n : Nat) (h : ∀ x ∈ xs, x.size ≤ 200) (hn : xs.length ≤ n) : (Lib.join (xs.map (·.data.toList)) [32]).length ≤ 201 * n := by
  cases xs with
  | nil => simp [Lib.join_nil]
  | cons x r =>
    rw [List.map_cons, Lib.join_length]
    have hl : ∀ l : List ByteArray, (∀ x ∈ l, x.size ≤ 200) → Lib.lens (l.map (·.data.toList)) ≤ 200 * l.length := by
      intro l
      induction l with
      | nil => intro _; simp [Lib.lens]
      | cons y s ih =>
        intro hy
        have h1 := ih (fun z hz => hy z (List.mem_cons_of_mem _ hz))
        have h2 := hy y List.mem_cons_self
        have h3 : y.data.toList.length = y.size := by rw [Array.length_toList]; rfl
        have h4 : Lib.lens ((y :: s).map (·.data.toList)) = y.data.toList.length + Lib.lens (s.map (·.data.toList)) := by simp only [List.map_cons, Lib.lens, List.sum_cons]
        rw [h4, List.length_cons]
        omega
    have := hl (x :: r) h
    simp only [List.map_cons] at this
    simp only [List.length_map, List.length_cons, List.length_nil] at this hn ⊢
    omega

theorem errName_size (p : Int) : (errName p).size ≤ 7 := by
  by_cases hin : 0 ≤ p ∧ p < 15
  · have hc : p = 0 ∨ p = 1 ∨ p = 2 ∨ p = 3 ∨ p = 4 ∨ p = 5 ∨ p = 6 ∨ p = 7 ∨ p = 8 ∨ p = 9 ∨ p = 10 ∨ p = 11 ∨ p = 12 ∨ p = 13 ∨ p = 14 := by omega
    rcases hc with rfl | rfl | rfl | rfl | rfl | rfl | rfl | rfl | rfl | rfl | rfl | rfl | rfl | rfl | rfl <;> decide
  · rw [errName_out (by omega)]
    decide
theorem phaseName_size (p : Int) : (phaseName p).size ≤ 9 := by
  by_cases hin : 0 ≤ p ∧ p < 8
  · have hc : p = 0 ∨ p = 1 ∨ p = 2 ∨ p = 3 ∨ p = 4 ∨ p = 5 ∨ p = 6 ∨ p = 7 := by omega
    rcases hc with rfl | rfl | rfl | rfl | rfl | rfl | rfl | rfl <;> decide
  · rw [phaseName_out (by omega)]
    decide
theorem head_small (r : ReplyV) (ok : r.Ok) (u : ByteArray) (hu : u.size ≤ 200) : ∀ x ∈ headParts r u, x.size ≤ 200 := by
  intro x hx
  have h1 := wordsStr_size wTick [r.tick] (one64 ok.tick)
  have h2 := wordsStr_size wRoute [r.slot, r.cgen] (two64 ok.slot ok.cgen)
  have h3 := errName_size r.err
  have h4 : wTick.size = 4 := by decide
  have h5 : wRoute.size = 5 := by decide
  simp only [List.length_cons, List.length_nil] at h1 h2
  simp only [headParts, List.mem_cons, List.not_mem_nil, or_false] at hx
  rcases hx with rfl | rfl | rfl | rfl <;> omega
theorem join_at {w : World} {b : Nat} {xs : List ByteArray} (h : StrRow w b xs) (n : Nat) (hn : xs.length = n) (hn2 : n ≤ 100) (hx : ∀ x ∈ xs, x.size ≤ 200) (cap : Nat) (hc : n ≤ cap) :
    Calls Tryd.prog 18 #[.slice (some ⟨b, 0, none⟩) n cap, .string ⟨#[32]⟩] w fun e w' => e = .returned (.string ⟨(Lib.join (xs.map (·.data.toList)) [32]).toArray⟩) ∧ Below w.heap.size w w' := by
  subst hn
  have hb := line_bound xs xs.length hx (Nat.le_refl _)
  exact Tryd.strings_Join b 0 cap xs ⟨#[32]⟩ w h.at_ h.lt (by omega) hc (by
    show (Lib.join (xs.map (·.data.toList)) [32]).length ≤ _
    omega)

set_option maxHeartbeats 4000000 in
theorem line_down (r : ReplyV) (ok : r.Ok) (hu : r.up = false) (w : World) (ht : Tab w) : Calls Tryd.prog 9 #[.agg r.cells] w fun e w' => e = .returned (.string (progLine r)) ∧ Below w.heap.size w w' := by
  have hR := RBox.new w r
  have hT := ht.alloc (.cells r.cells 32)
  have hF := (From.refl w).alloc (.cells r.cells 32)
  have hwb : ∃ wb, w.alloc (.cells r.cells 32) = wb := ⟨_, rfl⟩
  have z19 := hR.at_ 19 (.bool r.up) rfl
  rw [hu] at z19
  obtain ⟨wb, hwb⟩ := hwb
  rw [hwb] at hR hT hF z19
  have hwb' := hwb
  unfold ReplyV.cells
  unfold ReplyV.cells at hwb
  rw [hu] at hwb ⊢
  go_enter Tryd.func9, Tryd.ntmps9
  go_upto_region 4 with fail
  try rw [hwb]
  clear hwb hwb'
  generalize w.heap.size = BX at hR z19 ⊢
  have hRd := hR.drew
  have hTd := hT.drew
  have hFd := hF.drew
  go_cut [4] (fun t4 wx => ∃ b, t4 = .slice (some ⟨b, 0, none⟩) 4 4 ∧ StrRow wx b (headParts r wDown) ∧ RBox wx BX r ∧ From w wx)
  case first =>
   go_region_held3 (fun w' => w'.cell? ⟨BX, 0, none⟩ = some (.int .i64 r.err) ∧ w'.cell? ⟨BX, 13, none⟩ = some (.int .i64 r.slot) ∧ w'.cell? ⟨BX, 14, none⟩ = some (.int .i64 r.cgen) ∧ w'.cell? ⟨BX, 20, none⟩ = some (.int .i64 r.tick))
    ((exact RBox.head (by repeat (with_reducible first | assumption | apply RBox.alloc | apply RBox.drew | refine RBox.below ?_ (by assumption)))))
    (first
      | (go_at_call 13; refine (error r.err _).mono ?_; rintro e w1 ⟨rfl, hb1⟩)
      | (go_at_call 17; with_reducible refine (words_tick ok ?hr ?ht).mono ?_; (case hr => repeat (with_reducible first | assumption | exact IntRow.one _ _ _ | exact IntRow.one1 _ _ _ _ | exact IntRow.oned _ _ _ | exact IntRow.oned1 _ _ _ _ | apply IntRow.alloc | apply IntRow.drew | refine IntRow.below ?_ (by assumption))); (case ht => repeat (with_reducible first | assumption | apply Tab.alloc | apply Tab.drew | refine Tab.below ?_ (by assumption))); rintro e w2 ⟨rfl, hb2⟩)
      | (go_at_call 17; with_reducible refine (words_route ok ?hr ?ht).mono ?_; (case hr => repeat (with_reducible first | assumption | exact IntRow.two _ _ _ _ | exact IntRow.two1 _ _ _ _ _ | exact IntRow.twod _ _ _ _ | exact IntRow.twod1 _ _ _ _ _ | apply IntRow.alloc | apply IntRow.drew | refine IntRow.below ?_ (by assumption))); (case ht => repeat (with_reducible first | assumption | apply Tab.alloc | apply Tab.drew | refine Tab.below ?_ (by assumption))); rintro e w3 ⟨rfl, hb3⟩))
   all_goals go_wp2
   all_goals go_meet
   all_goals refine ⟨_, rfl, StrRow.four _ _ _ _ _ _, RBox.alloc (by repeat (with_reducible first | assumption | apply RBox.alloc | apply RBox.drew | refine RBox.below ?_ (by assumption))) _, ?_⟩
   all_goals repeat (with_reducible first | assumption | apply From.alloc | apply From.drew | refine From.below ?_ (by assumption))
  case rest =>
   obtain ⟨b, rfl, hS, hR, hF⟩ := hcut
   have hp : progLine r = ⟨(Lib.join ((headParts r wDown).map (·.data.toList)) [32]).toArray⟩ ++ ⟨#[10]⟩ := by unfold progLine parts; rw [hu]; rfl
   have hJ : (⟨(Lib.join ((headParts r wDown).map (·.data.toList)) [32]).toArray⟩ : ByteArray).size ≤ 804 := line_bound _ 4 (head_small r ok wDown (by decide)) (Nat.le_refl _)
   have CJ := fun (W : World) (h : StrRow W b (headParts r wDown)) => join_at h 4 rfl (by omega) (head_small r ok wDown (by decide)) 4 (Nat.le_refl _)
   generalize (⟨(Lib.join ((headParts r wDown).map (·.data.toList)) [32]).toArray⟩ : ByteArray) = J at *
   generalize headParts r wDown = xs at *
   have HP := Lib.hid hp
   clear hp
   have c1 := hR.at_ 1 (.int .i64 r.phase) rfl
   have c2 := hR.at_ 2 (.int .i64 r.active) rfl
   have c3 := hR.at_ 3 (.int .i64 r.r0) rfl
   have c4 := hR.at_ 4 (.int .i64 r.r1) rfl
   have c5 := hR.at_ 5 (.int .i64 r.s0) rfl
   have c6 := hR.at_ 6 (.int .i64 r.s1) rfl
   have c7 := hR.at_ 7 (.bool r.p0) rfl
   have c8 := hR.at_ 8 (.bool r.p1) rfl
   have c9 := hR.at_ 9 (.int .i64 r.delay) rfl
   have c10 := hR.at_ 10 (.int .i64 r.gen) rfl
   have c11 := hR.at_ 11 (.int .i64 r.switch) rfl
   have c12 := hR.at_ 12 (.int .i64 r.flip) rfl
   have ltB : BX < wc.heap.size := hR.lt
   have c19 : wc.cell? ⟨BX, 19, none⟩ = some (.bool false) := by rw [← hu]; exact hR.at_ 19 (.bool r.up) rfl
   go_wp2_with fail
   refine (CJ _ (hS.alloc _)).mono ?_
   rintro e w5 ⟨rfl, hb5⟩
   go_wp2
   go_ret
   exact ⟨by rw [HP.out]; rfl, (hF.alloc _).below hb5⟩
end Go.Proofs.YtkcjcpcnfjffoaaDoor
