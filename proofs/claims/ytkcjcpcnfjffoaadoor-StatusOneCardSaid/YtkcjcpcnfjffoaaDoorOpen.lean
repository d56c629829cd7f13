/- A reply by value, opened to its 21 cells. -/
import Derived.Test.YtkcjcpcnfjffoaaDoorLine
import Derived.ProofKit
import Derived.OpenShut
import Derived.Carry
namespace Go.Proofs.YtkcjcpcnfjffoaaDoor
open Go.ChangeShapes Go.WideShapes Go.ChangeAt Go.RowKit
set_option linter.unusedVariables false

theorem ct3 : Tryd.prog.cellsOf 3 = 1 := by kernel_rfl
theorem ct4 : Tryd.prog.cellsOf 4 = 1 := by kernel_rfl
theorem ct22 : Tryd.prog.cellsOf 22 = 1 := by kernel_rfl
theorem ct23 : Tryd.prog.cellsOf 23 = 2 := by kernel_rfl
theorem ct24 : Tryd.prog.cellsOf 24 = 2 := by kernel_rfl
theorem ct26 : Tryd.prog.cellsOf 26 = 12 := by kernel_rfl
theorem ct28 : Tryd.prog.cellsOf 28 = 2 := by kernel_rfl
theorem ct30 : Tryd.prog.cellsOf 30 = 4 := by kernel_rfl
theorem ct32 : Tryd.prog.cellsOf 32 = 21 := by kernel_rfl
theorem i64_of_wf {x : Int} (h : (Lit.int .i64 x).wf = true) : I64 x := by
  simpa [I64, Lit.wf, IntKind.min, IntKind.max, IntKind.signed, IntKind.bits] using h

section
variable {H : Type} {enc : TypeId × Value → H} {W : World} {base : Nat} {spare : Nat → Bool} {held : Bool}
theorem pair_ints {fuel : Nat} {a b : Value} {x : DataW H × List MemPlace} (h : DataW.trod enc Tryd.prog W base spare held fuel 23 [a, b] = some x) :
    ∃ n m, a = .int .i64 n ∧ b = .int .i64 m ∧ I64 n ∧ I64 m := by
  obtain ⟨xs, k, _, _, _, hl, hx⟩ := DataW.trod_array Tryd.underlying23 h
  have g0 := hx 0 (by omega)
  have g1 := hx 1 (by omega)
  rw [ct3, List.getElem?_eq_getElem (by omega : 0 < xs.length)] at g0
  rw [ct3, List.getElem?_eq_getElem (by omega : 1 < xs.length)] at g1
  obtain ⟨n, e0, _, w0⟩ := DataW.trod_int Tryd.underlying3 g0
  obtain ⟨m, e1, _, w1⟩ := DataW.trod_int Tryd.underlying3 g1
  simp at e0 e1
  exact ⟨n, m, e0, e1, i64_of_wf w0, i64_of_wf w1⟩
theorem pair_bools {fuel : Nat} {a b : Value} {x : DataW H × List MemPlace} (h : DataW.trod enc Tryd.prog W base spare held fuel 24 [a, b] = some x) :
    ∃ n m, a = .bool n ∧ b = .bool m := by
  obtain ⟨xs, k, _, _, _, hl, hx⟩ := DataW.trod_array Tryd.underlying24 h
  have g0 := hx 0 (by omega)
  have g1 := hx 1 (by omega)
  rw [ct4, List.getElem?_eq_getElem (by omega : 0 < xs.length)] at g0
  rw [ct4, List.getElem?_eq_getElem (by omega : 1 < xs.length)] at g1
  obtain ⟨n, e0, _⟩ := DataW.trod_bool Tryd.underlying4 g0
  obtain ⟨m, e1, _⟩ := DataW.trod_bool Tryd.underlying4 g1
  simp at e0 e1
  exact ⟨n, m, e0, e1⟩
theorem one_int {fuel : Nat} {a : Value} {x : DataW H × List MemPlace} (h : DataW.trod enc Tryd.prog W base spare held fuel 3 [a] = some x) : ∃ n, a = .int .i64 n ∧ I64 n := by
  obtain ⟨n, e0, _, w0⟩ := DataW.trod_int Tryd.underlying3 h
  simp at e0
  exact ⟨n, e0, i64_of_wf w0⟩
theorem one_err {fuel : Nat} {a : Value} {x : DataW H × List MemPlace} (h : DataW.trod enc Tryd.prog W base spare held fuel 22 [a] = some x) : ∃ n, a = .int .i64 n := by
  obtain ⟨n, e0, _, w0⟩ := DataW.trod_int Tryd.underlying22 h
  simp at e0
  exact ⟨n, e0⟩
theorem one_bool {fuel : Nat} {a : Value} {x : DataW H × List MemPlace} (h : DataW.trod enc Tryd.prog W base spare held fuel 4 [a] = some x) : ∃ n, a = .bool n := by
  obtain ⟨n, e0, _⟩ := DataW.trod_bool Tryd.underlying4 h
  simp at e0
  exact ⟨n, e0⟩
theorem state_cells {fuel : Nat} {a0 a1 a2 a3 a4 a5 a6 a7 a8 a9 a10 a11 : Value} {x : DataW H × List MemPlace} (h : DataW.trod enc Tryd.prog W base spare held fuel 26 [a0, a1, a2, a3, a4, a5, a6, a7, a8, a9, a10, a11] = some x) :
    ∃ (n0 n1 n2 n3 n4 n5 : Int) (b6 b7 : Bool) (n8 n9 n10 n11 : Int), [a0, a1, a2, a3, a4, a5, a6, a7, a8, a9, a10, a11] = [.int .i64 n0, .int .i64 n1, .int .i64 n2, .int .i64 n3, .int .i64 n4, .int .i64 n5, .bool b6, .bool b7, .int .i64 n8, .int .i64 n9, .int .i64 n10, .int .i64 n11] ∧
      I64 n0 ∧ I64 n1 ∧ I64 n2 ∧ I64 n3 ∧ I64 n9 := by
  obtain ⟨xs, k, _, _, _, hl, hx⟩ := DataW.trod_struct Tryd.underlying26 h
  have hl9 : xs.length = 9 := hl
  have g0 : DataW.trod enc Tryd.prog W base spare held k 3 (([a0, a1, a2, a3, a4, a5, a6, a7, a8, a9, a10, a11].drop 0).take (Tryd.prog.cellsOf 3)) = xs[0]? := hx 0 _ rfl
  have g1 : DataW.trod enc Tryd.prog W base spare held k 3 (([a0, a1, a2, a3, a4, a5, a6, a7, a8, a9, a10, a11].drop 1).take (Tryd.prog.cellsOf 3)) = xs[1]? := hx 1 _ rfl
  have g2 : DataW.trod enc Tryd.prog W base spare held k 23 (([a0, a1, a2, a3, a4, a5, a6, a7, a8, a9, a10, a11].drop 2).take (Tryd.prog.cellsOf 23)) = xs[2]? := hx 2 _ rfl
  have g3 : DataW.trod enc Tryd.prog W base spare held k 23 (([a0, a1, a2, a3, a4, a5, a6, a7, a8, a9, a10, a11].drop 4).take (Tryd.prog.cellsOf 23)) = xs[3]? := hx 3 _ rfl
  have g4 : DataW.trod enc Tryd.prog W base spare held k 24 (([a0, a1, a2, a3, a4, a5, a6, a7, a8, a9, a10, a11].drop 6).take (Tryd.prog.cellsOf 24)) = xs[4]? := hx 4 _ rfl
  have g5 : DataW.trod enc Tryd.prog W base spare held k 3 (([a0, a1, a2, a3, a4, a5, a6, a7, a8, a9, a10, a11].drop 8).take (Tryd.prog.cellsOf 3)) = xs[5]? := hx 5 _ rfl
  have g6 : DataW.trod enc Tryd.prog W base spare held k 3 (([a0, a1, a2, a3, a4, a5, a6, a7, a8, a9, a10, a11].drop 9).take (Tryd.prog.cellsOf 3)) = xs[6]? := hx 6 _ rfl
  have g7 : DataW.trod enc Tryd.prog W base spare held k 3 (([a0, a1, a2, a3, a4, a5, a6, a7, a8, a9, a10, a11].drop 10).take (Tryd.prog.cellsOf 3)) = xs[7]? := hx 7 _ rfl
  have g8 : DataW.trod enc Tryd.prog W base spare held k 3 (([a0, a1, a2, a3, a4, a5, a6, a7, a8, a9, a10, a11].drop 11).take (Tryd.prog.cellsOf 3)) = xs[8]? := hx 8 _ rfl
  rw [ct3, List.getElem?_eq_getElem (by omega : 0 < xs.length)] at g0
  rw [ct3, List.getElem?_eq_getElem (by omega : 1 < xs.length)] at g1
  rw [ct23, List.getElem?_eq_getElem (by omega : 2 < xs.length)] at g2
  rw [ct23, List.getElem?_eq_getElem (by omega : 3 < xs.length)] at g3
  rw [ct24, List.getElem?_eq_getElem (by omega : 4 < xs.length)] at g4
  rw [ct3, List.getElem?_eq_getElem (by omega : 5 < xs.length)] at g5
  rw [ct3, List.getElem?_eq_getElem (by omega : 6 < xs.length)] at g6
  rw [ct3, List.getElem?_eq_getElem (by omega : 7 < xs.length)] at g7
  rw [ct3, List.getElem?_eq_getElem (by omega : 8 < xs.length)] at g8
  obtain ⟨n0, rfl, w0⟩ := one_int g0
  obtain ⟨n1, rfl, w1⟩ := one_int g1
  obtain ⟨n2, n3, rfl, rfl, w2, w3⟩ := pair_ints g2
  obtain ⟨n4, n5, rfl, rfl, w4, w5⟩ := pair_ints g3
  obtain ⟨b6, b7, rfl, rfl⟩ := pair_bools g4
  obtain ⟨n8, rfl, w8⟩ := one_int g5
  obtain ⟨n9, rfl, w9⟩ := one_int g6
  obtain ⟨n10, rfl, w10⟩ := one_int g7
  obtain ⟨n11, rfl, w11⟩ := one_int g8
  exact ⟨n0, n1, n2, n3, n4, n5, b6, b7, n8, n9, n10, n11, rfl, w0, w1, w2, w3, w9⟩
theorem cell_cells {fuel : Nat} {a b : Value} {x : DataW H × List MemPlace} (h : DataW.trod enc Tryd.prog W base spare held fuel 28 [a, b] = some x) : ∃ n m, a = .int .i64 n ∧ b = .int .i64 m ∧ I64 n ∧ I64 m := by
  obtain ⟨xs, k, _, _, _, hl, hx⟩ := DataW.trod_struct Tryd.underlying28 h
  have hl2 : xs.length = 2 := hl
  have g0 : DataW.trod enc Tryd.prog W base spare held k 3 (([a, b].drop 0).take (Tryd.prog.cellsOf 3)) = xs[0]? := hx 0 _ rfl
  have g1 : DataW.trod enc Tryd.prog W base spare held k 3 (([a, b].drop 1).take (Tryd.prog.cellsOf 3)) = xs[1]? := hx 1 _ rfl
  rw [ct3, List.getElem?_eq_getElem (by omega : 0 < xs.length)] at g0
  rw [ct3, List.getElem?_eq_getElem (by omega : 1 < xs.length)] at g1
  obtain ⟨n0, rfl, w0⟩ := one_int g0
  obtain ⟨n1, rfl, w1⟩ := one_int g1
  exact ⟨n0, n1, rfl, rfl, w0, w1⟩
theorem view_cells {fuel : Nat} {a b c d : Value} {x : DataW H × List MemPlace} (h : DataW.trod enc Tryd.prog W base spare held fuel 30 [a, b, c, d] = some x) :
    ∃ n m k l, a = .int .i64 n ∧ b = .int .i64 m ∧ c = .int .i64 k ∧ d = .int .i64 l ∧ I64 n ∧ I64 m ∧ I64 k ∧ I64 l := by
  obtain ⟨xs, k, _, _, _, hl, hx⟩ := DataW.trod_struct Tryd.underlying30 h
  have hl2 : xs.length = 2 := hl
  have g0 : DataW.trod enc Tryd.prog W base spare held k 23 (([a, b, c, d].drop 0).take (Tryd.prog.cellsOf 23)) = xs[0]? := hx 0 _ rfl
  have g1 : DataW.trod enc Tryd.prog W base spare held k 23 (([a, b, c, d].drop 2).take (Tryd.prog.cellsOf 23)) = xs[1]? := hx 1 _ rfl
  rw [ct23, List.getElem?_eq_getElem (by omega : 0 < xs.length)] at g0
  rw [ct23, List.getElem?_eq_getElem (by omega : 1 < xs.length)] at g1
  obtain ⟨n0, n1, rfl, rfl, w0, w1⟩ := pair_ints g0
  obtain ⟨n2, n3, rfl, rfl, w2, w3⟩ := pair_ints g1
  exact ⟨n0, n1, n2, n3, rfl, rfl, rfl, rfl, w0, w1, w2, w3⟩
theorem reply_cells {fuel : Nat} {l : List Value} {x : DataW H × List MemPlace} (hc : l.length = 21) (h : DataW.trod enc Tryd.prog W base spare held fuel 32 l = some x) : ∃ r : ReplyV, l = r.cells.toList ∧ r.Ok := by
  obtain ⟨xs, k, _, _, _, hl, hx⟩ := DataW.trod_struct Tryd.underlying32 h
  have hl6 : xs.length = 6 := hl
  match l, hc with
  | [a0, a1, a2, a3, a4, a5, a6, a7, a8, a9, a10, a11, a12, a13, a14, a15, a16, a17, a18, a19, a20], _ =>
    have g0 : DataW.trod enc Tryd.prog W base spare held k 22 (([a0, a1, a2, a3, a4, a5, a6, a7, a8, a9, a10, a11, a12, a13, a14, a15, a16, a17, a18, a19, a20].drop 0).take (Tryd.prog.cellsOf 22)) = xs[0]? := hx 0 _ rfl
    have g1 : DataW.trod enc Tryd.prog W base spare held k 26 (([a0, a1, a2, a3, a4, a5, a6, a7, a8, a9, a10, a11, a12, a13, a14, a15, a16, a17, a18, a19, a20].drop 1).take (Tryd.prog.cellsOf 26)) = xs[1]? := hx 1 _ rfl
    have g2 : DataW.trod enc Tryd.prog W base spare held k 28 (([a0, a1, a2, a3, a4, a5, a6, a7, a8, a9, a10, a11, a12, a13, a14, a15, a16, a17, a18, a19, a20].drop 13).take (Tryd.prog.cellsOf 28)) = xs[2]? := hx 2 _ rfl
    have g3 : DataW.trod enc Tryd.prog W base spare held k 30 (([a0, a1, a2, a3, a4, a5, a6, a7, a8, a9, a10, a11, a12, a13, a14, a15, a16, a17, a18, a19, a20].drop 15).take (Tryd.prog.cellsOf 30)) = xs[3]? := hx 3 _ rfl
    have g4 : DataW.trod enc Tryd.prog W base spare held k 4 (([a0, a1, a2, a3, a4, a5, a6, a7, a8, a9, a10, a11, a12, a13, a14, a15, a16, a17, a18, a19, a20].drop 19).take (Tryd.prog.cellsOf 4)) = xs[4]? := hx 4 _ rfl
    have g5 : DataW.trod enc Tryd.prog W base spare held k 3 (([a0, a1, a2, a3, a4, a5, a6, a7, a8, a9, a10, a11, a12, a13, a14, a15, a16, a17, a18, a19, a20].drop 20).take (Tryd.prog.cellsOf 3)) = xs[5]? := hx 5 _ rfl
    rw [ct22, List.getElem?_eq_getElem (by omega : 0 < xs.length)] at g0
    rw [ct26, List.getElem?_eq_getElem (by omega : 1 < xs.length)] at g1
    rw [ct28, List.getElem?_eq_getElem (by omega : 2 < xs.length)] at g2
    rw [ct30, List.getElem?_eq_getElem (by omega : 3 < xs.length)] at g3
    rw [ct4, List.getElem?_eq_getElem (by omega : 4 < xs.length)] at g4
    rw [ct3, List.getElem?_eq_getElem (by omega : 5 < xs.length)] at g5
    obtain ⟨e, rfl⟩ := one_err g0
    obtain ⟨n0, n1, n2, n3, n4, n5, b6, b7, n8, n9, n10, n11, hs, w0, w1, w2, w3, w9⟩ := state_cells g1
    obtain ⟨n13, n14, rfl, rfl, w13, w14⟩ := cell_cells g2
    obtain ⟨n15, n16, n17, n18, rfl, rfl, rfl, rfl, w15, w16, w17, w18⟩ := view_cells g3
    obtain ⟨u, rfl⟩ := one_bool g4
    obtain ⟨t, rfl, wt⟩ := one_int g5
    simp only [List.cons.injEq, and_true] at hs
    obtain ⟨rfl, rfl, rfl, rfl, rfl, rfl, rfl, rfl, rfl, rfl, rfl, rfl⟩ := hs
    exact ⟨⟨e, n0, n1, n2, n3, n4, n5, b6, b7, n8, n9, n10, n11, n13, n14, n15, n16, n17, n18, u, t⟩, rfl, ⟨w0, w1, w2, w3, w9, w13, w14, w15, w16, w17, w18, wt⟩⟩
theorem reply_of {r : Reach} {b0 : Nat} {v : Value} {d : DataW H} {p : List MemPlace} (hv : Value.okWide Tryd.prog W r b0 32 v) (h : DataW.Trod enc Tryd.prog W base spare held 32 v d p) :
    ∃ r : ReplyV, v = .agg r.cells ∧ r.Ok := by
  simp only [Value.okWide, Tryd.underlying32] at hv
  obtain ⟨cs, rfl, h2, _⟩ := hv
  obtain ⟨fuel, hf⟩ := h
  have hc : cs.toList.length = 21 := by rw [Array.length_toList, h2]; exact ct32
  obtain ⟨r, hr, ok⟩ := reply_cells hc hf
  exact ⟨r, by rw [show cs = r.cells from Array.toList_inj.1 hr], ok⟩
end
end Go.Proofs.YtkcjcpcnfjffoaaDoor
