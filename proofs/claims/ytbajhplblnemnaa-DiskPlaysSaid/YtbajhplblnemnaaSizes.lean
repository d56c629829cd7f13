/- The array [2]int by value, opened. -/
import Derived.Test.YtbajhplblnemnaaSim
import Derived.ProofKit
import Derived.OpenShut
import Derived.Carry
namespace Go.Proofs.Ytbajhplblnemnaa
open Go.ChangeShapes Go.WideShapes Go.ChangeAt Go.RowKit
set_option linter.unusedVariables false

theorem cells44 : Try.prog.cellsOf 44 = 2 := by kernel_rfl
theorem cells3 : Try.prog.cellsOf 3 = 1 := by kernel_rfl
theorem sizes_of {H : Type} {enc : TypeId × Value → H} {W : World} {r : Reach} {base b0 : Nat} {v : Value} {d : DataW H} {p : List MemPlace} (hv : Value.okWide Try.prog W r base 44 v) (h : DataW.Trod enc Try.prog W b0 (fun _ => true) true 44 v d p) :
    ∃ s n, v = .agg #[.int .i64 s, .int .i64 n] := by
  simp only [Value.okWide, Try.underlying44] at hv
  obtain ⟨cs, rfl, h2, _⟩ := hv
  obtain ⟨fuel, hf⟩ := h
  obtain ⟨xs, m, _, _, _, hl, hx⟩ := DataW.trod_array Try.underlying44 hf
  have hc : cs.size = 2 := by rw [h2]; exact cells44
  obtain ⟨l⟩ := cs
  match l, hc with
  | [a, b], _ =>
    have g0 := hx 0 (by omega)
    have g1 := hx 1 (by omega)
    rw [cells3] at g0 g1
    rw [List.getElem?_eq_getElem (by omega : 0 < xs.length)] at g0
    rw [List.getElem?_eq_getElem (by omega : 1 < xs.length)] at g1
    obtain ⟨s, e0, _, _⟩ := DataW.trod_int Try.underlying3 g0
    obtain ⟨n, e1, _, _⟩ := DataW.trod_int Try.underlying3 g1
    simp [Value.cells] at e0 e1
    exact ⟨s, n, by rw [e0, e1]⟩
end Go.Proofs.Ytbajhplblnemnaa
