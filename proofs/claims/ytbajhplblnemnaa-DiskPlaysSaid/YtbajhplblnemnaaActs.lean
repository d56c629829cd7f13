/- A slice of the law's own acts, as it came in: its cells, whatever the acts. -/
import Derived.Test.YtbajhplblnemnaaTorn
import Derived.Deep.Slices
import Derived.Deep.Fields
import Derived.ChangeSame
import Derived.ProofKit
import Derived.SizedLaws
namespace Go.Proofs.Ytbajhplblnemnaa
open Go.ChangeShapes Go.WideShapes Go.Deep Go.RowKit
set_option linter.unusedVariables false

section
variable {H : Type} {enc : TypeId × Value → H} {P : Program} {w : World} {base : Nat} {spare : Nat → Bool} {held : Bool}
/-- A slice of structs of one-cell fields, opened to its cells. -/
theorem open_slice_fields {t e : TypeId} {fs : Array Field} {fuel : Nat} {cs : List Value} {x : DataW H × List MemPlace} (ht : P.underlying t = some (.slice e)) (he : P.underlying e = some (.struct fs))
    (hone : oneCellFields P fs = true) (hC : P.cellsOf e = fs.size) (h : DataW.trod enc P w base spare held fuel t cs = some x) :
    (cs = [.slice none 0 0] ∧ x = (.nil, [])) ∨
    ∃ (a : Addr) (len cap m : Nat) (D : Nat → DataW H) (Pl : Nat → List MemPlace), cs = [.slice (some a) len cap] ∧ base ≤ a.block ∧ len ≤ cap ∧ cap ≤ maxLen ∧ m = (if spare a.block then cap else len) ∧
      x = (.slice ((List.range len).map D) ((List.range (m - len)).map fun j => D (len + j)), MemPlace.row a (m * fs.size) ++ (List.range m).flatMap Pl) ∧
      ∀ i, i < m → ∃ (ys : List (DataW H × List MemPlace)) (n : Nat), D i = .agg (ys.map (·.1)) ∧ Pl i = ys.flatMap (·.2) ∧ ys.length = fs.size ∧
        ∀ (j : Nat) (f : Field), fs[j]? = some f → ∃ (v : Value) (y : DataW H × List MemPlace), w.cell? (a.add (i * fs.size + j)) = some v ∧ ys[j]? = some y ∧ DataW.trod enc P w base spare held n f.type [v] = some y := by
  rcases open_slice ht h with h0 | ⟨a, len, cap, m, n, D, Pl, hcs, hb, hl, hm, hmm, hx, hi⟩
  · exact .inl h0
  · refine .inr ⟨a, len, cap, m, D, Pl, hcs, hb, hl, hm, hmm, by rw [hC] at hx; exact hx, fun i him => ?_⟩
    obtain ⟨cs', hc, ht'⟩ := hi i him
    rw [hC] at hc
    obtain ⟨ys, n', hn', hy, hlen, hyl, hf⟩ := DataW.trod_struct he ht'
    obtain ⟨_, hcl, hat⟩ := World.cells?_some hc
    simp only [Prod.mk.injEq] at hy
    refine ⟨ys, n', hy.1, hy.2, hyl, fun j f hj => ?_⟩
    obtain ⟨ho, hk⟩ := hone_of hone j f hj
    have hjl : j < fs.size := (Array.getElem?_eq_some_iff.1 hj).1
    have hcell := hat j hjl
    have hv : cs'[j]? = some (cs'[j]'(by omega)) := List.getElem?_eq_getElem (by omega)
    have h1 := hf j f hj
    rw [ho, hk] at h1
    have hone' : (cs'.drop j).take 1 = [cs'[j]'(by omega)] := by
      rw [List.drop_eq_getElem_cons (by omega)]
      rfl
    rw [hone'] at h1
    have hys : ys[j]? = some (ys[j]'(by omega)) := List.getElem?_eq_getElem (by omega)
    refine ⟨_, _, ?_, hys, h1.trans hys⟩
    rw [← Go.Deep.add_add, hcell, hv]
end

/-- An act's five numbers. -/
structure ActV where
  kind : Int
  at_ : Int
  n : Int
  b : UInt8
  keep : Int

instance : Inhabited ActV := ⟨⟨0, 0, 0, 0, 0⟩⟩

/-- Its cells. -/
structure ActAt (w : World) (b off : Nat) (x : ActV) : Prop where
  c0 : w.cell? ⟨b, off, none⟩ = some (.int .i64 x.kind)
  c1 : w.cell? ⟨b, off + 1, none⟩ = some (.int .i64 x.at_)
  c2 : w.cell? ⟨b, off + 2, none⟩ = some (.int .i64 x.n)
  c3 : w.cell? ⟨b, off + 3, none⟩ = some (.int .u8 (x.b.toNat : Int))
  c4 : w.cell? ⟨b, off + 4, none⟩ = some (.int .u64 x.keep)
  k0 : 0 ≤ x.keep
  k1 : x.keep ≤ 18446744073709551615
  n0 : -9223372036854775808 ≤ x.n
  n1 : x.n ≤ 9223372036854775807

/-- The acts of a slice: its elements by index. -/
structure ActsAt (w : World) (a : Option Addr) (len : Nat) (f : Nat → ActV) : Prop where
  addr : 0 < len → ∃ b off, a = some ⟨b, off, none⟩ ∧ b < w.heap.size
  at_ : ∀ i, i < len → ∀ b off, a = some ⟨b, off, none⟩ → ActAt w b (off + i * 5) (f i)

theorem byte_of_wf {x : Int} (h : (Lit.int .u8 x).wf = true) : ∃ b : UInt8, x = (b.toNat : Int) := by
  have hx : 0 ≤ x ∧ x ≤ 255 := by simpa [Lit.wf, IntKind.min, IntKind.max, IntKind.signed, IntKind.bits] using h
  refine ⟨UInt8.ofNat x.toNat, ?_⟩
  rw [UInt8.toNat_ofNat']
  omega
theorem i64_of_wf {x : Int} (h : (Lit.int .i64 x).wf = true) : -9223372036854775808 ≤ x ∧ x ≤ 9223372036854775807 := by
  simpa [Lit.wf, IntKind.min, IntKind.max, IntKind.signed, IntKind.bits] using h
theorem u64_of_wf {x : Int} (h : (Lit.int .u64 x).wf = true) : 0 ≤ x ∧ x ≤ 18446744073709551615 := by
  simpa [Lit.wf, IntKind.min, IntKind.max, IntKind.signed, IntKind.bits] using h

theorem Try.cells34 : Try.prog.cellsOf 34 = 5 := by kernel_rfl
theorem Try.bytes34 : Try.prog.bytesOf 34 = 40 := by kernel_rfl

theorem spot_none {w : World} {a : Addr} {v : Value} (h : w.cell? a = some v) : a.spot = none := by
  unfold World.cell? at h
  split at h
  · split at h
    · cases h
    · rename_i hs
      simpa using hs
  · cases h
theorem add_spot (a : Addr) (i : Nat) : (a.add i).spot = if i = 0 then a.spot else none := by unfold Addr.add; split <;> rfl

theorem acts_of {H : Type} {enc : TypeId × Value → H} {W : World} {a : Option Addr} {len cap : Nat} {d : DataW H} {p : List MemPlace} (h : DataW.Trod enc Try.prog W 0 (fun _ => true) true 22 (.slice a len cap) d p) :
    ∃ f, ActsAt W a len f := by
  obtain ⟨fuel, hf⟩ := h
  rcases open_slice_fields Try.underlying22 Try.underlying34 (by kernel_rfl) Try.cells34 hf with ⟨hcs, _⟩ | ⟨x, l, c, m, D, Pl, hcs, hb, hl, hmx, hm, _, hi⟩
  · simp [Value.cells] at hcs
    obtain ⟨rfl, rfl, rfl⟩ := hcs
    exact ⟨fun _ => ⟨0, 0, 0, 0, 0⟩, ⟨fun h => by omega, fun i h => by omega⟩⟩
  · simp [Value.cells] at hcs
    obtain ⟨rfl, rfl, rfl⟩ := hcs
    simp only [if_true] at hm
    subst hm
    have hat : ∀ i, i < len → ∃ y : ActV, x.spot = none ∧ ActAt W x.block (x.off + i * 5) y := by
      intro i hil
      obtain ⟨_, _, _, _, _, hy0⟩ := hi 0 (by omega)
      obtain ⟨_, _, e00, _, _⟩ := hy0 0 _ rfl
      have hx0 : x.add (0 * 5 + 0) = x := by simp [Addr.add]
      have hxs : x.spot = none := by
        have : W.cell? (x.add (0 * 5 + 0)) = some _ := e00
        rw [hx0] at this
        exact spot_none this
      obtain ⟨ys, n, _, _, _, hy⟩ := hi i (by omega)
      obtain ⟨v0, y0, e0, _, t0⟩ := hy 0 _ rfl
      obtain ⟨v1, y1, e1, _, t1⟩ := hy 1 _ rfl
      obtain ⟨v2, y2, e2, _, t2⟩ := hy 2 _ rfl
      obtain ⟨v3, y3, e3, _, t3⟩ := hy 3 _ rfl
      obtain ⟨v4, y4, e4, _, t4⟩ := hy 4 _ rfl
      obtain ⟨n0, g0, _, w0⟩ := DataW.trod_int Try.underlying3 t0
      obtain ⟨n1, g1, _, w1⟩ := DataW.trod_int Try.underlying3 t1
      obtain ⟨n2, g2, _, w2⟩ := DataW.trod_int Try.underlying3 t2
      obtain ⟨n3, g3, _, w3⟩ := DataW.trod_int Try.underlying5 t3
      obtain ⟨n4, g4, _, w4⟩ := DataW.trod_int Try.underlying23 t4
      injection g0 with g0 _
      injection g1 with g1 _
      injection g2 with g2 _
      injection g3 with g3 _
      injection g4 with g4 _
      subst g0 g1 g2 g3 g4
      obtain ⟨b3, rfl⟩ := byte_of_wf w3
      have hadd : ∀ j, x.add j = ⟨x.block, x.off + j, none⟩ := fun j => by
        unfold Addr.add
        split
        · rename_i hj; subst hj; cases x; simp at hxs ⊢; exact hxs
        · rfl
      have e0 : W.cell? (x.add (i * 5 + 0)) = some (.int .i64 n0) := e0
      have e1 : W.cell? (x.add (i * 5 + 1)) = some (.int .i64 n1) := e1
      have e2 : W.cell? (x.add (i * 5 + 2)) = some (.int .i64 n2) := e2
      have e3 : W.cell? (x.add (i * 5 + 3)) = some (.int .u8 (b3.toNat : Int)) := e3
      have e4 : W.cell? (x.add (i * 5 + 4)) = some (.int .u64 n4) := e4
      rw [hadd] at e0 e1 e2 e3 e4
      exact ⟨⟨n0, n1, n2, b3, n4⟩, hxs, e0, e1, e2, e3, e4, (u64_of_wf w4).1, (u64_of_wf w4).2, (i64_of_wf w2).1, (i64_of_wf w2).2⟩
    obtain ⟨f, hff⟩ := choose_lt hat
    refine ⟨f, ⟨fun h0 => ?_, fun i hil b off hx => ?_⟩⟩
    · obtain ⟨hs, h1⟩ := hff 0 h0
      refine ⟨x.block, x.off, ?_, World.block_lt_of_cell? W ⟨x.block, x.off + 0 * 5, none⟩ h1.c0⟩
      cases x
      simp at hs
      simp [hs]
    · simp only [Option.some.injEq] at hx
      subst hx
      exact (hff i hil).2

/-- The acts are still there where nothing below has turned. -/
theorem ActAt.below {w w' : World} {b off : Nat} {x : ActV} (h : ActAt w b off x) {B : Nat} (k : Below B w w') (hb : b < B) : ActAt w' b off x :=
  ⟨(k.cell (p := ⟨b, off, none⟩) hb).trans h.c0, (k.cell (p := ⟨b, off + 1, none⟩) hb).trans h.c1, (k.cell (p := ⟨b, off + 2, none⟩) hb).trans h.c2, (k.cell (p := ⟨b, off + 3, none⟩) hb).trans h.c3,
    (k.cell (p := ⟨b, off + 4, none⟩) hb).trans h.c4, h.k0, h.k1, h.n0, h.n1⟩
end Go.Proofs.Ytbajhplblnemnaa
