/- The law's own awake: it answers true. -/
import Derived.Test.YtkcjcpcnfjffoaaDoorLaw
import Derived.Deep.MidRow
import Derived.Laws.Tables
namespace Go.Proofs.YtkcjcpcnfjffoaaDoor
open Go.RowKit
set_option linter.unusedVariables false
theorem there_new (w : World) (cs : Array Value) (t : TypeId) (n : Nat) (hn : n = cs.size) : (w.alloc (.cells cs t)).there w.heap.size 0 n := by
  intro j hj
  subst hn
  constructor
  · rw [World.cell?_alloc_new, Nat.zero_add, Array.getElem?_eq_getElem hj]; rfl
  · simp
theorem From.setCells {w : World} (b : Nat) (hb : w.heap.size ≤ b) : ∀ (vs : List Value) (o : Nat) {a : World}, From w a → From w (a.setCells b o vs)
  | [], _, _, h => h
  | v :: vs, o, a, h => From.setCells b hb vs (o + 1) (Below.setCell h hb v)
theorem Tab.setCells {w : World} (b : Nat) (hb : w.heap.size ≤ b) {a : World} (h : Tab w) (f : From w a) (vs : List Value) (o : Nat) : Tab (a.setCells b o vs) := h.below (From.setCells b hb vs o f)
theorem bd23 (w : World) : (Instr.build 23 #[(0, .int .i64 2), (1, .int .i64 0)]).run Tryd.prog w = .ok (.agg #[.int .i64 2, .int .i64 0]) w := run_build w 23 _ _ (by kernel_rfl)
theorem bd30 (w : World) : (Instr.build 30 #[(0, .agg #[.int .i64 2, .int .i64 0]), (1, .agg #[.int .i64 2, .int .i64 0])]).run Tryd.prog w = .ok (.agg #[.int .i64 2, .int .i64 0, .int .i64 2, .int .i64 0]) w := run_build w 30 _ _ (by kernel_rfl)
theorem bd32 (w : World) : (Instr.build 32 #[(1, .agg #[.int .i64 0, .int .i64 0, .int .i64 1, .int .i64 0, .int .i64 2, .int .i64 0, .bool true, .bool false, .int .i64 0, .int .i64 0, .int .i64 0, .int .i64 0]), (3, .agg #[.int .i64 2, .int .i64 0, .int .i64 2, .int .i64 0]), (4, .bool true)]).run Tryd.prog w = .ok (.agg #[.int .i64 0, .int .i64 0, .int .i64 0, .int .i64 1, .int .i64 0, .int .i64 2, .int .i64 0, .bool true, .bool false, .int .i64 0, .int .i64 0, .int .i64 0, .int .i64 0, .int .i64 0, .int .i64 0, .int .i64 2, .int .i64 0, .int .i64 2, .int .i64 0, .bool true, .int .i64 0]) w := run_build w 32 _ _ (by kernel_rfl)
theorem bd32' (w : World) : (Instr.build 32 #[(0, .int .i64 12), (5, .int .i64 12)]).run Tryd.prog w = .ok (.agg #[.int .i64 12, .int .i64 0, .int .i64 0, .int .i64 0, .int .i64 0, .int .i64 0, .int .i64 0, .bool false, .bool false, .int .i64 0, .int .i64 0, .int .i64 0, .int .i64 0, .int .i64 0, .int .i64 0, .int .i64 0, .int .i64 0, .int .i64 0, .int .i64 0, .bool false, .int .i64 12]) w := run_build w 32 _ _ (by kernel_rfl)
theorem wpList_build_of {P : Program} {ops : Array Oper} {rest : List Oper} {o : Oper} {a : Act} {w : World} {Q : Exit → Act → World → Prop} (hg : o.guard = none) (t : TypeId) (parts : Array (Nat × Operand)) (ho : o.op = .build t parts) (cells : Array Value)
    (hb : P.built t (parts.map fun (i, x) => (i, a.eval x)).toList = some cells) (h : wpList P ops Q rest (a.put o.dst (.agg cells)) w) : wpList P ops Q (o :: rest) a w := by
  refine wpList_build hg t parts ho (by rw [hb]; rfl) ?_
  rw [hb]
  exact h
def zero32 : Array Value := #[.int .i64 0, .int .i64 0, .int .i64 0, .int .i64 0, .int .i64 0, .int .i64 0, .int .i64 0, .bool false, .bool false, .int .i64 0, .int .i64 0, .int .i64 0, .int .i64 0, .int .i64 0, .int .i64 0, .int .i64 0, .int .i64 0, .int .i64 0, .int .i64 0, .bool false, .int .i64 0]
theorem zero32_info : (Tryd.prog.info? 32).map (·.zero) = some (some (.agg zero32)) := by kernel_rfl
theorem run_alloc32 (w : World) : (Instr.alloc 32 true (.tuple #[])).run Tryd.prog w = .ok (.pointer (some ⟨w.heap.size, 0, none⟩)) (w.alloc (.cells zero32 32)) := by
  have h := zero32_info
  cases hi : Tryd.prog.info? 32 with
  | none => rw [hi] at h; cases h
  | some i =>
    rw [hi] at h
    have hz : i.zero = some (.agg zero32) := by simpa using h
    simp [Instr.alloc, zeroValue, typeInfo, hi, hz, newVar, newRow, Value.cells]
theorem wpList_alloc32 {ops : Array Oper} {rest : List Oper} {o : Oper} {a : Act} {w : World} {Q : Exit → Act → World → Prop} (hg : o.guard = none) (ho : o.op = .alloc 32)
    (h : wpList Tryd.prog ops Q rest (a.put o.dst (.pointer (some ⟨w.heap.size, 0, none⟩))) (w.alloc (.cells zero32 32))) : wpList Tryd.prog ops Q (o :: rest) a w :=
  wpList_plain hg fun _ hK => by
    unfold Oper.wp execOp
    simp only [ho, Sem.run_bind, run_alloc32, Result.andThen_ok]
    exact hK _ _ h
def upCells : List Value := [.int .i64 0, .int .i64 0, .int .i64 0, .int .i64 1, .int .i64 0, .int .i64 2, .int .i64 0, .bool true, .bool false, .int .i64 0, .int .i64 0, .int .i64 0, .int .i64 0, .int .i64 0, .int .i64 0, .int .i64 2, .int .i64 0, .int .i64 2, .int .i64 0, .bool true, .int .i64 0]
theorem there32 (w : World) : (w.alloc (.cells zero32 32)).there w.heap.size 0 21 := there_new w zero32 32 21 rfl
theorem upCells_one : (upCells.toArray).all (·.oneCell') = true := by simp [upCells, Value.oneCell']
theorem info32' : (Tryd.prog.info? 32).map (·.size) = some upCells.toArray.size := by kernel_rfl
theorem info32'' : (Tryd.prog.info? 32).map (·.size) = some upCells.length := by kernel_rfl
theorem upRange (w : World) : ((w.alloc (.cells zero32 32)).setCells w.heap.size 0 upCells).rangeAt w.heap.size 0 upCells := World.rangeAt_setCells_same _ _ _ _ (there32 w)
theorem info32 : (Tryd.prog.info? 32).map (·.size) = some 21 := by kernel_rfl
set_option maxHeartbeats 4000000 in
theorem awake_any (w : World) (ht : Tab w) : Calls Tryd.prog 8 #[] w fun e w' => e = .returned (.bool true) ∧ Below w.heap.size w w' := by
  have C1 := fun W h => line_any awR1 awOk1 W h
  have C2 := fun W h => line_any awR2 awOk2 W h
  have C3 := fun W => phase 8 W
  have C4 := fun W => error 15 W
  have C5 := fun W => error (-1) W
  have e1 := aw_e1
  have e1' := aw_e1b
  have e2 := aw_e2
  have e3 := aw_e3
  have e4 := aw_e4
  have e5 := aw_e5
  generalize progLine awR1 = S1 at *
  generalize progLine awR2 = S2 at *
  generalize phaseName 8 = S3 at *
  generalize errName 15 = S4 at *
  generalize errName (-1) = S5 at *
  have C1 : ∀ W, Tab W → Calls Tryd.prog 9 #[.agg upCells.toArray] W fun e w' => e = .returned (.string S1) ∧ Below W.heap.size W w' := C1
  unfold awR2 ReplyV.cells at C2
  have C0 := fun W => first_any 1 2 W
  unfold firstCells at C0
  go_enter Tryd.func8, Tryd.ntmps8
  go_wp2_with fail
  refine (C0 _).mono ?_
  rintro e w1 ⟨rfl, hb1⟩
  clear C0
  have hF1 := (From.refl w).below hb1
  have hle : w.heap.size ≤ w1.heap.size := hb1.size
  have hF2 := From.setCells w1.heap.size hle upCells.toArray.toList 0 (hF1.alloc (.cells zero32 32))
  have ht2 : Tab ((w1.alloc (.cells zero32 32)).setCells w1.heap.size 0 upCells.toArray.toList) := ht.below hF2
  have hr2 : ((w1.alloc (.cells zero32 32)).setCells w1.heap.size 0 upCells.toArray.toList).rangeAt w1.heap.size 0 upCells := upRange w1
  have hth := there32 w1
  obtain ⟨wx, hwx⟩ : ∃ wx, (w1.alloc (.cells zero32 32)).setCells w1.heap.size 0 upCells.toArray.toList = wx := ⟨_, rfl⟩
  rw [hwx] at hF2 ht2 hr2
  have HWX := Lib.hid hwx
  have HR := Lib.hid hr2
  have HT := Lib.hid hth
  clear hb1 hwx hr2 hF1 hth
  go_wp2_with (first
    | (refine wpList_build_of rfl 23 _ rfl #[.int .i64 2, .int .i64 0] (by kernel_rfl) ?_)
    | (refine wpList_build_of rfl 30 _ rfl #[.int .i64 2, .int .i64 0, .int .i64 2, .int .i64 0] (by kernel_rfl) ?_)
    | (refine wpList_build_of rfl 32 _ rfl #[.int .i64 0, .int .i64 0, .int .i64 0, .int .i64 1, .int .i64 0, .int .i64 2, .int .i64 0, .bool true, .bool false, .int .i64 0, .int .i64 0, .int .i64 0, .int .i64 0, .int .i64 0, .int .i64 0, .int .i64 2, .int .i64 0, .int .i64 2, .int .i64 0, .bool true, .int .i64 0] (by kernel_rfl) ?_)
    | (refine wpList_alloc32 rfl rfl ?_)
    | (refine wpList_store_mid rfl 32 (.tmp 1) (.tmp 6) rfl w1.heap.size 0 upCells.toArray rfl rfl HT.out info32' upCells_one ?_; rw [HWX.out])
    | (refine wpList_load_mid rfl 32 (.tmp 1) rfl w1.heap.size 0 rfl upCells _ HR.out Tryd.underlying32 rfl info32'' ?_))
  with_reducible refine (C1 _ ht2).mono ?_
  rintro e w2 ⟨rfl, hb2⟩
  replace ht2 := ht2.below hb2
  replace hF2 := hF2.below hb2
  clear hb2 C1 HWX HR HT
  go_wp2_with fail
  with_reducible refine (C2 _ ?ht).mono ?_
  case ht => exact ht2
  rintro e w3 ⟨rfl, hb3⟩
  have hF3 := hF2.below hb3
  clear ht2 hF2 hb3 C2
  go_wp2_with fail
  refine (C3 _).mono ?_
  rintro e w4 ⟨rfl, hb4⟩
  have hF4 := hF3.below hb4
  go_wp2_with fail
  refine (C4 _).mono ?_
  rintro e w5 ⟨rfl, hb5⟩
  have hF5 := hF4.below hb5
  go_wp2_with fail
  refine (C5 _).mono ?_
  rintro e w6 ⟨rfl, hb6⟩
  have hF6 := hF5.below hb6
  go_wp2
  go_ret
  exact ⟨rfl, hF6⟩
end Go.Proofs.YtkcjcpcnfjffoaaDoor
