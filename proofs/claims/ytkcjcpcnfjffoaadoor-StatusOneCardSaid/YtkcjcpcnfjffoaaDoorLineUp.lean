/- The program's Line, of a reply that is up. -/
import Derived.Test.YtkcjcpcnfjffoaaDoorLine
import Derived.Laws.AppendOwn
import Derived.Lib.Hide
namespace Go.Proofs.YtkcjcpcnfjffoaaDoor
open Go.RowKit
set_option linter.unusedVariables false

/-- A block with these cells. -/
structure Box (w : World) (b : Nat) (cs : Array Value) : Prop where
  lt : b < w.heap.size
  at_ : ∀ i v, cs[i]? = some v → w.cell? ⟨b, i, none⟩ = some v
theorem Box.below {w w' : World} {b : Nat} {cs : Array Value} (h : Box w b cs) (k : Below w.heap.size w w') : Box w' b cs :=
  ⟨Nat.lt_of_lt_of_le h.lt k.size, fun i v hv => (k.cell (p := ⟨b, i, none⟩) h.lt).trans (h.at_ i v hv)⟩
theorem Box.alloc {w : World} {b : Nat} {cs : Array Value} (h : Box w b cs) (x : Obj) : Box (w.alloc x) b cs := h.below ((Below.refl _ _).alloc (Nat.le_refl _) _)
theorem Box.drew {w : World} {b : Nat} {cs : Array Value} (h : Box w b cs) : Box w.drew b cs := h.below (Below.refl _ _).drew
theorem Box.new (w : World) (cs : Array Value) (t : TypeId) : Box (w.alloc (.cells cs t)) w.heap.size cs := ⟨by simp, fun i v hv => box_at w _ _ i v hv⟩
def ReplyV.state (r : ReplyV) : Array Value :=
  #[.int .i64 r.phase, .int .i64 r.active, .int .i64 r.r0, .int .i64 r.r1, .int .i64 r.s0, .int .i64 r.s1, .bool r.p0, .bool r.p1, .int .i64 r.delay, .int .i64 r.gen, .int .i64 r.switch, .int .i64 r.flip]
theorem Box.tail {w : World} {b : Nat} {r : ReplyV} (h : Box w b r.state) : w.cell? ⟨b, 0, none⟩ = some (.int .i64 r.phase) ∧ w.cell? ⟨b, 1, none⟩ = some (.int .i64 r.active) ∧ w.cell? ⟨b, 9, none⟩ = some (.int .i64 r.gen) :=
  ⟨h.at_ _ _ rfl, h.at_ _ _ rfl, h.at_ _ _ rfl⟩
theorem pair_row {w : World} {b o : Nat} {n m : Int} (hb : b < w.heap.size) (h0 : w.cell? ⟨b, o, none⟩ = some (.int .i64 n)) (h1 : w.cell? ⟨b, o + 1, none⟩ = some (.int .i64 m)) : IntRow w b o [n, m] := by
  refine ⟨hb, fun j hj => ?_⟩
  have : j = 0 ∨ j = 1 := by simp at hj; omega
  rcases this with rfl | rfl
  · exact h0
  · exact h1
theorem RBox.want {w : World} {b : Nat} {r : ReplyV} (h : RBox w b r) : IntRow w b 15 [r.w0, r.w1] := pair_row h.lt (h.at_ _ _ rfl) (h.at_ _ _ rfl)
theorem RBox.ready {w : World} {b : Nat} {r : ReplyV} (h : RBox w b r) : IntRow w b 17 [r.d0, r.d1] := pair_row h.lt (h.at_ _ _ rfl) (h.at_ _ _ rfl)
theorem Box.rev {w : World} {b : Nat} {r : ReplyV} (h : Box w b r.state) : IntRow w b 2 [r.r0, r.r1] := pair_row h.lt (h.at_ _ _ rfl) (h.at_ _ _ rfl)

theorem StrRow.six (w : World) (x0 x1 x2 x3 x4 x5 : ByteArray) (t : TypeId) : StrRow (w.alloc (.cells #[.string x0, .string x1, .string x2, .string x3, .string x4, .string x5] t)) w.heap.size [x0, x1, x2, x3, x4, x5] := by
  refine ⟨by simp, fun j x hj => ?_⟩
  rw [World.cell?_alloc_new]
  match j, hj with
  | 0, hj => simp at hj; subst hj; rfl
  | 1, hj => simp at hj; subst hj; rfl
  | 2, hj => simp at hj; subst hj; rfl
  | 3, hj => simp at hj; subst hj; rfl
  | 4, hj => simp at hj; subst hj; rfl
  | 5, hj => simp at hj; subst hj; rfl
theorem StrRow.drew {w : World} {b : Nat} {xs : List ByteArray} (h : StrRow w b xs) : StrRow w.drew b xs := h.below (Below.refl _ _).drew
theorem info9 : (Tryd.prog.info? 9).map (fun i => (i.zero, i.size, i.bytes)) = some (some (.string ByteArray.empty), 1, 16) := by kernel_rfl
theorem addr_at (g j : Nat) : (⟨g, 0, none⟩ : Addr).add j = ⟨g, 0 + j, none⟩ := by unfold Addr.add; split <;> simp_all
theorem StrRow.cells {w : World} {b : Nat} {xs : List ByteArray} (h : StrRow w b xs) : ∀ j v, (xs.map Value.string)[j]? = some v → w.cell? ((⟨b, 0, none⟩ : Addr).add j) = some v := by
  intro j v hj
  rw [addr_at]
  rw [List.getElem?_map] at hj
  cases hx : xs[j]? with
  | none => rw [hx] at hj; cases hj
  | some x => rw [hx] at hj; rw [h.at_ j x hx]; exact hj
/-- Six strings behind four, at a step of a region that draws its order. -/
theorem step_append_ten {ops : Array Oper} {o : Oper} {a : Act} {w : World} {K : Act → World → Prop} {Q : Exit → Act → World → Prop} {E : Prop} (hgd : o.guard = none) (s x : Operand)
    (hop : o.op = Op.call { callee := Callee.builtin Builtin.append, args := #[s, x], argTypes := #[45, 45] }) (b : Nat) (hs : a.eval s = .slice (some ⟨b, 0, none⟩) 4 4)
    (xs ys : List ByteArray) (h4 : xs.length = 4) (h6 : ys.length = 6) (hS : StrRow w b xs) (hT : ∃ c, a.eval x = .slice (some ⟨c, 0, none⟩) 6 6 ∧ StrRow w c ys)
    (hK : ∀ b2 cap w', 10 ≤ cap → StrRow w' b2 (xs ++ ys) → Below w.heap.size w w' → K (a.put o.dst (.slice (some ⟨b2, 0, none⟩) 10 cap)) w') :
    if Region.wanted o (yielded ops a.tmps) = true then Oper.wp Tryd.prog o a w K Q else E := by
  obtain ⟨c, hx, hT⟩ := hT
  have hw : Region.wanted o (yielded ops a.tmps) = true := by simp [Region.wanted, hgd]
  rw [if_pos hw]
  obtain ⟨i, hi, hz, hz1, hz2⟩ := info_parts info9
  have hrun := run_append_grow (P := Tryd.prog) w 45 o.type 9 i _ Tryd.underlying45 hi hz ⟨b, 0, none⟩ 4 4 (xs.map Value.string) (by rw [List.length_map, h4, hz1]) hS.cells ⟨c, 0, none⟩ 6 6 (ys.map Value.string) (by rw [List.length_map, h6, hz1]) hT.cells (by omega) (by omega) (growslice_fits (by omega) (by rw [hz2]; decide))
  have hge := grownCap_ge w 10 4 9
  unfold Oper.wp
  simp only [execOp, hop, resolve, invoke, builtin, Sem.run_bind, Sem.run_pure, Result.andThen_ok, List.map_toArray, List.map_cons, List.map_nil, hs, hx, hrun]
  refine hK _ _ _ hge ⟨by simp, fun j y hj => ?_⟩ (((Below.refl _ _).drew).alloc (Nat.le_refl _) _)
  rw [Nat.zero_add]
  show (w.drew.alloc _).cell? ⟨w.drew.heap.size, j, none⟩ = _
  rw [World.cell?_alloc_new]
  have hl : j < (xs ++ ys).length := (List.getElem?_eq_some_iff.1 hj).1
  rw [Array.getElem?_append_left (by simpa using hl)]
  simp only [List.append_toArray, List.getElem?_toArray]
  rw [← List.map_append, List.getElem?_map, hj]
  rfl
theorem tail_small (r : ReplyV) (ok : r.Ok) : ∀ x ∈ tailParts r, x.size ≤ 200 := by
  intro x hx
  have h1 := wordsStr_size wActive [r.active] (one64 ok.active)
  have h2 := wordsStr_size wGen [r.gen] (one64 ok.gen)
  have h3 := wordsStr_size wRev [r.r0, r.r1] (two64 ok.r0 ok.r1)
  have h4 := wordsStr_size wWant [r.w0, r.w1] (two64 ok.w0 ok.w1)
  have h5 := wordsStr_size wReady [r.d0, r.d1] (two64 ok.d0 ok.d1)
  have h6 := phaseName_size r.phase
  have k1 : wActive.size = 6 := by decide
  have k2 : wGen.size = 3 := by decide
  have k3 : wRev.size = 3 := by decide
  have k4 : wWant.size = 4 := by decide
  have k5 : wReady.size = 5 := by decide
  simp only [List.length_cons, List.length_nil] at h1 h2 h3 h4 h5
  simp only [tailParts, List.mem_cons, List.not_mem_nil, or_false] at hx
  rcases hx with rfl | rfl | rfl | rfl | rfl | rfl <;> omega

set_option maxHeartbeats 4000000 in
theorem line_up (r : ReplyV) (ok : r.Ok) (hu : r.up = true) (w : World) (ht : Tab w) : Calls Tryd.prog 9 #[.agg r.cells] w fun e w' => e = .returned (.string (progLine r)) ∧ Below w.heap.size w w' := by
  have hR := RBox.new w r
  have hT := ht.alloc (.cells r.cells 32)
  have hF := (From.refl w).alloc (.cells r.cells 32)
  have hwb : ∃ wb, w.alloc (.cells r.cells 32) = wb := ⟨_, rfl⟩
  have z19 := hR.at_ 19 (.bool r.up) rfl
  rw [hu] at z19
  obtain ⟨wb, hwb⟩ := hwb
  rw [hwb] at hR hT hF z19
  have hwb' := hwb
  unfold ReplyV.cells
  unfold ReplyV.cells at hwb
  rw [hu] at hwb ⊢
  go_enter Tryd.func9, Tryd.ntmps9
  go_upto_region 4 with fail
  try rw [hwb]
  clear hwb hwb'
  generalize w.heap.size = BX at hR z19 ⊢
  have hRd := hR.drew
  have hTd := hT.drew
  have hFd := hF.drew
  go_cut [4] (fun t4 wx => ∃ b, t4 = .slice (some ⟨b, 0, none⟩) 4 4 ∧ StrRow wx b (headParts r wUp) ∧ RBox wx BX r ∧ Tab wx ∧ From w wx)
  case first =>
   go_region_held3 (fun w' => w'.cell? ⟨BX, 0, none⟩ = some (.int .i64 r.err) ∧ w'.cell? ⟨BX, 13, none⟩ = some (.int .i64 r.slot) ∧ w'.cell? ⟨BX, 14, none⟩ = some (.int .i64 r.cgen) ∧ w'.cell? ⟨BX, 20, none⟩ = some (.int .i64 r.tick))
    ((exact RBox.head (by repeat (with_reducible first | assumption | apply RBox.alloc | apply RBox.drew | refine RBox.below ?_ (by assumption)))))
    (first
      | (go_at_call 13; refine (error r.err _).mono ?_; rintro e w1 ⟨rfl, hb1⟩)
      | (go_at_call 17; with_reducible refine (words_tick ok ?hr ?ht).mono ?_; (case hr => repeat (with_reducible first | assumption | exact IntRow.one _ _ _ | exact IntRow.one1 _ _ _ _ | exact IntRow.oned _ _ _ | exact IntRow.oned1 _ _ _ _ | apply IntRow.alloc | apply IntRow.drew | refine IntRow.below ?_ (by assumption))); (case ht => repeat (with_reducible first | assumption | apply Tab.alloc | apply Tab.drew | refine Tab.below ?_ (by assumption))); rintro e w2 ⟨rfl, hb2⟩)
      | (go_at_call 17; with_reducible refine (words_route ok ?hr ?ht).mono ?_; (case hr => repeat (with_reducible first | assumption | exact IntRow.two _ _ _ _ | exact IntRow.two1 _ _ _ _ _ | exact IntRow.twod _ _ _ _ | exact IntRow.twod1 _ _ _ _ _ | apply IntRow.alloc | apply IntRow.drew | refine IntRow.below ?_ (by assumption))); (case ht => repeat (with_reducible first | assumption | apply Tab.alloc | apply Tab.drew | refine Tab.below ?_ (by assumption))); rintro e w3 ⟨rfl, hb3⟩))
   all_goals go_wp2
   all_goals go_meet
   all_goals refine ⟨_, rfl, StrRow.four _ _ _ _ _ _, RBox.alloc (by repeat (with_reducible first | assumption | apply RBox.alloc | apply RBox.drew | refine RBox.below ?_ (by assumption))) _, Tab.alloc (by repeat (with_reducible first | assumption | apply Tab.alloc | apply Tab.drew | refine Tab.below ?_ (by assumption))) _, ?_⟩
   all_goals repeat (with_reducible first | assumption | apply From.alloc | apply From.drew | refine From.below ?_ (by assumption))
  case rest =>
   obtain ⟨b, rfl, hS, hR, hTc, hF⟩ := hcut
   have c1 := hR.at_ 1 (.int .i64 r.phase) rfl
   have c2 := hR.at_ 2 (.int .i64 r.active) rfl
   have c3 := hR.at_ 3 (.int .i64 r.r0) rfl
   have c4 := hR.at_ 4 (.int .i64 r.r1) rfl
   have c5 := hR.at_ 5 (.int .i64 r.s0) rfl
   have c6 := hR.at_ 6 (.int .i64 r.s1) rfl
   have c7 := hR.at_ 7 (.bool r.p0) rfl
   have c8 := hR.at_ 8 (.bool r.p1) rfl
   have c9 := hR.at_ 9 (.int .i64 r.delay) rfl
   have c10 := hR.at_ 10 (.int .i64 r.gen) rfl
   have c11 := hR.at_ 11 (.int .i64 r.switch) rfl
   have c12 := hR.at_ 12 (.int .i64 r.flip) rfl
   have ltB : BX < wc.heap.size := hR.lt
   have c19 : wc.cell? ⟨BX, 19, none⟩ = some (.bool true) := by rw [← hu]; exact hR.at_ 19 (.bool r.up) rfl
   go_upto_region 7 with fail
   have hBX := Box.new wc r.state 26
   have hS2 := hS.alloc (.cells r.state 26)
   have hR2 := hR.alloc (.cells r.state 26)
   have hT2 := hTc.alloc (.cells r.state 26)
   have hF2 := hF.alloc (.cells r.state 26)
   have hwd : ∃ wd, wc.alloc (.cells r.state 26) = wd := ⟨_, rfl⟩
   obtain ⟨wd, hwd⟩ := hwd
   rw [hwd] at hBX hS2 hR2 hT2 hF2
   unfold ReplyV.state at hwd
   rw [hwd]
   clear hwd hS hR hTc hF c1 c2 c3 c4 c5 c6 c7 c8 c9 c10 c11 c12 c19 ltB hRd hTd hFd z19
   generalize wc.heap.size = BS at hBX ⊢
   have hBd := hBX.drew
   have hRd := hR2.drew
   have hTd := hT2.drew
   have hSd := hS2.drew
   have hFd := hF2.drew
   go_cut [4] (fun t4 wx => ∃ b2 cap, t4 = .slice (some ⟨b2, 0, none⟩) 10 cap ∧ 10 ≤ cap ∧ StrRow wx b2 (headParts r wUp ++ tailParts r) ∧ From w wx)
   case first =>
    go_region_held3 (fun w' => w'.cell? ⟨BS, 0, none⟩ = some (.int .i64 r.phase) ∧ w'.cell? ⟨BS, 1, none⟩ = some (.int .i64 r.active) ∧ w'.cell? ⟨BS, 9, none⟩ = some (.int .i64 r.gen))
     ((exact Box.tail (by repeat (with_reducible first | assumption | apply Box.alloc | apply Box.drew | refine Box.below ?_ (by assumption)))))
     (first
      | (go_at_call 11; refine (phase r.phase _).mono ?_; rintro e w1 ⟨rfl, hb1⟩)
      | (go_at_call 17; with_reducible refine (words_active ok ?hr ?ht).mono ?_; (case hr => repeat (with_reducible first | assumption | exact IntRow.one _ _ _ | exact IntRow.one1 _ _ _ _ | exact IntRow.oned _ _ _ | exact IntRow.oned1 _ _ _ _ | apply IntRow.alloc | apply IntRow.drew | refine IntRow.below ?_ (by assumption))); (case ht => repeat (with_reducible first | assumption | apply Tab.alloc | apply Tab.drew | refine Tab.below ?_ (by assumption))); rintro e w2 ⟨rfl, hb2⟩)
      | (go_at_call 17; with_reducible refine (words_gen ok ?hr ?ht).mono ?_; (case hr => repeat (with_reducible first | assumption | exact IntRow.one _ _ _ | exact IntRow.one1 _ _ _ _ | exact IntRow.oned _ _ _ | exact IntRow.oned1 _ _ _ _ | apply IntRow.alloc | apply IntRow.drew | refine IntRow.below ?_ (by assumption))); (case ht => repeat (with_reducible first | assumption | apply Tab.alloc | apply Tab.drew | refine Tab.below ?_ (by assumption))); rintro e w3 ⟨rfl, hb3⟩)
      | (go_at_call 17; with_reducible refine (words_rev ok ?hr ?ht).mono ?_; (case hr => refine Box.rev ?_; repeat (with_reducible first | assumption | apply Box.alloc | apply Box.drew | refine Box.below ?_ (by assumption))); (case ht => repeat (with_reducible first | assumption | apply Tab.alloc | apply Tab.drew | refine Tab.below ?_ (by assumption))); rintro e w4 ⟨rfl, hb4⟩)
      | (go_at_call 17; with_reducible refine (words_want ok ?hr ?ht).mono ?_; (case hr => refine RBox.want ?_; repeat (with_reducible first | assumption | apply RBox.alloc | apply RBox.drew | refine RBox.below ?_ (by assumption))); (case ht => repeat (with_reducible first | assumption | apply Tab.alloc | apply Tab.drew | refine Tab.below ?_ (by assumption))); rintro e w5 ⟨rfl, hb5⟩)
      | (go_at_call 17; with_reducible refine (words_ready ok ?hr ?ht).mono ?_; (case hr => refine RBox.ready ?_; repeat (with_reducible first | assumption | apply RBox.alloc | apply RBox.drew | refine RBox.below ?_ (by assumption))); (case ht => repeat (with_reducible first | assumption | apply Tab.alloc | apply Tab.drew | refine Tab.below ?_ (by assumption))); rintro e w6 ⟨rfl, hb6⟩)
      | (refine step_append_ten rfl (.tmp 29) (.tmp 52) rfl b ?_ (headParts r wUp) (tailParts r) rfl rfl ?_ ?_ ?_; (focus rfl); (focus repeat (with_reducible first | assumption | apply StrRow.alloc | apply StrRow.drew | refine StrRow.below ?_ (by assumption))); (focus exact ⟨_, rfl, StrRow.six _ _ _ _ _ _ _ _⟩); intro b7 cap7 w7 hc7 hS7 hb7))
    all_goals go_wp2
    all_goals go_meet
    all_goals refine ⟨_, _, rfl, hc7, hS7, ?_⟩
    all_goals repeat (with_reducible first | assumption | apply From.alloc | apply From.drew | refine From.below ?_ (by assumption))
   case rest =>
    obtain ⟨b2, cap, rfl, hcap, hS, hF⟩ := hcut
    have hsm : ∀ x ∈ headParts r wUp ++ tailParts r, x.size ≤ 200 := by
      intro x hx
      rcases List.mem_append.1 hx with hx | hx
      · exact head_small r ok wUp (by decide) x hx
      · exact tail_small r ok x hx
    have hp : progLine r = ⟨(Lib.join ((headParts r wUp ++ tailParts r).map (·.data.toList)) [32]).toArray⟩ ++ ⟨#[10]⟩ := by unfold progLine parts; rw [hu]; rfl
    have hJ : (⟨(Lib.join ((headParts r wUp ++ tailParts r).map (·.data.toList)) [32]).toArray⟩ : ByteArray).size ≤ 2010 := line_bound _ 10 hsm (Nat.le_refl _)
    have CJ := fun (W : World) (h : StrRow W b2 (headParts r wUp ++ tailParts r)) => join_at h 10 rfl (by omega) hsm cap hcap
    generalize (⟨(Lib.join ((headParts r wUp ++ tailParts r).map (·.data.toList)) [32]).toArray⟩ : ByteArray) = J at *
    generalize headParts r wUp ++ tailParts r = xs at *
    have HP := Lib.hid hp
    clear hp
    go_wp2_with fail
    refine (CJ _ hS).mono ?_
    rintro e w9 ⟨rfl, hb9⟩
    go_wp2
    go_ret
    exact ⟨by rw [HP.out]; rfl, hF.below hb9⟩
end Go.Proofs.YtkcjcpcnfjffoaaDoor
