/- What the reference's disk holds; the walks of its Set, Read, Write, Flush. -/
import Derived.Test.YtbajhplblnemnaaRefF
import Derived.Deep.DeepCutAuto
import Derived.Deep.CutBlock
namespace Go.Proofs.Ytbajhplblnemnaa
open Go.RowKit
set_option linter.unusedVariables false

theorem info3 : (Try.prog.info? 3).map (fun i => (i.zero, i.size, i.bytes)) = some (some (.int .i64 0), 1, 8) := by kernel_rfl

def strVals (l : List ByteArray) : List Value := l.map Value.string
def intVals (l : List Nat) : List Value := l.map fun (n : Nat) => Value.int .i64 (n : Int)

theorem owns_some {w : World} {base : Nat} {e : TypeId} {size : Nat} {v : Value} {n : Nat} {xs : List Value} (h : w.ownsRow base e size v n xs) (hn : 0 < n) : ∃ g cap, v = .slice (some ⟨g, 0, none⟩) n cap ∧ base ≤ g ∧ n ≤ cap := by
  rcases h.2 with ⟨_, h0⟩ | ⟨g, cap, cur, hv, hg, hh, hc, _⟩
  · omega
  · exact ⟨g, cap, hv, hg, hc⟩
theorem owns_empty (w : World) (base : Nat) (e : TypeId) (size : Nat) (hb : base ≤ w.heap.size) : (w.alloc (.cells #[] e)).ownsRow base e size (.slice (some ⟨w.heap.size, 0, none⟩) 0 0) 0 [] :=
  World.ownsRow_made w #[] 0 hb (by unfold maxLen; omega) (by simp)
theorem owns_kept_grown {w w' : World} {row : Option Nat} {base : Nat} {e : TypeId} {size : Nat} {v : Value} {n : Nat} {xs : List Value} (h : w.ownsRow base e size v n xs) (hg : w.grownBy w' row) (hne : v.ownBlock = none ∨ v.ownBlock ≠ row) : w'.ownsRow base e size v n xs := h.kept hg hne

set_option maxHeartbeats 400000 in
theorem set_any (g cap : Nat) (l : List ByteArray) (i : Nat) (s : ByteArray) (base : Nat) (w : World) (ho : w.ownsRow base 9 1 (.slice (some ⟨g, 0, none⟩) l.length cap) l.length (strVals l)) (hi : i < l.length) (hl : l.length ≤ 1000000) :
    Calls Try.prog 35 #[.slice (some ⟨g, 0, none⟩) l.length cap, .int .i64 (i : Int), .string s] w fun e w' => ∃ v', e = .returned v' ∧ w'.ownsRow w.heap.size 9 1 v' l.length (strVals (l.set i s)) ∧ Below w.heap.size w w' := by
  obtain ⟨i0, hi0, hz0, hz1, hz2⟩ := info_parts info9
  have hcells : ∀ j u, (strVals l)[j]? = some u → (w.alloc (.cells #[] 9)).cell? ((⟨g, 0, none⟩ : Addr).add j) = some u := fun j u hj => (ho.alloc (.cells #[] 9)).cells (g := g) rfl j u hj
  have hlen : (strVals l).length = l.length * 1 := by simp [strVals]
  have hone : ∀ u ∈ strVals l, u.oneCell' = true := by
    intro u hu
    obtain ⟨x, _, rfl⟩ := List.mem_map.1 hu
    rfl
  have hbs : (l.length : Nat) * 16 ≤ 140737488355328 := by omega
  go_enter Try.func35, Try.ntmps35
  go_wp2_with (at_builtin; refine wpList_append_own_f _ rfl (.tmp 8) (.tmp 9) 50 rfl w.heap.size 9 i0 (.string ByteArray.empty) 1 16 Try.underlying50 hi0 hz0 hz1 hz2 rfl (by decide) _ 0 [] rfl (owns_empty w w.heap.size 9 1 (Nat.le_refl _)) ⟨g, 0, none⟩ l.length cap (strVals l) rfl hlen hcells hone ?c3 ?c4 ?c5 ?_)
  case c3 => unfold maxLen; omega
  case c4 => omega
  case c5 => simp
  intro v' w2 hown2 hg2 _
  obtain ⟨g2, cap2, hv2, hb2, hc2⟩ := owns_some hown2 (by omega)
  subst hv2
  have hx := hown2.cellAt i (by omega)
  rw [show (strVals l)[i]? = some (.string l[i]) from by simp [strVals, hi]] at hx
  have fx := hown2.frozenAt i
  obtain ⟨hst, hgst⟩ := hown2.stored i (.string s)
  have hbel : Below w.heap.size w (w2.setCell ⟨g2, i, none⟩ (.string s)) :=
    (((Below.refl _ _).alloc (Nat.le_refl _) _).grown hg2 (by simp) (fun k hk => by simp [Value.ownBlock] at hk; omega)).setCell (by exact hb2) _
  have hfin : (w2.setCell ⟨g2, i, none⟩ (.string s)).ownsRow w.heap.size 9 1 (.slice (some ⟨g2, 0, none⟩) l.length cap2) l.length (strVals (l.set i s)) := by
    have e : strVals (l.set i s) = (strVals l).set i (.string s) := by simp [strVals, List.map_set]
    rw [e]
    exact hst
  clear hst hgst hown2 hg2 hcells hone
  go_wp2
  go_ret
  exact ⟨_, rfl, hfin, hbel⟩

/-- append(dst, src...), both owned rows, whichever of them is nil. -/
theorem wpList_append_rows {P : Program} (w : World) {ops : Array Oper} {rest : List Oper} {o : Oper} {a : Act} {Q : Exit → Act → World → Prop} (hgd : o.guard = none) (s x : Operand) (t : TypeId)
    (ho : o.op = .call { callee := .builtin .append, args := #[s, x], argTypes := #[t, t] })
    (base : Nat) (e : TypeId) (i : TypeInfo) (z : Value) (size bytes : Nat) (ht : P.underlying t = some (.slice e)) (hi : P.info? e = some i) (hz : i.zero = some z)
    (hsize : i.size = size) (hby : i.bytes = bytes) (hzs : z.cells.size = size) (hsz : 0 < size)
    (v : Value) (n : Nat) (xs : List Value) (hs : a.eval s = v) (hown : w.ownsRow base e size v n xs)
    (base' : Nat) (sv : Value) (m : Nat) (ks : List Value) (hx : a.eval x = sv) (hsrc : w.ownsRow base' e size sv m ks) (h1 : ∀ u ∈ ks, u.oneCell' = true)
    (h63 : n + m ≤ maxLen) (hbytes : (n + m) * bytes ≤ 140737488355328) (hbase : base ≤ w.heap.size)
    (h : ∀ v' w', w'.ownsRow base e size v' (n + m) (xs ++ ks) → w.grownBy w' v.ownBlock → (∀ g, v'.ownBlock = some g → v.ownBlock = some g ∨ w.heap.size ≤ g) → wpList P ops Q rest (a.put o.dst v') w') : wpList P ops Q (o :: rest) a w := by
  rcases hsrc.2 with ⟨rfl, rfl⟩ | ⟨g, cap, cur, rfl, hbg, hg, hnc, hcm, hcs, htake⟩
  · have hk : ks = [] := List.eq_nil_of_length_eq_zero (by simpa using hsrc.1)
    subst hk
    exact wpList_append_own_none hgd s x t ho base e i size ht hi v n xs hs hown hx (h v w (by simpa using hown) ⟨rfl, rfl, rfl, Nat.le_refl _, fun _ _ _ => rfl⟩ (fun g hg => .inl hg))
  · exact wpList_append_own_f w hgd s x t ho base e i z size bytes ht hi hz hsize hby hzs hsz v n xs hs hown ⟨g, 0, none⟩ m cap ks hx hsrc.1 (hsrc.cells (g := g) rfl) h1 h63 hbytes hbase h

structure RefSt where
  size : Nat
  last : List ByteArray
  now : List ByteArray
  wh : List Nat
  what : List ByteArray
  fuse : RFuse

structure RLay where
  md : Nat
  mf : Nat
  lv : Value
  nv : Value
  wv : Value
  tv : Value

structure RefIs (b0 base : Nat) (w : World) (M : RLay) (S : RefSt) : Prop where
  disk : Blk w M.md #[.int .i64 (S.size : Int), M.lv, M.nv, M.wv, M.tv, .pointer (some ⟨M.mf, 0, none⟩)] 53
  fuse : RFuseIs w M.mf S.fuse
  last : w.ownsRow base 9 1 M.lv S.last.length (strVals S.last)
  now : w.ownsRow base 9 1 M.nv S.now.length (strVals S.now)
  wh : w.ownsRow base 3 1 M.wv S.wh.length (intVals S.wh)
  what : w.ownsRow base 9 1 M.tv S.what.length (strVals S.what)
  c0 : b0 ≤ M.md
  c1 : b0 ≤ M.mf

/-- The blocks of its rows. -/
def RLay.rows (M : RLay) (k : Nat) : Prop := M.lv.ownBlock = some k ∨ M.nv.ownBlock = some k ∨ M.wv.ownBlock = some k ∨ M.tv.ownBlock = some k
def RLay.fp (M : RLay) (k : Nat) : Prop := k = M.md ∨ k = M.mf

theorem RefIs.kept {S : Nat → Prop} {b0 base : Nat} {w w' : World} {M : RLay} {D : RefSt} (h : RefIs b0 base w M D) (k : Kept S w w') (h1 : ∀ b, M.fp b → ¬ S b) (h2 : ∀ b, M.rows b → ¬ S b) : RefIs b0 base w' M D :=
  ⟨h.disk.kept k (h1 _ (.inl rfl)), Blk.kept h.fuse k (h1 _ (.inr rfl)), owns_kept h.last k (fun _ hg => h2 _ (.inl hg)), owns_kept h.now k (fun _ hg => h2 _ (.inr (.inl hg))),
    owns_kept h.wh k (fun _ hg => h2 _ (.inr (.inr (.inl hg)))), owns_kept h.what k (fun _ hg => h2 _ (.inr (.inr (.inr hg)))), h.c0, h.c1⟩
theorem RefIs.row_type {b0 base : Nat} {w : World} {M : RLay} {D : RefSt} (h : RefIs b0 base w M D) {k : Nat} (hk : M.rows k) : ∃ c t, Blk w k c t ∧ (t = 9 ∨ t = 3) ∧ base ≤ k := by
  rcases hk with hk | hk | hk | hk
  · obtain ⟨c, hc⟩ := owns_blk h.last hk; exact ⟨c, 9, hc, .inl rfl, (h.last.lt k hk).1⟩
  · obtain ⟨c, hc⟩ := owns_blk h.now hk; exact ⟨c, 9, hc, .inl rfl, (h.now.lt k hk).1⟩
  · obtain ⟨c, hc⟩ := owns_blk h.wh hk; exact ⟨c, 3, hc, .inr rfl, (h.wh.lt k hk).1⟩
  · obtain ⟨c, hc⟩ := owns_blk h.what hk; exact ⟨c, 9, hc, .inl rfl, (h.what.lt k hk).1⟩
theorem RefIs.row_fp {b0 base : Nat} {w : World} {M : RLay} {D : RefSt} (h : RefIs b0 base w M D) : ∀ b, M.rows b → ¬ M.fp b := by
  intro b hb hf
  obtain ⟨c, t, hc, ht, _⟩ := h.row_type hb
  rcases hf with rfl | rfl
  · exact hc.ne h.disk (by rcases ht with rfl | rfl <;> decide) rfl
  · exact hc.ne h.fuse (by rcases ht with rfl | rfl <;> decide) rfl
theorem RefIs.fuseTo {b0 base : Nat} {w w' : World} {M : RLay} {D : RefSt} {F : RFuse} (h : RefIs b0 base w M D) (k : RFuseTo w M.mf F w') : RefIs b0 base w' M { D with fuse := F } := by
  obtain ⟨k1, k2⟩ := k
  have hr := fun b hb (e : b = M.mf) => h.row_fp b hb (.inr e)
  exact ⟨h.disk.kept k2 (h.disk.ne h.fuse (by decide)), k1, owns_kept h.last k2 (fun _ hg => hr _ (.inl hg)), owns_kept h.now k2 (fun _ hg => hr _ (.inr (.inl hg))),
    owns_kept h.wh k2 (fun _ hg => hr _ (.inr (.inr (.inl hg)))), owns_kept h.what k2 (fun _ hg => hr _ (.inr (.inr (.inr hg)))), h.c0, h.c1⟩

def RefTo (b0 base : Nat) (w : World) (M : RLay) (D : RefSt) (w' : World) : Prop := ∃ lv nv wv tv, RefIs b0 base w' { M with lv := lv, nv := nv, wv := wv, tv := tv } D ∧ Kept M.fp w w'

def RefSt.isB (D : RefSt) (i : Int) : Bool := decide (0 ≤ i ∧ i < D.now.length)
def RefSt.reads (D : RefSt) (i : Int) : ByteArray × Int := if D.isB i = true then (D.now.getD i.toNat ByteArray.empty, 0) else (ByteArray.empty, 1)

theorem ref_read (b0 base : Nat) (M : RLay) (D : RefSt) (i : Int) (w : World) (h : RefIs b0 base w M D) :
    Calls Try.prog 27 #[.pointer (some ⟨M.md, 0, none⟩), .int .i64 i] w fun e w' => e = .returned (.tuple #[.string (D.reads i).1, .int .i64 (D.reads i).2]) ∧ w = w' := by
  obtain ⟨a, cap, hnv⟩ := owns_form h.now
  have c2 := h.disk.cell 2
  rw [hnv] at c2
  simp at c2
  unfold RefSt.reads
  cases hi : D.isB i with
  | false =>
    rw [if_neg (by simp)]
    simp only [RefSt.isB, decide_eq_false_iff_not] at hi
    by_cases h0 : i < 0
    · clear hnv hi
      go_enter Try.func27, Try.ntmps27
      go_wp2
      go_ret2
      exact ⟨rfl, rfl⟩
    · have h1 : (D.now.length : Int) ≤ i := by omega
      clear hnv hi
      go_enter Try.func27, Try.ntmps27
      go_wp2
      go_ret2
      exact ⟨rfl, rfl⟩
  | true =>
    rw [if_pos rfl]
    simp only [RefSt.isB, decide_eq_true_eq] at hi
    obtain ⟨i, rfl⟩ := Int.eq_ofNat_of_zero_le hi.1
    have hi' : i < D.now.length := by omega
    obtain ⟨g, cap', hv, _, _⟩ := owns_some h.now (by omega)
    have hx := h.now
    rw [hv] at hx
    have hx := hx.cellAt i (by omega)
    rw [show (strVals D.now)[i]? = some (.string (D.now.getD i ByteArray.empty)) from by simp [strVals, hi']] at hx
    rw [hnv] at hv
    injection hv with e1 _ _
    subst e1
    clear hnv hi
    rw [Int.toNat_natCast]
    generalize D.now.getD i ByteArray.empty = R at *
    have h0 : ¬ (i : Int) < 0 := by omega
    go_enter Try.func27, Try.ntmps27
    go_wp2
    go_ret2
    exact ⟨rfl, rfl⟩

def RefSt.fits (D : RefSt) (i : Int) (b : ByteArray) : Bool := D.isB i && decide (b.size = D.size)
def RefSt.wrote (D : RefSt) (i : Int) (b : ByteArray) : RefSt :=
  if D.fits i b = true then (if D.fuse.blowsNow = true then { D with fuse := D.fuse.spend } else { D with now := D.now.set i.toNat b, wh := D.wh ++ [i.toNat], what := D.what ++ [b], fuse := D.fuse.spend }) else D
def RefSt.writes (D : RefSt) (i : Int) (b : ByteArray) : Int := if D.fits i b = true then (if D.fuse.blowsNow = true then 2 else 0) else 1

theorem RefIs.to {b0 base : Nat} {w : World} {M : RLay} {D : RefSt} (h : RefIs b0 base w M D) : RefTo b0 base w M D w := ⟨M.lv, M.nv, M.wv, M.tv, h, Kept.refl _ _⟩
theorem RLay.fp_mf {w w' : World} {M : RLay} {F : RFuse} (k : RFuseTo w M.mf F w') : Kept M.fp w w' := k.2.mono fun _ hk => .inr hk

theorem ref_write_no (b0 base : Nat) (M : RLay) (D : RefSt) (i : Int) (b : ByteArray) (w : World) (h : RefIs b0 base w M D) (hf : D.fits i b = false) :
    Calls Try.prog 22 #[.pointer (some ⟨M.md, 0, none⟩), .int .i64 i, .string b] w fun e w' => e = .returned (.int .i64 1) ∧ w = w' := by
  obtain ⟨a, cap, hnv⟩ := owns_form h.now
  have c0 := h.disk.cell 0
  have c2 := h.disk.cell 2
  rw [hnv] at c2
  simp at c0 c2
  clear hnv
  simp only [RefSt.fits, RefSt.isB, Bool.and_eq_false_iff, decide_eq_false_iff_not] at hf
  by_cases h0 : i < 0
  · clear hf
    go_enter Try.func22, Try.ntmps22
    go_wp2
    go_ret
    exact ⟨rfl, rfl⟩
  · by_cases h1 : (D.now.length : Int) ≤ i
    · clear hf
      go_enter Try.func22, Try.ntmps22
      go_wp2
      go_ret
      exact ⟨rfl, rfl⟩
    · have hs : ((b.size : Int) != (D.size : Int)) = true := by
        simp
        rcases hf with hf | hf <;> omega
      clear hf
      go_enter Try.func22, Try.ntmps22
      go_wp2
      go_ret
      exact ⟨rfl, rfl⟩

theorem rfits_parts {D : RefSt} {i : Int} {b : ByteArray} (hf : D.fits i b = true) : b.size = D.size ∧ 0 ≤ i ∧ i < D.now.length := by
  simp only [RefSt.fits, RefSt.isB, Bool.and_eq_true, decide_eq_true_eq] at hf
  exact ⟨hf.2, hf.1⟩

theorem ref_write_halt (b0 base : Nat) (M : RLay) (D : RefSt) (i : Int) (b : ByteArray) (w : World) (h : RefIs b0 base w M D) (hf : D.fits i b = true) (hb : D.fuse.blowsNow = true) (ok : D.fuse.Ok) :
    Calls Try.prog 22 #[.pointer (some ⟨M.md, 0, none⟩), .int .i64 i, .string b] w fun e w' => e = .returned (.int .i64 2) ∧ RefTo b0 base w M { D with fuse := D.fuse.spend } w' := by
  obtain ⟨f1, f2, f3⟩ := rfits_parts hf
  obtain ⟨a, cap, hnv⟩ := owns_form h.now
  have c0 := h.disk.cell 0
  have c2 := h.disk.cell 2
  have c5 := h.disk.cell 5
  rw [hnv] at c2
  simp at c0 c2 c5
  clear hnv hf
  have hs : ((b.size : Int) != (D.size : Int)) = false := by simp; omega
  have HF := rfuse_spend M.mf D.fuse w h.fuse ok
  rw [hb] at HF
  have n0 : ¬ i < 0 := by omega
  have n1 : ¬ (D.now.length : Int) ≤ i := by omega
  clear hb f1
  go_enter Try.func22, Try.ntmps22
  go_wp2_with (go_at_call 34; refine HF.mono ?_; rintro e w1 ⟨rfl, hto⟩)
  go_ret
  exact ⟨rfl, M.lv, M.nv, M.wv, M.tv, h.fuseTo hto, RLay.fp_mf hto⟩

theorem kept_two {w w3 w4 : World} {o o2 : Obj} {v3 : Value} (hg3 : (w.alloc o).grownBy w3 (Value.slice (some ⟨w.heap.size, 0, none⟩) 0 0).ownBlock)
    (hf3 : ∀ g, v3.ownBlock = some g → (Value.slice (some ⟨w.heap.size, 0, none⟩) 0 0).ownBlock = some g ∨ (w.alloc o).heap.size ≤ g) (hg4 : (w3.alloc o2).grownBy w4 v3.ownBlock) : Kept (fun _ => False) w w4 := by
  have h1 : Kept (fun _ => False) w w3 := Kept.trans' ((Kept.refl _ w).alloc o) (Kept.of_grown hg3) (fun i hi => by
    simp only [Value.ownBlock, Option.some.injEq] at hi
    exact .inr (by omega))
  refine Kept.trans' (h1.alloc o2) (Kept.of_grown hg4) (fun i hi => .inr ?_)
  rcases hf3 i hi with h | h
  · simp only [Value.ownBlock, Option.some.injEq] at h
    omega
  · simp at h
    omega
theorem le_alloc (w : World) (o : Obj) : w.heap.size ≤ (w.alloc o).heap.size := by simp
theorem one_cell_new (w : World) (v : Value) (t : TypeId) : ∀ j u, ([v] : List Value)[j]? = some u → (w.alloc (.cells #[v] t)).cell? ((⟨w.heap.size, 0, none⟩ : Addr).add j) = some u := by
  intro j u hj
  match j, hj with
  | 0, hj => simp at hj; subst hj; simp [Addr.add]
theorem one_cell_int (n : Int) : ∀ u ∈ [Value.int .i64 n], u.oneCell' = true := by
  intro u hu
  simp at hu
  subst hu
  rfl
theorem one_cell_str (s : ByteArray) : ∀ u ∈ [Value.string s], u.oneCell' = true := by
  intro u hu
  simp at hu
  subst hu
  rfl
theorem one_ints (l : List Nat) : ∀ u ∈ intVals l, u.oneCell' = true := by
  intro u hu
  obtain ⟨x, _, rfl⟩ := List.mem_map.1 hu
  rfl
theorem one_strs (l : List ByteArray) : ∀ u ∈ strVals l, u.oneCell' = true := by
  intro u hu
  obtain ⟨x, _, rfl⟩ := List.mem_map.1 hu
  rfl

theorem RefIs.set {b0 base : Nat} {w : World} {M : RLay} {D : RefSt} (h : RefIs b0 base w M D) (c : Nat) (v : Value) :
    Blk (w.setCell ⟨M.md, c, none⟩ v) M.md ((#[.int .i64 (D.size : Int), M.lv, M.nv, M.wv, M.tv, .pointer (some ⟨M.mf, 0, none⟩)] : Array Value).setIfInBounds c v) 53 ∧ RFuseIs (w.setCell ⟨M.md, c, none⟩ v) M.mf D.fuse ∧
    (w.setCell ⟨M.md, c, none⟩ v).ownsRow base 9 1 M.lv D.last.length (strVals D.last) ∧ (w.setCell ⟨M.md, c, none⟩ v).ownsRow base 9 1 M.nv D.now.length (strVals D.now) ∧
    (w.setCell ⟨M.md, c, none⟩ v).ownsRow base 3 1 M.wv D.wh.length (intVals D.wh) ∧ (w.setCell ⟨M.md, c, none⟩ v).ownsRow base 9 1 M.tv D.what.length (strVals D.what) := by
  have hr := fun b hb (e : M.md = b) => h.row_fp b hb (.inl e.symm)
  refine ⟨h.disk.set c v, Blk.setOther h.fuse (p := ⟨M.md, c, none⟩) (h.disk.ne h.fuse (by decide)) v, ?_, ?_, ?_, ?_⟩
  · exact ownsRow_setCell_other h.last (a := ⟨M.md, c, none⟩) (fun e => hr _ (.inl e) rfl) v
  · exact ownsRow_setCell_other h.now (a := ⟨M.md, c, none⟩) (fun e => hr _ (.inr (.inl e)) rfl) v
  · exact ownsRow_setCell_other h.wh (a := ⟨M.md, c, none⟩) (fun e => hr _ (.inr (.inr (.inl e))) rfl) v
  · exact ownsRow_setCell_other h.what (a := ⟨M.md, c, none⟩) (fun e => hr _ (.inr (.inr (.inr e))) rfl) v
theorem row_setCell {b0 base : Nat} {w : World} {M : RLay} {D : RefSt} (h : RefIs b0 base w M D) {t : TypeId} (ht : t ≠ 53) {v : Value} {n : Nat} {xs : List Value} (ho : w.ownsRow base t 1 v n xs) (c : Nat) (u : Value) : (w.setCell ⟨M.md, c, none⟩ u).ownsRow base t 1 v n xs :=
  ownsRow_setCell_other ho (a := ⟨M.md, c, none⟩) (fun e => by obtain ⟨cur, hc⟩ := owns_blk ho e; exact hc.ne h.disk ht rfl) u
theorem RefIs.setNow {b0 base : Nat} {w : World} {M : RLay} {D : RefSt} (h : RefIs b0 base w M D) {v : Value} {m : Nat} {n : List ByteArray} (ho : w.ownsRow base 9 1 v m (strVals n)) (hm : n.length = m) : RefIs b0 base (w.setCell ⟨M.md, 2, none⟩ v) { M with nv := v } { D with now := n } := by
  subst hm
  obtain ⟨a1, a2, a3, a4, a5, a6⟩ := h.set 2 v
  exact ⟨by simpa using a1, a2, a3, row_setCell h (by decide) ho 2 v, a5, a6, h.c0, h.c1⟩
theorem RefIs.setWh {b0 base : Nat} {w : World} {M : RLay} {D : RefSt} (h : RefIs b0 base w M D) {v : Value} {m : Nat} {n : List Nat} (ho : w.ownsRow base 3 1 v m (intVals n)) (hm : n.length = m) : RefIs b0 base (w.setCell ⟨M.md, 3, none⟩ v) { M with wv := v } { D with wh := n } := by
  subst hm
  obtain ⟨a1, a2, a3, a4, a5, a6⟩ := h.set 3 v
  exact ⟨by simpa using a1, a2, a3, a4, row_setCell h (by decide) ho 3 v, a6, h.c0, h.c1⟩
theorem RefIs.setWhat {b0 base : Nat} {w : World} {M : RLay} {D : RefSt} (h : RefIs b0 base w M D) {v : Value} {m : Nat} {n : List ByteArray} (ho : w.ownsRow base 9 1 v m (strVals n)) (hm : n.length = m) : RefIs b0 base (w.setCell ⟨M.md, 4, none⟩ v) { M with tv := v } { D with what := n } := by
  subst hm
  obtain ⟨a1, a2, a3, a4, a5, a6⟩ := h.set 4 v
  exact ⟨by simpa using a1, a2, a3, a4, a5, row_setCell h (by decide) ho 4 v, h.c0, h.c1⟩
theorem RefIs.setLast {b0 base : Nat} {w : World} {M : RLay} {D : RefSt} (h : RefIs b0 base w M D) {v : Value} {m : Nat} {n : List ByteArray} (ho : w.ownsRow base 9 1 v m (strVals n)) (hm : n.length = m) : RefIs b0 base (w.setCell ⟨M.md, 1, none⟩ v) { M with lv := v } { D with last := n } := by
  subst hm
  obtain ⟨a1, a2, a3, a4, a5, a6⟩ := h.set 1 v
  exact ⟨by simpa using a1, a2, row_setCell h (by decide) ho 1 v, a4, a5, a6, h.c0, h.c1⟩

set_option maxHeartbeats 1000000 in
theorem ref_write_ok (b0 base : Nat) (M : RLay) (D : RefSt) (i : Int) (b : ByteArray) (w : World) (h : RefIs b0 base w M D) (hf : D.fits i b = true) (hb : D.fuse.blowsNow = false) (ok : D.fuse.Ok)
    (hbase : base ≤ w.heap.size) (hn : D.now.length ≤ 1000000) (hw : D.wh.length ≤ 1000000) (ht : D.what.length ≤ 1000000) :
    Calls Try.prog 22 #[.pointer (some ⟨M.md, 0, none⟩), .int .i64 i, .string b] w fun e w' => e = .returned (.int .i64 0) ∧
      RefTo b0 base w M { D with now := D.now.set i.toNat b, wh := D.wh ++ [i.toNat], what := D.what ++ [b], fuse := D.fuse.spend } w' := by
  obtain ⟨f1, f2, f3⟩ := rfits_parts hf
  obtain ⟨i, rfl⟩ := Int.eq_ofNat_of_zero_le f2
  have hi' : i < D.now.length := by omega
  obtain ⟨g, cap, hnv, _, _⟩ := owns_some h.now (by omega)
  have c0 := h.disk.cell 0
  have c2 := h.disk.cell 2
  have c5 := h.disk.cell 5
  rw [hnv] at c2
  simp at c0 c2 c5
  clear hf
  have hs : ((b.size : Int) != (D.size : Int)) = false := by simp; omega
  have HF := rfuse_spend M.mf D.fuse w h.fuse ok
  rw [hb] at HF
  have n0 : ¬ (i : Int) < 0 := by omega
  have n1 : ¬ (D.now.length : Int) ≤ (i : Int) := by omega
  obtain ⟨i0, hi0, hz0, hz1, hz2⟩ := info_parts info9
  obtain ⟨j0, hj0, yz0, yz1, yz2⟩ := info_parts info3
  clear hb f1
  rw [Int.toNat_natCast]
  have HNV := Lib.hid hnv
  clear hnv
  go_enter Try.func22, Try.ntmps22
  go_upto_region 5 with (go_at_call 34; refine HF.mono ?_; rintro e w1 ⟨rfl, hto⟩)
  have h1 := h.fuseTo hto
  have s1 := Nat.le_trans hbase hto.2.size
  have k1 := RLay.fp_mf hto
  clear HF hto h c0 c2 c5
  go_cut [] (fun wx => ∃ nv, RefIs b0 base wx { M with nv := nv } { D with now := D.now.set i b, fuse := D.fuse.spend } ∧ Kept M.fp w wx)
  case first =>
    have e2 := h1.disk.cell 2
    rw [HNV.out] at e2
    simp at e2
    go_wp2_with (go_at_call 35; refine (set_any g cap D.now i b base w1 (by have := h1.now; rw [HNV.out] at this; exact this) hi' hn).mono ?_; rintro e w2 ⟨v2, rfl, hown2, hb2⟩; obtain ⟨a2, c2', hv2⟩ := owns_form hown2; subst hv2; have k2 := Kept.of_below hb2 (fun _ => False); have h2 := h1.kept k2 (fun _ _ => id) (fun _ _ => id); have q2 := h2.disk.cell 2; simp at q2; have frr := h2.disk.frozen ⟨M.md, 2, none⟩ rfl)
    have hfin := (h2.setNow (owns_base hown2 s1) (n := D.now.set i b) (by simp))
    have kfin := ((k1.trans (k2.mono fun _ => False.elim)).setCell (p := ⟨M.md, 2, none⟩) (.inl (.inl rfl)) (.slice a2 D.now.length c2'))
    clear hown2 h2 k2
    go_wp2
    go_meet
    exact ⟨_, hfin, kfin⟩
  case rest =>
    obtain ⟨nv, hR, kR⟩ := hcut
    clear h1 k1
    go_upto_region 6 with fail
    go_cut [] (fun wx => ∃ nv wv, RefIs b0 base wx { M with nv := nv, wv := wv } { D with now := D.now.set i b, wh := D.wh ++ [i], fuse := D.fuse.spend } ∧ Kept M.fp w wx)
    case first =>
      have q3 := hR.disk.cell 3
      simp at q3
      have lt := hR.disk.lt
      have hbw := Nat.le_trans hbase kR.size
      have hm1 : 0 + D.wh.length ≤ maxLen := by unfold maxLen; omega
      have hm2 : (0 + D.wh.length) * 8 ≤ 140737488355328 := by omega
      have hm3 : base ≤ (wc.alloc (.cells #[] 3)).heap.size := by simp; omega
      have hm4 : D.wh.length + 1 ≤ maxLen := by unfold maxLen; omega
      have hm5 : (D.wh.length + 1) * 8 ≤ 140737488355328 := by omega
      go_wp2_with (first
        | (at_builtin; refine wpList_append_rows _ rfl (.tmp 44) (.tmp 48) 51 rfl base 3 j0 (.int .i64 0) 1 8 Try.underlying51 hj0 yz0 yz1 yz2 rfl (by decide) (.slice (some ⟨wc.heap.size, 0, none⟩) 0 0) 0 [] rfl (owns_empty _ base 3 1 hbw) base M.wv D.wh.length (intVals D.wh) rfl (hR.wh.alloc _) (one_ints _) hm1 hm2 hm3 ?_; intro v3 w3 hown3 hg3 hf3; simp only [Nat.zero_add, List.nil_append] at hown3)
        | (at_builtin; refine wpList_append_own_f _ rfl (.tmp 49) (.tmp 51) 51 rfl base 3 j0 (.int .i64 0) 1 8 Try.underlying51 hj0 yz0 yz1 yz2 rfl (by decide) v3 _ _ rfl (hown3.alloc _) ⟨w3.heap.size, 0, none⟩ 1 1 [.int .i64 (i : Int)] rfl rfl (one_cell_new _ _ _) (one_cell_int _) hm4 hm5 (Nat.le_trans (Nat.le_trans hm3 hg3.size) (le_alloc _ _)) ?_; intro v4 w4 hown4 hg4 hf4; obtain ⟨a4, cp4, hv4⟩ := owns_form hown4; subst hv4; have K4 := kept_two hg3 hf3 hg4; have h4 := hR.kept K4 (fun _ _ => id) (fun _ _ => id); have p3 := h4.disk.cell 3; have fr3 := h4.disk.frozen ⟨M.md, 3, none⟩ rfl; simp at p3))
      have hfin := h4.setWh (v := .slice a4 (D.wh.length + 1) cp4) (n := D.wh ++ [i]) (m := D.wh.length + 1) (by simpa [intVals] using hown4) (by simp)
      have kfin := (kR.trans (K4.mono fun _ => False.elim)).setCell (p := ⟨M.md, 3, none⟩) (.inl (.inl rfl)) (.slice a4 (D.wh.length + 1) cp4)
      clear hown4 hown3 hg3 hg4 hf3 hf4 K4 h4
      go_wp2
      go_meet
      exact ⟨_, _, hfin, kfin⟩
    case rest =>
      obtain ⟨nv', wv, hR', kR'⟩ := hcut
      clear hR kR
      go_upto_region 7 with fail
      go_cut [] (fun wx => RefTo b0 base w M { D with now := D.now.set i b, wh := D.wh ++ [i], what := D.what ++ [b], fuse := D.fuse.spend } wx)
      case first =>
        have q4 := hR'.disk.cell 4
        simp at q4
        have lt := hR'.disk.lt
        have hbw := Nat.le_trans hbase kR'.size
        have hm1 : 0 + D.what.length ≤ maxLen := by unfold maxLen; omega
        have hm2 : (0 + D.what.length) * 16 ≤ 140737488355328 := by omega
        have hm3 : base ≤ (wc.alloc (.cells #[] 9)).heap.size := by simp; omega
        have hm4 : D.what.length + 1 ≤ maxLen := by unfold maxLen; omega
        have hm5 : (D.what.length + 1) * 16 ≤ 140737488355328 := by omega
        go_wp2_with (first
          | (at_builtin; refine wpList_append_rows _ rfl (.tmp 56) (.tmp 60) 50 rfl base 9 i0 (.string ByteArray.empty) 1 16 Try.underlying50 hi0 hz0 hz1 hz2 rfl (by decide) (.slice (some ⟨wc.heap.size, 0, none⟩) 0 0) 0 [] rfl (owns_empty _ base 9 1 hbw) base M.tv D.what.length (strVals D.what) rfl (hR'.what.alloc _) (one_strs _) hm1 hm2 hm3 ?_; intro v3 w3 hown3 hg3 hf3; simp only [Nat.zero_add, List.nil_append] at hown3)
          | (at_builtin; refine wpList_append_own_f _ rfl (.tmp 61) (.tmp 63) 50 rfl base 9 i0 (.string ByteArray.empty) 1 16 Try.underlying50 hi0 hz0 hz1 hz2 rfl (by decide) v3 _ _ rfl (hown3.alloc _) ⟨w3.heap.size, 0, none⟩ 1 1 [.string b] rfl rfl (one_cell_new _ _ _) (one_cell_str _) hm4 hm5 (Nat.le_trans (Nat.le_trans hm3 hg3.size) (le_alloc _ _)) ?_; intro v4 w4 hown4 hg4 hf4; obtain ⟨a4, cp4, hv4⟩ := owns_form hown4; subst hv4; have K4 := kept_two hg3 hf3 hg4; have h4 := hR'.kept K4 (fun _ _ => id) (fun _ _ => id); have p4 := h4.disk.cell 4; have fr4 := h4.disk.frozen ⟨M.md, 4, none⟩ rfl; simp at p4))
        have hfin := h4.setWhat (v := .slice a4 (D.what.length + 1) cp4) (n := D.what ++ [b]) (m := D.what.length + 1) (by simpa [strVals] using hown4) (by simp)
        have kfin := (kR'.trans (K4.mono fun _ => False.elim)).setCell (p := ⟨M.md, 4, none⟩) (.inl (.inl rfl)) (.slice a4 (D.what.length + 1) cp4)
        clear hown4 hown3 hg3 hg4 hf3 hf4 K4 h4
        go_wp2
        go_meet
        exact ⟨_, _, _, _, hfin, kfin⟩
      case rest =>
        have HC := Lib.hid hcut
        clear hcut hR' kR'
        go_wp2
        go_ret
        exact ⟨rfl, HC.out⟩
end Go.Proofs.Ytbajhplblnemnaa
