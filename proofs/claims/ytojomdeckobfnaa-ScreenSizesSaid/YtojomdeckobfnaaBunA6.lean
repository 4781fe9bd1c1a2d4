/- Texts of this session, joined (bundle2.py): WScreenSizes, WScreenSizesC, AbsOpen. -/
import Derived.ProofKit
import Derived.Deep.Slices
import Derived.WideShapes
import Derived.ChangeArms
import Derived.DataReads
import Derived.DataElems
import Derived.OpenShut
import Derived.Test.YtojomdeckobfnaaBunA5
/- ScreenSizes: what the law's own program computes is true. -/
namespace Go.Proofs.YtojomdeckobfnaaAbs
set_option linter.unusedVariables false
set_option linter.unusedSimpArgs false
open Go Go.Proofs
theorem screenSizes_true (x0 x1 : Int) (x2 x3 : List Int) (x4 x5 x6 x7 x8 x9 x10 x11 x12 x13 x14 : Int) (i0 : in64 x0) (i1 : in64 x1) (i2 : ∀ y, y ∈ x2 → in64 y) (i3 : ∀ y, y ∈ x3 → in64 y) (i4 : in64 x4) (i5 : in64 x5) (i6 : in64 x6) (i7 : in64 x7) (i8 : in64 x8) (i9 : in64 x9) (i10 : in64 x10) (i11 : in64 x11) (i12 : 0 ≤ x12 ∧ x12 < 18446744073709551616) (i13 : in64 x13) (i14 : in64 x14) :
    linguistlaw11_ScreenSizes_F x0 x1 x2 x3 x4 x5 x6 x7 x8 x9 x10 x11 x12 x13 x14 = some true := by
  unfold linguistlaw11_ScreenSizes_F
  obtain ⟨h, w, s, hh, hw, k, _, _, _, _, _, e⟩ := keepScreen_eq (x12 := x12) i0 i1 i2 i3 i4 i5 i6 i7 i8 i9 i10 i11
  have h1 := k.h1; have w1 := k.w1
  obtain ⟨a, ha, a0, a1⟩ := within_eq x13 0 6 i13.1 i13.2 (by omega) (by omega) (by omega)
  obtain ⟨b, hb, b0, b1⟩ := within_eq x14 0 8 i14.1 i14.2 (by omega) (by omega) (by omega)
  have hR : s.1 = (h : Int) := k.rows
  have hC : s.2.1 = (w : Int) := k.cols
  obtain ⟨h', eh'⟩ : ∃ n : Nat, (n : Int) = (h : Int) + a := ⟨((h : Int) + a).toNat, by omega⟩
  obtain ⟨w', ew'⟩ : ∃ n : Nat, (n : Int) = (w : Int) + b := ⟨((w : Int) + b).toNat, by omega⟩
  have l1 : lim 40 ((h : Int) + a) = h' := by unfold lim; omega
  have l2 : lim 60 ((w : Int) + b) = w' := by unfold lim; omega
  have l3 : lim 40 (h : Int) = h := by unfold lim; omega
  have l4 : lim 60 (w : Int) = w := by unfold lim; omega
  rw [e]
  simp only [optK_s]
  rw [ha, hb]
  simp only [optK_s]
  rw [w64 (n := s.1 + a) (by omega) (by omega), w64 (n := s.2.1 + b) (by omega) (by omega)]
  have T1 := screenSized_eq k (s.1 + a) (s.2.1 + b)
  rw [hR, hC, l1, l2] at T1
  have k1 := k.sized (h' := h') (w' := w') (by omega) (by omega) (by omega) (by omega)
  have T2 := screenSized_eq k1 s.1 s.2.1
  rw [hR, hC, l3, l4] at T2
  have T3 := screenSized_eq k 1 1
  have l5 : lim 40 1 = 1 := by decide
  have l6 : lim 60 1 = 1 := by decide
  rw [hR, hC, l5, l6] at T3
  have k3 := k.sized (h' := 1) (w' := 1) (by omega) (by omega) (by omega) (by omega)
  have T4 := screenNew_eq 999 999
  rw [show lim 40 999 = 40 by decide, show lim 60 999 = 60 by decide] at T4
  have T5 := screenNew_eq 0 (-5)
  rw [show lim 40 0 = 1 by decide, show lim 60 (-5) = 1 by decide] at T5
  have eC : (sizedS h' w' (sizedS h w s h' w') h w).2.2.1 = s.2.2.1 := resize_there_back (by omega) (by omega) k.cells.1
  have eB : hide linguistbook_Same_api_Cell_F (sizedS h' w' (sizedS h w s h' w') h w).2.2.1 s.2.2.1 = some true := by
    rw [eC, bookSame_eq _ _ (by have := k.len; omega)]; simp
  have r0 := k.row; have c0 := k.col
  have eR : (sizedS h' w' (sizedS h w s h' w') h w).2.2.2.1 = s.2.2.2.1 := by
    show near0 (near0 s.2.2.2.1 ((h' : Int) - 1)) ((h : Int) - 1) = s.2.2.2.1
    unfold near0; omega
  have eL : (sizedS h' w' (sizedS h w s h' w') h w).2.2.2.2.1 = s.2.2.2.2.1 := by
    show near0 (near0 s.2.2.2.2.1 ((w' : Int) - 1)) ((w : Int) - 1) = s.2.2.2.2.1
    unfold near0; omega
  rw [hR, hC, T1]
  simp only [optK_s]
  rw [T2]
  simp only [optK_s]
  rw [eB]
  simp only [optK_s, Bool.not_true, cond_false]
  rw [eR, eL]
  have p0 : (sizedS h' w' (sizedS h w s h' w') h w).2.2.2.2.2.2.2.2.1 = s.2.2.2.2.2.2.2.2.1 := rfl
  have p1 : (sizedS h' w' (sizedS h w s h' w') h w).2.2.2.2.2.2.2.2.2.1 = s.2.2.2.2.2.2.2.2.2.1 := rfl
  have p2 : (sizedS h' w' (sizedS h w s h' w') h w).2.2.2.2.2.2.2.2.2.2.1 = s.2.2.2.2.2.2.2.2.2.2.1 := rfl
  have p3 : (sizedS h' w' (sizedS h w s h' w') h w).2.2.2.2.2.2.2.2.2.2.2.2.2.2.2.1 = s.2.2.2.2.2.2.2.2.2.2.2.2.2.2.2.1 := rfl
  have q1 : (sizedS h w s h' w').2.2.2.2.2.2.2.1 = (h : Int) + a - 1 := by show (h' : Int) - 1 = _; omega
  have q2 : (sizedS h w s h' w').2.2.2.2.2.2.1 = 0 := rfl
  have q3 : (sizedS h w s h' w').2.2.2.2.2.1 = false := rfl
  rw [p0, p1, p2, p3, q1, q2, q3, w64 (n := (h : Int) + a - 1) (by omega) (by omega)]
  simp only [bne_self_eq_false, beq_self_eq_true, Bool.and_self, Bool.not_true, cond_false]
  rw [T3]
  simp only [optK_s]
  rw [T4]
  simp only [optK_s]
  rw [T5]
  simp only [optK_s]
  have u1 : (sizedS h w s 1 1).2.2.1.length = 1 := by
    have := k3.cells.1.1; simpa using this
  have u2 : (sizedS h w s 1 1).2.2.2.1 = 0 := by show near0 s.2.2.2.1 (((1 : Nat) : Int) - 1) = 0; unfold near0; omega
  have u3 : (sizedS h w s 1 1).2.2.2.2.1 = 0 := by show near0 s.2.2.2.2.1 (((1 : Nat) : Int) - 1) = 0; unfold near0; omega
  rw [screenRight_eq k3, screenRight_eq (GS.new (h := 40) (w := 60) (by omega) (by omega) (by omega) (by omega)), screenRight_eq (GS.new (h := 1) (w := 1) (by omega) (by omega) (by omega) (by omega)), u1, u2, u3]
  rfl
end Go.Proofs.YtojomdeckobfnaaAbs

/- ScreenSizes, called. -/
namespace Go.Proofs.YtojomdeckobfnaaAbs
set_option linter.unusedVariables false
set_option maxRecDepth 100000
open Go Go.Proofs Go.RowKit
theorem screenSizes_run (x0 : Int) (x1 : Int) (x2 : List (Int)) (x3 : List (Int)) (x4 : Int) (x5 : Int) (x6 : Int) (x7 : Int) (x8 : Int) (x9 : Int) (x10 : Int) (x11 : Int) (x12 : Int) (x13 : Int) (x14 : Int) (w0 : (Lit.int .i64 x0).wf = true) (w1 : (Lit.int .i64 x1).wf = true) (w2 : (List.length (α := Int) x2 ≤ 9223372036854775807 ∧ ∀ y : Int, List.Mem y x2 → ((Lit.int .i64 y).wf = true))) (w3 : (List.length (α := Int) x3 ≤ 9223372036854775807 ∧ ∀ y : Int, List.Mem y x3 → ((Lit.int .i64 y).wf = true))) (w4 : (Lit.int .i64 x4).wf = true) (w5 : (Lit.int .i64 x5).wf = true) (w6 : (Lit.int .i64 x6).wf = true) (w7 : (Lit.int .i64 x7).wf = true) (w8 : (Lit.int .i64 x8).wf = true) (w9 : (Lit.int .i64 x9).wf = true) (w10 : (Lit.int .i64 x10).wf = true) (w11 : (Lit.int .i64 x11).wf = true) (w12 : (Lit.int .u64 x12).wf = true) (w13 : (Lit.int .i64 x13).wf = true) (w14 : (Lit.int .i64 x14).wf = true) :
    acall (R := Bool) (envL sums7 ll0 cs0 (fun _ _ => false)) 1000 4 [.agg [.int .i64 x0, .int .i64 x1, .list (.one (.int .i64)) x2 false, .list (.one (.int .i64)) x3 false, .int .i64 x4, .int .i64 x5, .int .i64 x6, .int .i64 x7, .int .i64 x8, .int .i64 x9, .int .i64 x10, .int .i64 x11, .int .u64 x12], .int .i64 x13, .int .i64 x14] [] (resK .bool true (fun b => some b)) = some true := by
  have h := linguistlaw11_ScreenSizes_run x0 x1 x2 x3 x4 x5 x6 x7 x8 x9 x10 x11 x12 x13 x14 (fun b => some b)
  rw [screenSizes_true x0 x1 x2 x3 x4 x5 x6 x7 x8 x9 x10 x11 x12 x13 x14 (wf_in64 w0) (wf_in64 w1) (wf_list64 w2) (wf_list64 w3) (wf_in64 w4) (wf_in64 w5) (wf_in64 w6) (wf_in64 w7) (wf_in64 w8) (wf_in64 w9) (wf_in64 w10) (wf_in64 w11) (wf_inu64 w12) (wf_in64 w13) (wf_in64 w14)] at h
  exact h
end Go.Proofs.YtojomdeckobfnaaAbs

/- Whatever reads as data is what the interpreter takes: rows of letters as arguments. -/
namespace Go.Proofs.YtojomdeckobfnaaAbs
set_option linter.unusedVariables false
open Go Go.Proofs Go.RowKit Go.ChangeShapes Go.WideShapes Go.Deep
abbrev gd (w : World) : Nat → Prop := fun B => B < w.heap.size
def OpC (P : Program) (w : World) (c : CTy) (t : TypeId) (WF : c.den → Prop) : Prop :=
  ∀ {H : Type} {enc : TypeId × Value → H} {spare : Nat → Bool} {held : Bool} {fuel : Nat} {cs : List Value} {x : DataW H × List MemPlace}, DataW.trod enc P w 0 spare held fuel t cs = some x → ∃ (a : c.den) (v : Value), cs = [v] ∧ c.rep w (gd w) a v ∧ WF a
def OpR (P : Program) (w : World) (r : Row) (t : TypeId) (WF : r.den → Prop) : Prop :=
  ∀ {H : Type} {enc : TypeId × Value → H} {spare : Nat → Bool} {held : Bool} {fuel : Nat} {cs : List Value} {x : DataW H × List MemPlace}, DataW.trod enc P w 0 spare held fuel t cs = some x → ∃ a : r.den, r.rep w (gd w) a cs ∧ WF a
section
variable {P : Program} {w : World} {t e : TypeId}
theorem OpC.int {k : IntKind} (ht : P.underlying t = some (.int k)) : OpC P w (.int k) t (fun a => (Lit.int k a).wf = true) := by
  intro H enc spare held fuel cs x h
  obtain ⟨a, rfl, _, hw⟩ := DataW.trod_int ht h
  refine ⟨a, _, rfl, ⟨rfl, ?_⟩, hw⟩
  cases k <;> first | rfl | (simp [Lit.wf, IntKind.min, IntKind.max, IntKind.bits, IntKind.signed] at hw; simp [u8ok, kindEq]; omega)
theorem OpC.bool (ht : P.underlying t = some .bool) : OpC P w .bool t (fun _ => True) := by
  intro H enc spare held fuel cs x h
  obtain ⟨a, rfl, _⟩ := DataW.trod_bool ht h
  exact ⟨a, _, rfl, rfl, trivial⟩
theorem OpC.str (ht : P.underlying t = some .string) : OpC P w .str t (fun s => ∃ b : ByteArray, bytesOf b = s ∧ b.size ≤ 9223372036854775807) := by
  intro H enc spare held fuel cs x h
  obtain ⟨a, rfl, _, hl⟩ := DataW.trod_string ht h
  refine ⟨bytesOf a, _, rfl, ⟨a, rfl, rfl⟩, a, rfl, ?_⟩
  unfold maxLen at hl
  omega
theorem cells_eq {a : Addr} {n : Nat} {cs : List Value} {c : Array Value} (h : w.cells? 0 a n = some cs) (hb : ∃ e fr, w.heap[a.block]? = some (.cells c e fr)) (hs : a.spot = none) : cs = (c.toList.drop a.off).take n := by
  obtain ⟨_, hl, hc⟩ := World.cells?_some h
  obtain ⟨e, fr, hb⟩ := hb
  apply List.ext_getElem?
  intro i
  by_cases hi : i < n
  · have h1 : w.cell? (a.add i) = c[a.off + i]? := by
      unfold World.cell? Addr.add
      by_cases h0 : i = 0
      · subst h0; simp [hb, hs]
      · simp [h0, hb]
    rw [← hc i hi, h1, List.getElem?_take_of_lt hi, List.getElem?_drop, Array.getElem?_toList]
  · rw [List.getElem?_eq_none (by omega), List.getElem?_eq_none (by simp; omega)]
theorem rows_lie {r : Row} {WF : r.den → Prop} {a : Addr} {len : Nat} (hr : 0 < r.size) (hp : 0 < len) (hx : ∀ i, i < len → ∃ (b : r.den) (cs : List Value), w.cells? 0 (a.add (i * r.size)) r.size = some cs ∧ r.rep w (gd w) b cs ∧ WF b) :
    a.spot = none ∧ a.block < w.heap.size ∧ ∃ l : List r.den, l.length = len ∧ (∀ x ∈ l, WF x) ∧ ∃ vs, RepAll (fun x cs => r.rep w (gd w) x cs) l vs ∧ Lies w a.block a.off vs := by
  obtain ⟨b0, cs0, h0, _, _⟩ := hx 0 hp
  obtain ⟨_, hl0, hc0⟩ := World.cells?_some h0
  have h00 := hc0 0 hr
  have hlt : 0 < cs0.length := by omega
  rw [List.getElem?_eq_getElem hlt] at h00
  have hbk : (∃ c e fr, w.heap[a.block]? = some (.cells c e fr)) ∧ a.spot = none := by
    have hz : (a.add (0 * r.size)).add 0 = a := by simp [Addr.add]
    rw [hz] at h00
    unfold World.cell? at h00
    split at h00
    · rename_i c e fr hb
      refine ⟨⟨c, e, fr, hb⟩, ?_⟩
      split at h00
      · cases h00
      · rename_i hn; simpa using hn
    · cases h00
  obtain ⟨⟨c, e, fr, hb⟩, hs⟩ := hbk
  have hbl : a.block < w.heap.size := (Array.getElem?_eq_some_iff.1 hb).1
  refine ⟨hs, hbl, ?_⟩
  have key : ∀ k, k ≤ len → ∃ l : List r.den, l.length = k ∧ (∀ x ∈ l, WF x) ∧ RepAll (fun x cs => r.rep w (gd w) x cs) l ((c.toList.drop a.off).take (k * r.size)) := by
    intro k
    induction k with
    | zero => intro _; exact ⟨[], rfl, (fun x hx => by cases hx), by simp [RepAll]⟩
    | succ k ih =>
      intro hk
      obtain ⟨l, hl, hw, hR⟩ := ih (by omega)
      obtain ⟨b, cs, h1, h2, h3⟩ := hx k (by omega)
      have hcs : cs = ((c.toList.drop a.off).drop (k * r.size)).take r.size := by
        have := cells_eq (c := c) h1 ⟨e, fr, by unfold Addr.add; split <;> exact hb⟩ (by unfold Addr.add; split <;> first | exact hs | rfl)
        rw [this, List.drop_drop]
        congr 2
        unfold Addr.add; split <;> simp_all
      refine ⟨l ++ [b], by simp [hl], ?_, ?_⟩
      · intro x hx'
        rcases List.mem_append.1 hx' with h | h
        · exact hw x h
        · rw [List.mem_singleton] at h; subst h; exact h3
      · have : (k + 1) * r.size = k * r.size + r.size := by rw [Nat.add_mul, Nat.one_mul]
        rw [this, List.take_add, ← hcs]
        exact RepAll.append hR ⟨cs, [], by simp, h2, rfl⟩
  obtain ⟨l, hl, hw, hR⟩ := key len (Nat.le_refl _)
  exact ⟨l, hl, hw, _, hR, c, e, fr, _, hb, (List.take_append_drop (len * r.size) _).symm⟩
theorem OpC.slice {r : Row} {WF : r.den → Prop} (ht : P.underlying t = some (.slice e)) (hr : 0 < r.size) (hc : P.cellsOf e = r.size) (he : OpR P w r e WF) : OpC P w (.slice r) t (fun l => List.length (α := r.den) l ≤ 9223372036854775807 ∧ ∀ x : r.den, List.Mem x l → WF x) := by
  intro H enc spare held fuel cs x h
  rcases open_slice ht h with ⟨rfl, _⟩ | ⟨a, len, cap, m, n, D, Pl, rfl, _, hl, hm, hmm, _, hx⟩
  · exact ⟨([] : List r.den), _, rfl, ⟨none, 0, 0, rfl, rfl, Nat.le_refl _, fun _ => rfl, Or.inl rfl⟩, by simp, fun x hx => by cases hx⟩
  · have hmle : len ≤ m := by rw [hmm]; split <;> omega
    have hmax : len ≤ 9223372036854775807 := by unfold maxLen at hm; omega
    by_cases hp : 0 < len
    · obtain ⟨hs, hb, l, hll, hw, vs, hR, hL⟩ := rows_lie (w := w) (a := a) (len := len) (WF := WF) hr hp (fun i hi => by
        obtain ⟨c, h1, h2⟩ := hx i (by omega)
        obtain ⟨b, h3, h4⟩ := he h2
        rw [hc] at h1
        exact ⟨b, c, h1, h3, h4⟩)
      refine ⟨l, _, rfl, ⟨some a, len, cap, rfl, hll.symm, hl, (fun k => by cases k), Or.inr ⟨a.block, a.off, vs, ?_, hb, hR, hL⟩⟩, by rw [hll]; exact hmax, hw⟩
      obtain ⟨B, o, s⟩ := a
      simp only at hs
      rw [hs]
    · have h0 : len = 0 := by omega
      subst h0
      exact ⟨([] : List r.den), _, rfl, ⟨some a, 0, cap, rfl, rfl, hl, (fun k => by cases k), Or.inl rfl⟩, by simp, fun x hx => by cases hx⟩
theorem OpR.one {c : CTy} {WF : c.den → Prop} (h : OpC P w c t WF) : OpR P w (.one c) t WF := by
  intro H enc spare held fuel cs x k
  obtain ⟨a, v, rfl, h1, h2⟩ := h k
  exact ⟨a, ⟨v, rfl, h1⟩, h2⟩
/-- A struct's field, out of the whole's reading. -/
theorem trod_field {H : Type} {enc : TypeId × Value → H} {spare : Nat → Bool} {held : Bool} {fuel : Nat} {cs : List Value} {x : DataW H × List MemPlace} {fs : Array Field} (ht : P.underlying t = some (.struct fs)) (h : DataW.trod enc P w 0 spare held fuel t cs = some x) :
    cs.length = P.cellsOf t ∧ ∃ n, ∀ (i : Nat) (f : Field), fs[i]? = some f → ∃ y, DataW.trod enc P w 0 spare held n f.type ((cs.drop f.offset).take (P.cellsOf f.type)) = some y := by
  obtain ⟨xs, n, _, _, hn, hl, hf⟩ := DataW.trod_struct ht h
  refine ⟨hn, n, fun i f hi => ?_⟩
  have h1 := hf i f hi
  have hlt : i < xs.length := by rw [hl]; exact (Array.getElem?_eq_some_iff.1 hi).1
  rw [List.getElem?_eq_getElem hlt] at h1
  exact ⟨_, h1⟩
end
end Go.Proofs.YtojomdeckobfnaaAbs
