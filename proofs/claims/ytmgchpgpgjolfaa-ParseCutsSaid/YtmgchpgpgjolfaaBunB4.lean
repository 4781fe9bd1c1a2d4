/- Texts of this session, joined (bundle2.py): GP1, GP2, GP3, WParseCuts, GC, WParseCutsC, AbsOpen. -/
import Derived.ProofKit
import Derived.Deep.Slices
import Derived.WideShapes
import Derived.ChangeArms
import Derived.DataReads
import Derived.DataElems
import Derived.OpenShut
import Derived.Test.YtmgchpgpgjolfaaBunB3
/- Plain laws of the parser: what a byte does, whatever was read. -/
namespace Go.Proofs.YtmgchpgpgjolfaaAbs
set_option linter.unusedVariables false
set_option linter.unusedSimpArgs false
set_option maxHeartbeats 8000000
set_option maxRecDepth 100000
open Go Go.Proofs
abbrev Ev := Int × Int × Int × Int × Int × List Int × List Int
abbrev PS := Int × Int × Int × Int × Bool × Int × Bool × Bool × Bool × List Int × List Int × List Int
def prE (r : Int) : Ev := (1, r, 0, 0, 0, [], [])
theorem prints_loop (l : List Int) (hl : l.length ≤ 1000) : ∀ (n i : Nat) (a : List Ev), i ≤ l.length → l.length - i < n → a = (l.take i).map prE → parse_prints_L3 n l (Int.ofNat l.length) (Int.ofNat i) a = some (l.map prE) := by
  intro n
  induction n with
  | zero => intro i a h1 h2; omega
  | succ n ih =>
    intro i a h1 h2 ha
    rw [parse_prints_L3]
    by_cases hi : i < l.length
    · have hal : a.length = i := by rw [ha]; simp; omega
      rw [ofNat_lt, decide_eq_true hi, show decide ((0 : Int) ≤ Int.ofNat i) = true by simp, Nat.ble_eq_true_of_le (by simp; omega), wrap_succ (by omega)]
      simp only [cond_true, Bool.and_self]
      refine ih (i + 1) _ (by omega) (by omega) ?_
      rw [ha, List.take_succ_eq_append_getElem hi, List.map_append]
      congr 1
      show [prE (l.getD i 0)] = _
      rw [List.getD_eq_getElem?_getD, List.getElem?_eq_getElem hi]
      rfl
    · have e : i = l.length := by omega
      rw [ofNat_lt, decide_eq_false hi, ha, e, List.take_of_length_le (Nat.le_refl _)]
      rfl
theorem prints_eq (l : List Int) (hl : l.length ≤ 1000) : hide parse_prints_F l = some (l.map prE) := by
  rw [hide_eq]; unfold parse_prints_F
  simp only [hide_eq]
  have L := prints_loop l hl (parse_prints_fu3 l (Int.ofNat l.length) 0 []) 0 [] (Nat.zero_le _) (Nat.lt_of_lt_of_le (show l.length - 0 < 5000 by omega) (Nat.le_add_left 5000 _)) rfl
  rw [show Int.ofNat 0 = (0 : Int) from rfl] at L
  rw [L]; rfl
theorem held_eq (a b c : Int) : hide utf_Decoder_Held_F a b c = some (decide (b > 0)) := by rw [hide_eq]; rfl
theorem bif_all {α : Type} {c : Bool} {a b : Option α} {P : α → Prop} (h1 : c = true → ∃ y, a = some y ∧ P y) (h2 : c = false → ∃ y, b = some y ∧ P y) : ∃ y, (bif c then a else b) = some y ∧ P y := by
  cases c
  · exact h2 rfl
  · exact h1 rfl
theorem bif_dec {α : Type} {p : Prop} [Decidable p] {a b : Option α} {P : α → Prop} (h1 : p → ∃ y, a = some y ∧ P y) (h2 : ¬ p → ∃ y, b = some y ∧ P y) : ∃ y, (bif decide p then a else b) = some y ∧ P y :=
  bif_all (fun h => h1 (of_decide_eq_true h)) (fun h => h2 (of_decide_eq_false h))
theorem bif_beq {α : Type} {u v : Int} {a b : Option α} {P : α → Prop} (h1 : u = v → ∃ y, a = some y ∧ P y) (h2 : u ≠ v → ∃ y, b = some y ∧ P y) : ∃ y, (bif u == v then a else b) = some y ∧ P y :=
  bif_all (fun h => h1 (eq_of_beq h)) (fun h => h2 (beq_eq_false_iff_ne.1 h))
theorem bif_bne {α : Type} {u v : Int} {a b : Option α} {P : α → Prop} (h1 : u ≠ v → ∃ y, a = some y ∧ P y) (h2 : u = v → ∃ y, b = some y ∧ P y) : ∃ y, (bif u != v then a else b) = some y ∧ P y :=
  bif_all (fun h => h1 (bne_iff_ne.1 h)) (fun h => h2 (by cases Decidable.em (u = v) with
    | inl q => exact q
    | inr q => rw [bne_iff_ne.2 q] at h; cases h))
/-- A decoder's numbers. -/
def DecOk (n h : Int) : Prop := 0 ≤ n ∧ n ≤ 3 ∧ 0 ≤ h ∧ h ≤ 4 ∧ n + h ≤ 4
theorem begin_ok (x : Int) : ∃ y, hide utf_begin_F x = some y ∧ (DecOk y.1 y.2.1 ∧ y.2.2.2.length ≤ 1) := by
  rw [hide_eq]; unfold utf_begin_F
  repeat' (first | refine bif_dec (fun h => ?_) (fun h => ?_))
  all_goals exact ⟨_, rfl, by unfold DecOk; dsimp only; omega, by simp⟩
theorem whole_ok {x n : Int} (h : 0 ≤ n ∧ n < 5) : ∃ y, hide utf_whole_F x n = some y ∧ True := by
  rw [hide_eq]; unfold utf_whole_F
  rw [show (decide (0 ≤ n) && decide (n < 5) && true) = true by simp; omega]
  simp only [cond_true]
  repeat' (first | refine bif_dec (fun h => ?_) (fun h => ?_))
  all_goals exact ⟨_, rfl, trivial⟩
theorem utf_ok {n h a x : Int} (d : DecOk n h) : ∃ y, hide utf_Decoder_Push_F n h a x = some y ∧ (DecOk y.1 y.2.1 ∧ y.2.2.2.length ≤ 2) := by
  rw [hide_eq]; unfold utf_Decoder_Push_F
  obtain ⟨b, hb, b1, b2⟩ := begin_ok x
  have d' := d
  unfold DecOk at d'
  have e1 : IntKind.i64.wrap (n - 1) = n - 1 := w64 (by omega) (by omega)
  have e2 : IntKind.i64.wrap (h + 1) = h + 1 := w64 (by omega) (by omega)
  rw [held_eq, hb, e1, e2]
  simp only [optK_s]
  rw [show (!decide (h > 0)) = decide (¬ h > 0) from (decide_not).symm]
  have c1 : (true && ((1 + b.2.2.2.length).ble 274877906944 && true)) = true := by rw [Nat.ble_eq_true_of_le (by omega)]; rfl
  rw [c1]
  simp only [cond_true]
  refine bif_dec (fun q => ⟨_, rfl, b1, by dsimp only; omega⟩) (fun q => ?_)
  refine bif_dec (fun q => ⟨_, rfl, b1, by simp; omega⟩) (fun q => ?_)
  refine bif_dec (fun q => ⟨_, rfl, b1, by simp; omega⟩) (fun q => ?_)
  refine bif_dec (fun q => ⟨_, rfl, by unfold DecOk; dsimp only; omega, by simp⟩) (fun q => ?_)
  refine bif_dec (fun q4 => ?_) (fun q4 => ⟨_, rfl, by unfold DecOk; dsimp only; omega, by simp⟩)
  obtain ⟨y, hy, _⟩ := whole_ok (x := bitsOp BinOp.or IntKind.i64 (IntKind.i64.wrap (a * 64)) (IntKind.i64.wrap (bitsOp BinOp.and IntKind.u8 x 63))) (n := h + 1) (by omega)
  rw [hy]
  simp only [optK_s]
  refine bif_all (fun q => ⟨_, rfl, by unfold DecOk; dsimp only; omega, by simp⟩) (fun q => ⟨_, rfl, by unfold DecOk; dsimp only; omega, by simp⟩)
/-- A parser's state as it may be. -/
def InvP (s : PS) : Prop := 0 ≤ s.1 ∧ s.1 ≤ 4 ∧ DecOk s.2.1 s.2.2.1 ∧ s.2.2.2.2.2.2.2.2.2.1.length ≤ 1 ∧ s.2.2.2.2.2.2.2.2.2.2.1.length ≤ 17 ∧ s.2.2.2.2.2.2.2.2.2.2.2.length ≤ 4096
/-- An event's numbers are few. -/
def EvOk (l : List Ev) : Prop := ∀ e ∈ l, e.2.2.2.2.2.1.length ≤ 17
theorem push_ok {s0 s1 s2 s3 s5 x : Int} {s4 s6 s7 s8 : Bool} {s9 s10 s11 : List Int} (i : InvP (s0, s1, s2, s3, s4, s5, s6, s7, s8, s9, s10, s11)) (hx : 0 ≤ x ∧ x < 256) :
    ∃ y, parse_Parser_Push_F s0 s1 s2 s3 s4 s5 s6 s7 s8 s9 s10 s11 x = some y ∧ (InvP y.2 ∧ y.1.length ≤ 3 ∧ EvOk y.1) := by
  obtain ⟨i0, i1, i2, i3, i4, i5⟩ := i
  dsimp only at i0 i1 i2 i3 i4 i5
  obtain ⟨u, hu, u1, u2⟩ := utf_ok (a := s3) (x := x) i2
  obtain ⟨v, hv, v1, v2⟩ := utf_ok (n := 0) (h := 0) (a := 0) (x := x) (by unfold DecOk; omega)
  have pu := prints_eq u.2.2.2 (by omega)
  have pv := prints_eq v.2.2.2 (by omega)
  have pb := prints_eq [65533] (by simp)
  have px := prints_eq [IntKind.i32.wrap x] (by simp)
  unfold parse_Parser_Push_F
  rw [held_eq, held_eq, hu, hv]
  simp only [optK_s]
  rw [pu, pv, pb, px]
  simp only [optK_s]
  have c1 : (true && ((s9.length + [x].length).ble 274877906944 && true)) = true := by rw [Nat.ble_eq_true_of_le (by simp; omega)]; rfl
  have c2 : bnds none (some (if (16 : Int) < Int.ofNat s10.length then 16 else Int.ofNat s10.length)) s10.length = true := by
    unfold bnds; simp; split <;> omega
  have c3 : ∀ n, (List.take n (List.drop 0 s10)).length.ble 274877906944 = true := fun n => Nat.ble_eq_true_of_le (by simp; omega)
  have c4 : (true && ((s10.length + 1).ble 274877906944 && true)) = true := by rw [Nat.ble_eq_true_of_le (by omega)]; rfl
  have c5 : (true && ((s11.length + [x].length).ble 274877906944 && true)) = true := by rw [Nat.ble_eq_true_of_le (by simp; omega)]; rfl
  have c6 : ∀ e : Ev, (true && ((([65533].map prE).length + [e].length).ble 274877906944 && true)) = true := fun e => rfl
  have c7 : (true && ((([65533].map prE).length + ([IntKind.i32.wrap x].map prE).length).ble 274877906944 && true)) = true := rfl
  have c8 : (([IntKind.i32.wrap x].map prE).length.ble 274877906944 && true) = true := rfl
  simp only [c1, c2, c3, c4, c5, c6, c7, c8, cond_true]
  have wl : s10.length ≠ 0 → (decide (0 ≤ IntKind.i64.wrap (Int.ofNat s10.length - 1)) && decide (IntKind.i64.wrap (Int.ofNat s10.length - 1) < Int.ofNat s10.length) && true) = true := fun h => by
    rw [w64 (n := Int.ofNat s10.length - 1) (by show _ ≤ (s10.length : Int) - 1; omega) (by show (s10.length : Int) - 1 < _; omega)]
    simp; omega
  have w9 : s9.length ≠ 0 → (true && decide (0 < Int.ofNat s9.length) && true) = true := fun h => by simp; omega
  simp only [Int.ofNat_eq_natCast] at *
  repeat' (first | refine bif_dec (fun h => ?_) (fun h => ?_) | refine bif_beq (fun h => ?_) (fun h => ?_) | refine bif_bne (fun h => ?_) (fun h => ?_) | refine bif_all (fun h => ?_) (fun h => ?_))
  all_goals first
    | exact ⟨_, rfl, ⟨by dsimp only; omega, by dsimp only; omega, by first | assumption | exact i2 | (unfold DecOk; dsimp only; omega), by first | (dsimp only; omega) | (simp; done) | (dsimp only; simp only [List.length_append, List.length_cons, List.length_nil, List.length_set]; omega), by first | (dsimp only; omega) | (simp; done) | (dsimp only; simp only [List.length_append, List.length_cons, List.length_nil, List.length_set]; omega), by first | (dsimp only; omega) | (simp; done) | (dsimp only; simp only [List.length_append, List.length_cons, List.length_nil, List.length_set]; omega)⟩, by first | (simp; omega) | (simp; done), by first | (simp [EvOk, prE]; done) | (simp [EvOk, prE]; omega)⟩
    | (exfalso; first | (rw [wl (by omega)] at *; contradiction) | (rw [w9 (by omega)] at *; contradiction) | omega)
end Go.Proofs.YtmgchpgpgjolfaaAbs

/- Plain laws of the parser: bytes fed. -/
namespace Go.Proofs.YtmgchpgpgjolfaaAbs
set_option linter.unusedVariables false
set_option linter.unusedSimpArgs false
set_option maxHeartbeats 8000000
set_option maxRecDepth 100000
open Go Go.Proofs
theorem within_eq (n lo hi : Int) (hn : -9223372036854775808 ≤ n) (hn2 : n < 9223372036854775808) (h0 : -1000000 ≤ lo) (h1 : lo ≤ hi) (h2 : hi < 4611686018427387904) :
    ∃ r, hide linguistbook_Within_F n lo hi = some r ∧ lo ≤ r ∧ r ≤ hi := by
  rw [hide_eq]; unfold linguistbook_Within_F
  rw [w64 (n := hi - lo) (by omega) (by omega), w64 (n := hi - lo + 1) (by omega) (by omega)]
  have e0 : (hi - lo + 1 == 0) = false := beq_false_of_ne (by omega)
  have b1 : n.tmod (hi - lo + 1) < hi - lo + 1 := Int.tmod_lt_of_pos _ (by omega)
  have b2 : -(hi - lo + 1) < n.tmod (hi - lo + 1) := by
    have := Int.lt_tmod_of_pos n (show 0 < hi - lo + 1 by omega); omega
  rw [e0]
  generalize n.tmod (hi - lo + 1) = m at *
  simp only [cond_false]
  by_cases hm : m < 0
  · rw [decide_eq_true hm]
    simp only [cond_true]
    rw [w64 (n := m + hi) (by omega) (by omega), w64 (n := m + hi - lo) (by omega) (by omega), w64 (n := m + hi - lo + 1) (by omega) (by omega), w64 (by omega) (by omega)]
    exact ⟨_, rfl, by omega, by omega⟩
  · rw [decide_eq_false hm]
    simp only [cond_false]
    rw [w64 (by omega) (by omega)]
    exact ⟨_, rfl, by omega, by omega⟩
theorem sameInt_loop (a : List Int) (hl : a.length < 4611686018427387904) : ∀ (n i : Nat), i ≤ a.length → a.length - i < n → linguistbook_Same_int_L4 n a a (Int.ofNat i) = some (.inr ()) := by
  intro n
  induction n with
  | zero => intro i h1 h2; omega
  | succ n ih =>
    intro i h1 h2
    rw [linguistbook_Same_int_L4]
    by_cases hi : i < a.length
    · rw [ofNat_lt, decide_eq_true hi, show decide ((0 : Int) ≤ Int.ofNat i) = true by simp, bne_self_eq_false, wrap_succ (by omega)]
      exact ih (i + 1) (by omega) (by omega)
    · rw [ofNat_lt, decide_eq_false hi]
      rfl
theorem sameInt_eq (a : List Int) (hl : a.length < 4611686018427387904) : hide linguistbook_Same_int_F a a = some true := by
  rw [hide_eq]; unfold linguistbook_Same_int_F
  rw [bne_self_eq_false]
  simp only [cond_false, hide_eq]
  have L := sameInt_loop a hl (linguistbook_Same_int_fu4 a a 0) 0 (Nat.zero_le _) (by unfold linguistbook_Same_int_fu4; omega)
  rw [show Int.ofNat 0 = (0 : Int) from rfl] at L
  rw [L]; rfl
theorem events_loop (a : List Ev) (hl : a.length < 4611686018427387904) (he : EvOk a) : ∀ (n i : Nat), i ≤ a.length → a.length - i < n → linguistkeep_Events_L4 n a a (Int.ofNat a.length) (Int.ofNat i) = some (.inr ()) := by
  intro n
  induction n with
  | zero => intro i h1 h2; omega
  | succ n ih =>
    intro i h1 h2
    rw [linguistkeep_Events_L4]
    by_cases hi : i < a.length
    · have hm : (a.getD i (0, 0, 0, 0, 0, nilI, nilI)).2.2.2.2.2.1.length ≤ 17 := he _ (by
        rw [List.getD_eq_getElem?_getD, List.getElem?_eq_getElem hi]; exact List.getElem_mem hi)
      rw [ofNat_lt, decide_eq_true hi, show decide ((0 : Int) ≤ Int.ofNat i) = true by simp, wrap_succ (by omega), show (Int.ofNat i).toNat = i from rfl, sameInt_eq _ (by omega)]
      simp only [bne_self_eq_false, beq_self_eq_true, Bool.not_true, Bool.and_self, cond_true, cond_false, optK_s]
      exact ih (i + 1) (by omega) (by omega)
    · rw [ofNat_lt, decide_eq_false hi]
      rfl
theorem events_eq (a : List Ev) (hl : a.length < 4611686018427387904) (he : EvOk a) : hide linguistkeep_Events_F a a = some true := by
  rw [hide_eq]; unfold linguistkeep_Events_F
  rw [bne_self_eq_false]
  simp only [cond_false, hide_eq]
  have L := events_loop a hl he (linguistkeep_Events_fu4 a a (Int.ofNat a.length) 0) 0 (Nat.zero_le _) (by unfold linguistkeep_Events_fu4; omega)
  rw [show Int.ofNat 0 = (0 : Int) from rfl] at L
  rw [L]; rfl
noncomputable def pushO (s : PS) (x : Int) : Option (List Ev × PS) := parse_Parser_Push_F s.1 s.2.1 s.2.2.1 s.2.2.2.1 s.2.2.2.2.1 s.2.2.2.2.2.1 s.2.2.2.2.2.2.1 s.2.2.2.2.2.2.2.1 s.2.2.2.2.2.2.2.2.1 s.2.2.2.2.2.2.2.2.2.1 s.2.2.2.2.2.2.2.2.2.2.1 s.2.2.2.2.2.2.2.2.2.2.2 x
noncomputable def feedO : PS → List Int → Option (List Ev × PS)
  | s, [] => some ([], s)
  | s, x :: l => match pushO s x with
    | none => none
    | some y => match feedO y.2 l with
      | none => none
      | some z => some (y.1 ++ z.1, z.2)
theorem feedO_cons {s : PS} {x : Int} {l : List Int} {y z : List Ev × PS} (h1 : pushO s x = some y) (h2 : feedO y.2 l = some z) : feedO s (x :: l) = some (y.1 ++ z.1, z.2) := by
  rw [feedO, h1]; dsimp only; rw [h2]
theorem feedO_append {s : PS} : ∀ {l m : List Int} {s : PS} {y z : List Ev × PS}, feedO s l = some y → feedO y.2 m = some z → feedO s (l ++ m) = some (y.1 ++ z.1, z.2)
  | [], m, s, y, z, h1, h2 => by
    rw [feedO] at h1; injection h1 with h1; subst h1
    simpa using h2
  | x :: l, m, s, y, z, h1, h2 => by
    rw [feedO] at h1
    cases hp : pushO s x with
    | none => rw [hp] at h1; cases h1
    | some p =>
      rw [hp] at h1; dsimp only at h1
      cases hf : feedO p.2 l with
      | none => rw [hf] at h1; cases h1
      | some q =>
        rw [hf] at h1; injection h1 with h1; subst h1
        have := feedO_append (s := p.2) hf h2
        rw [List.cons_append, feedO_cons hp this, List.append_assoc]
theorem feed_ok : ∀ (l : List Int) (s : PS), InvP s → (∀ x, x ∈ l → 0 ≤ x ∧ x < 256) → ∃ y, feedO s l = some y ∧ InvP y.2 ∧ y.1.length ≤ 3 * l.length ∧ EvOk y.1
  | [], s, i, _ => ⟨_, rfl, i, by simp, by simp [EvOk]⟩
  | x :: l, s, i, h => by
    obtain ⟨p, hp, p1, p2, p3⟩ := push_ok (s0 := s.1) (i : InvP (s.1, s.2.1, s.2.2.1, s.2.2.2.1, s.2.2.2.2.1, s.2.2.2.2.2.1, s.2.2.2.2.2.2.1, s.2.2.2.2.2.2.2.1, s.2.2.2.2.2.2.2.2.1, s.2.2.2.2.2.2.2.2.2.1, s.2.2.2.2.2.2.2.2.2.2.1, s.2.2.2.2.2.2.2.2.2.2.2)) (h x List.mem_cons_self)
    obtain ⟨q, hq, q1, q2, q3⟩ := feed_ok l p.2 p1 (fun y hy => h y (List.mem_cons_of_mem _ hy))
    refine ⟨_, feedO_cons hp hq, q1, ?_, fun e he => ?_⟩
    · show (p.1 ++ q.1).length ≤ 3 * (l.length + 1)
      rw [List.length_append]; omega
    · rcases List.mem_append.1 he with k | k
      · exact p3 e k
      · exact q3 e k
theorem feed_loop (l : List Int) (hl : l.length < 1000000) : ∀ (n i : Nat) (s : PS) (out : List Ev) (y : List Ev × PS), i ≤ l.length → l.length - i < n → feedO s (l.drop i) = some y → out.length + y.1.length ≤ 274877906944 →
    parse_Parser_Feed_L3 n l (Int.ofNat l.length) (Int.ofNat i) s.1 s.2.1 s.2.2.1 s.2.2.2.1 s.2.2.2.2.1 s.2.2.2.2.2.1 s.2.2.2.2.2.2.1 s.2.2.2.2.2.2.2.1 s.2.2.2.2.2.2.2.2.1 out s.2.2.2.2.2.2.2.2.2.1 s.2.2.2.2.2.2.2.2.2.2.1 s.2.2.2.2.2.2.2.2.2.2.2 = some (y.2.1, y.2.2.1, y.2.2.2.1, y.2.2.2.2.1, y.2.2.2.2.2.1, y.2.2.2.2.2.2.1, y.2.2.2.2.2.2.2.1, y.2.2.2.2.2.2.2.2.1, y.2.2.2.2.2.2.2.2.2.1, out ++ y.1, y.2.2.2.2.2.2.2.2.2.2.1, y.2.2.2.2.2.2.2.2.2.2.2.1, y.2.2.2.2.2.2.2.2.2.2.2.2) := by
  intro n
  induction n with
  | zero => intro i s out y h1 h2; omega
  | succ n ih =>
    intro i s out y h1 h2 h3 h4
    rw [parse_Parser_Feed_L3]
    by_cases hi : i < l.length
    · rw [List.drop_eq_getElem_cons hi, feedO] at h3
      cases hp : pushO s l[i] with
      | none => rw [hp] at h3; cases h3
      | some p =>
        rw [hp] at h3; dsimp only at h3
        cases hf : feedO p.2 (l.drop (i + 1)) with
        | none => rw [hf] at h3; cases h3
        | some q =>
          rw [hf] at h3; injection h3 with h3; subst h3
          dsimp only at h4 ⊢
          rw [List.length_append] at h4
          have hg : l.getD i 0 = l[i] := by rw [List.getD_eq_getElem?_getD, List.getElem?_eq_getElem hi]; rfl
          rw [ofNat_lt, decide_eq_true hi, show decide ((0 : Int) ≤ Int.ofNat i) = true by simp, wrap_succ (by omega), show (Int.ofNat i).toNat = i from rfl, hg, hide_eq, show parse_Parser_Push_F s.1 s.2.1 s.2.2.1 s.2.2.2.1 s.2.2.2.2.1 s.2.2.2.2.2.1 s.2.2.2.2.2.2.1 s.2.2.2.2.2.2.2.1 s.2.2.2.2.2.2.2.2.1 s.2.2.2.2.2.2.2.2.2.1 s.2.2.2.2.2.2.2.2.2.2.1 s.2.2.2.2.2.2.2.2.2.2.2 l[i] = some p from hp]
          simp only [cond_true, Bool.and_self, optK_s]
          rw [Nat.ble_eq_true_of_le (by omega)]
          simp only [cond_true, Bool.and_self]
          rw [ih (i + 1) p.2 (out ++ p.1) q (by omega) (by omega) hf (by rw [List.length_append]; omega), List.append_assoc]
    · have e : i = l.length := by omega
      rw [e, List.drop_length, feedO] at h3
      injection h3 with h3; subst h3
      rw [ofNat_lt, decide_eq_false hi]
      simp
theorem feed_eq {l : List Int} (hl : l.length < 1000000) {s : PS} {y : List Ev × PS} (h : feedO s l = some y) (h4 : y.1.length ≤ 274877906944) :
    hide parse_Parser_Feed_F s.1 s.2.1 s.2.2.1 s.2.2.2.1 s.2.2.2.2.1 s.2.2.2.2.2.1 s.2.2.2.2.2.2.1 s.2.2.2.2.2.2.2.1 s.2.2.2.2.2.2.2.2.1 s.2.2.2.2.2.2.2.2.2.1 s.2.2.2.2.2.2.2.2.2.2.1 s.2.2.2.2.2.2.2.2.2.2.2 l = some (y.2.1, y.2.2.1, y.2.2.2.1, y.2.2.2.2.1, y.2.2.2.2.2.1, y.2.2.2.2.2.2.1, y.2.2.2.2.2.2.2.1, y.2.2.2.2.2.2.2.2.1, y.2.2.2.2.2.2.2.2.2.1, y.1, y.2.2.2.2.2.2.2.2.2.2.1, y.2.2.2.2.2.2.2.2.2.2.2.1, y.2.2.2.2.2.2.2.2.2.2.2.2) := by
  rw [hide_eq]; unfold parse_Parser_Feed_F
  simp only [hide_eq parse_Parser_Feed_L3]
  have L := feed_loop l hl (parse_Parser_Feed_fu3 l (Int.ofNat l.length) 0 s.1 s.2.1 s.2.2.1 s.2.2.2.1 s.2.2.2.2.1 s.2.2.2.2.2.1 s.2.2.2.2.2.2.1 s.2.2.2.2.2.2.2.1 s.2.2.2.2.2.2.2.2.1 [] s.2.2.2.2.2.2.2.2.2.1 s.2.2.2.2.2.2.2.2.2.2.1 s.2.2.2.2.2.2.2.2.2.2.2) 0 s [] y (Nat.zero_le _) (by unfold parse_Parser_Feed_fu3; omega) h (by simpa using h4)
  rw [show Int.ofNat 0 = (0 : Int) from rfl] at L
  rw [L]; rfl
end Go.Proofs.YtmgchpgpgjolfaaAbs

/- Plain laws of the parser: what the laws take. -/
namespace Go.Proofs.YtmgchpgpgjolfaaAbs
set_option linter.unusedVariables false
set_option linter.unusedSimpArgs false
open Go Go.Proofs
def in64 (n : Int) : Prop := -9223372036854775808 ≤ n ∧ n < 9223372036854775808
def zP : PS := (0, 0, 0, 0, false, 0, false, false, false, [], [], [])
theorem zP_inv : InvP zP := ⟨by decide, by decide, by unfold DecOk; decide, by decide, by decide, by decide⟩
theorem feed_z {l : List Int} (hl : l.length < 1000000) {y : List Ev × PS} (h : feedO zP l = some y) (h4 : y.1.length ≤ 274877906944) :
    hide parse_Parser_Feed_F 0 0 0 0 false 0 false false false [] [] [] l = some (y.2.1, y.2.2.1, y.2.2.2.1, y.2.2.2.2.1, y.2.2.2.2.2.1, y.2.2.2.2.2.2.1, y.2.2.2.2.2.2.2.1, y.2.2.2.2.2.2.2.2.1, y.2.2.2.2.2.2.2.2.2.1, y.1, y.2.2.2.2.2.2.2.2.2.2.1, y.2.2.2.2.2.2.2.2.2.2.2.1, y.2.2.2.2.2.2.2.2.2.2.2.2) := feed_eq (s := zP) hl h h4
theorem min_len (m n : Nat) : (if (m : Int) < Int.ofNat n then (m : Int) else Int.ofNat n) = Int.ofNat (min m n) := by
  show (if (m : Int) < (n : Int) then (m : Int) else (n : Int)) = ((min m n : Nat) : Int)
  split <;> omega
theorem cut_to {α : Type} (l : List α) (c : Nat) : cutList l none (some (Int.ofNat c)) = l.take c := by simp [cutList]
theorem cut_from {α : Type} (l : List α) (c : Nat) : cutList l (some (Int.ofNat c)) none = l.drop c := by simp [cutList]
theorem bnds_to {n c : Nat} (h : c ≤ n) : bnds none (some (Int.ofNat c)) n = true := by simp [bnds]; omega
theorem bnds_from {n c : Nat} (h : c ≤ n) : bnds (some (Int.ofNat c)) none n = true := by simp [bnds]; omega
end Go.Proofs.YtmgchpgpgjolfaaAbs

/- ParseCuts: what the law's own program computes is true. -/
namespace Go.Proofs.YtmgchpgpgjolfaaAbs
set_option linter.unusedVariables false
set_option linter.unusedSimpArgs false
set_option maxHeartbeats 8000000
set_option maxRecDepth 100000
open Go Go.Proofs
theorem cuts_loop {s0 : PS} {e0 : List Ev} (l : List Int) (hl : l.length < 1000000) : ∀ (n i : Nat) (s : PS) (out : List Ev) (y : List Ev × PS), i ≤ l.length → l.length - i < n → feedO s (l.drop i) = some y → out.length + y.1.length ≤ 274877906944 →
    linguistlaw5_ParseCuts_L13 n l (Int.ofNat l.length) (Int.ofNat i) s0.1 s0.2.1 s0.2.2.1 s0.2.2.2.1 s0.2.2.2.2.1 s0.2.2.2.2.2.1 s0.2.2.2.2.2.2.1 s0.2.2.2.2.2.2.2.1 s0.2.2.2.2.2.2.2.2.1 e0 out s.1 s.2.1 s.2.2.1 s.2.2.2.1 s.2.2.2.2.1 s.2.2.2.2.2.1 s.2.2.2.2.2.2.1 s.2.2.2.2.2.2.2.1 s.2.2.2.2.2.2.2.2.1 s0.2.2.2.2.2.2.2.2.2.1 s0.2.2.2.2.2.2.2.2.2.2.1 s0.2.2.2.2.2.2.2.2.2.2.2 s.2.2.2.2.2.2.2.2.2.1 s.2.2.2.2.2.2.2.2.2.2.1 s.2.2.2.2.2.2.2.2.2.2.2 = some (s0.1, s0.2.1, s0.2.2.1, s0.2.2.2.1, s0.2.2.2.2.1, s0.2.2.2.2.2.1, s0.2.2.2.2.2.2.1, s0.2.2.2.2.2.2.2.1, s0.2.2.2.2.2.2.2.2.1, e0, out ++ y.1, y.2.1, y.2.2.1, y.2.2.2.1, y.2.2.2.2.1, y.2.2.2.2.2.1, y.2.2.2.2.2.2.1, y.2.2.2.2.2.2.2.1, y.2.2.2.2.2.2.2.2.1, y.2.2.2.2.2.2.2.2.2.1, s0.2.2.2.2.2.2.2.2.2.1, s0.2.2.2.2.2.2.2.2.2.2.1, s0.2.2.2.2.2.2.2.2.2.2.2, y.2.2.2.2.2.2.2.2.2.2.1, y.2.2.2.2.2.2.2.2.2.2.2.1, y.2.2.2.2.2.2.2.2.2.2.2.2) := by
  intro n
  induction n with
  | zero => intro i s out y h1 h2; omega
  | succ n ih =>
    intro i s out y h1 h2 h3 h4
    rw [linguistlaw5_ParseCuts_L13]
    by_cases hi : i < l.length
    · rw [List.drop_eq_getElem_cons hi, feedO] at h3
      cases hp : pushO s l[i] with
      | none => rw [hp] at h3; cases h3
      | some p =>
        rw [hp] at h3; dsimp only at h3
        cases hf : feedO p.2 (l.drop (i + 1)) with
        | none => rw [hf] at h3; cases h3
        | some q =>
          rw [hf] at h3; injection h3 with h3; subst h3
          dsimp only at h4 ⊢
          rw [List.length_append] at h4
          have hg : l.getD i 0 = l[i] := by rw [List.getD_eq_getElem?_getD, List.getElem?_eq_getElem hi]; rfl
          rw [ofNat_lt, decide_eq_true hi, show decide ((0 : Int) ≤ Int.ofNat i) = true by simp, wrap_succ (by omega), show (Int.ofNat i).toNat = i from rfl, hg, hide_eq, show parse_Parser_Push_F s.1 s.2.1 s.2.2.1 s.2.2.2.1 s.2.2.2.2.1 s.2.2.2.2.2.1 s.2.2.2.2.2.2.1 s.2.2.2.2.2.2.2.1 s.2.2.2.2.2.2.2.2.1 s.2.2.2.2.2.2.2.2.2.1 s.2.2.2.2.2.2.2.2.2.2.1 s.2.2.2.2.2.2.2.2.2.2.2 l[i] = some p from hp]
          simp only [cond_true, Bool.and_self, optK_s]
          rw [Nat.ble_eq_true_of_le (by omega)]
          simp only [cond_true, Bool.and_self]
          rw [ih (i + 1) p.2 (out ++ p.1) q (by omega) (by omega) hf (by rw [List.length_append]; omega), List.append_assoc]
    · have e : i = l.length := by omega
      rw [e, List.drop_length, feedO] at h3
      injection h3 with h3; subst h3
      rw [ofNat_lt, decide_eq_false hi]
      simp
theorem parseCuts_true (x0 : List Int) (x1 : Int) (h0 : ∀ y, y ∈ x0 → 0 ≤ y ∧ y < 256) (h1 : in64 x1) : linguistlaw5_ParseCuts_F x0 x1 = some true := by
  unfold linguistlaw5_ParseCuts_F
  have em := min_len 80 x0.length
  rw [show ((80 : Nat) : Int) = 80 from rfl] at em
  rw [em, bnds_to (by omega), cut_to]
  have hb : ∀ x, x ∈ x0.take (min 80 x0.length) → 0 ≤ x ∧ x < 256 := fun x hx => h0 x (List.mem_of_mem_take hx)
  have hlt : (x0.take (min 80 x0.length)).length ≤ 80 := by rw [List.length_take]; omega
  generalize x0.take (min 80 x0.length) = l at hb hlt ⊢
  rw [Nat.ble_eq_true_of_le (show l.length ≤ 274877906944 by omega)]
  simp only [cond_true, Bool.and_self]
  obtain ⟨k, hk, k0, k1⟩ := within_eq x1 0 (Int.ofNat l.length) h1.1 h1.2 (by omega) (by show (0 : Int) ≤ (l.length : Int); omega) (by show (l.length : Int) < _; omega)
  obtain ⟨k, rfl⟩ : ∃ n : Nat, k = Int.ofNat n := ⟨k.toNat, by show k = ((k.toNat : Nat) : Int); omega⟩
  have k1' : (k : Int) ≤ (l.length : Int) := k1
  have kl : k ≤ l.length := by omega
  obtain ⟨p, hp, p1, p2, p3⟩ := feed_ok (l.take k) zP zP_inv (fun x hx => hb x (List.mem_of_mem_take hx))
  obtain ⟨q, hq, q1, q2, q3⟩ := feed_ok (l.drop k) p.2 p1 (fun x hx => hb x (List.mem_of_mem_drop hx))
  obtain ⟨r, hr, r1, r2, r3⟩ := feed_ok [27, 91, 53, 59, 53, 72, 228] p.2 p1 (by intro x hx; simp at hx; omega)
  have ht : (l.take k).length ≤ 80 := by rw [List.length_take]; omega
  have hd : (l.drop k).length ≤ 80 := by rw [List.length_drop]; omega
  have all := feedO_append (s := zP) hp hq
  rw [List.take_append_drop] at all
  have len : (p.1 ++ q.1).length ≤ 1000 := by rw [List.length_append]; omega
  rw [feed_z (by omega) all (show (p.1 ++ q.1).length ≤ _ by omega)]
  simp only [optK_s]
  rw [hk]
  simp only [optK_s]
  rw [bnds_to kl, bnds_from kl, cut_to, cut_from, feed_z (by omega) hp (by omega)]
  simp only [optK_s, cond_true, Bool.and_self]
  rw [Nat.ble_eq_true_of_le (show p.2.2.2.2.2.2.2.2.2.2.1.length ≤ 274877906944 from Nat.le_trans p1.2.2.2.1 (by decide)), Nat.ble_eq_true_of_le (show p.2.2.2.2.2.2.2.2.2.2.2.1.length ≤ 274877906944 from Nat.le_trans p1.2.2.2.2.1 (by decide)), Nat.ble_eq_true_of_le (show p.2.2.2.2.2.2.2.2.2.2.2.2.length ≤ 274877906944 from Nat.le_trans p1.2.2.2.2.2 (by decide))]
  simp only [cond_true]
  rw [feed_eq (s := p.2) (by simp) hr (by simp at r2; omega)]
  simp only [optK_s, hide_eq linguistlaw5_ParseCuts_L13]
  have L := cuts_loop (s0 := q.2) (e0 := p.1 ++ q.1) (l.drop k) (by omega) (linguistlaw5_ParseCuts_fu13 (l.drop k) (Int.ofNat (l.drop k).length) 0 q.2.1 q.2.2.1 q.2.2.2.1 q.2.2.2.2.1 q.2.2.2.2.2.1 q.2.2.2.2.2.2.1 q.2.2.2.2.2.2.2.1 q.2.2.2.2.2.2.2.2.1 q.2.2.2.2.2.2.2.2.2.1 (p.1 ++ q.1) p.1 p.2.1 p.2.2.1 p.2.2.2.1 p.2.2.2.2.1 p.2.2.2.2.2.1 p.2.2.2.2.2.2.1 p.2.2.2.2.2.2.2.1 p.2.2.2.2.2.2.2.2.1 p.2.2.2.2.2.2.2.2.2.1 q.2.2.2.2.2.2.2.2.2.2.1 q.2.2.2.2.2.2.2.2.2.2.2.1 q.2.2.2.2.2.2.2.2.2.2.2.2 p.2.2.2.2.2.2.2.2.2.2.1 p.2.2.2.2.2.2.2.2.2.2.2.1 p.2.2.2.2.2.2.2.2.2.2.2.2) 0 p.2 p.1 q (Nat.zero_le _) (Nat.lt_of_lt_of_le (show (l.drop k).length - 0 < 5000 by omega) (Nat.le_add_left 5000 _)) hq (by omega)
  rw [show Int.ofNat 0 = (0 : Int) from rfl] at L
  rw [L]
  simp only [optK_s]
  rw [events_eq (p.1 ++ q.1) (by omega) (fun e he => by
    rcases List.mem_append.1 he with c | c
    · exact p3 e c
    · exact q3 e c)]
  simp only [optK_s, cond_true]
  rw [held_eq]
  simp only [optK_s]
  cases (q.2.1 == 0) with
  | true => simp
  | false => rfl
end Go.Proofs.YtmgchpgpgjolfaaAbs

/- What is known of letters. -/
namespace Go.Proofs.YtmgchpgpgjolfaaAbs
set_option linter.unusedVariables false
open Go Go.Proofs Go.RowKit
theorem isTrue_res : (isTrue : AV → Heap → Option Bool) = resK .bool true (fun b => some b) := by
  funext v h
  cases v <;> rfl
theorem law_res {P : Program} {E : Env} (hE : EnvOk P E) {n f : Nat} {args : List AV} {us : List Value} (e : acall (R := Bool) E n f args [] (resK .bool true (fun b => some b)) = some true) (W : World)
    (q : RelL ⟨W, fun _ => none, fun B => B < W.heap.size⟩ [] false args us) : Calls P f us.toArray W fun e W' => e = .returned (.bool true) ∧ Below W.heap.size W W' :=
  law_rows hE (by rw [isTrue_res]; exact e) W q
theorem wf_in64 {x : Int} (h : (Lit.int .i64 x).wf = true) : in64 x := by
  simp [Lit.wf, IntKind.min, IntKind.max, IntKind.bits, IntKind.signed] at h
  unfold in64; omega
theorem wf_inu8 {x : Int} (h : (Lit.int .u8 x).wf = true) : 0 ≤ x ∧ x < 256 := by
  simp [Lit.wf, IntKind.min, IntKind.max, IntKind.bits, IntKind.signed] at h
  omega
end Go.Proofs.YtmgchpgpgjolfaaAbs

/- ParseCuts, called. -/
namespace Go.Proofs.YtmgchpgpgjolfaaAbs
set_option linter.unusedVariables false
set_option maxRecDepth 100000
open Go Go.Proofs Go.RowKit
theorem parseCuts_run (x0 : List (Int)) (x1 : Int) (w0 : (List.length (α := Int) x0 ≤ 9223372036854775807 ∧ ∀ y : Int, List.Mem y x0 → ((Lit.int .u8 y).wf = true))) (w1 : (Lit.int .i64 x1).wf = true) :
    acall (R := Bool) (envC linguistlaw5_ParseCuts_pp linguistlaw5_ParseCuts_su linguistlaw5_ParseCuts_ll1 cs0 (fun f d => Nat.beq f 7 && Nat.beq d 20)) 1000 7 [.list (.one (.int .u8)) x0 false, .int .i64 x1] [] (resK .bool true (fun b => some b)) = some true := by
  have h := linguistlaw5_ParseCuts_run x0 x1 (fun b => some b)
  rw [parseCuts_true x0 x1 (fun y hy => wf_inu8 (w0.2 y hy)) (wf_in64 w1)] at h
  exact h
end Go.Proofs.YtmgchpgpgjolfaaAbs

/- Whatever reads as data is what the interpreter takes: rows of letters as arguments. -/
namespace Go.Proofs.YtmgchpgpgjolfaaAbs
set_option linter.unusedVariables false
open Go Go.Proofs Go.RowKit Go.ChangeShapes Go.WideShapes Go.Deep
abbrev gd (w : World) : Nat → Prop := fun B => B < w.heap.size
def OpC (P : Program) (w : World) (c : CTy) (t : TypeId) (WF : c.den → Prop) : Prop :=
  ∀ {H : Type} {enc : TypeId × Value → H} {spare : Nat → Bool} {held : Bool} {fuel : Nat} {cs : List Value} {x : DataW H × List MemPlace}, DataW.trod enc P w 0 spare held fuel t cs = some x → ∃ (a : c.den) (v : Value), cs = [v] ∧ c.rep w (gd w) a v ∧ WF a
def OpR (P : Program) (w : World) (r : Row) (t : TypeId) (WF : r.den → Prop) : Prop :=
  ∀ {H : Type} {enc : TypeId × Value → H} {spare : Nat → Bool} {held : Bool} {fuel : Nat} {cs : List Value} {x : DataW H × List MemPlace}, DataW.trod enc P w 0 spare held fuel t cs = some x → ∃ a : r.den, r.rep w (gd w) a cs ∧ WF a
section
variable {P : Program} {w : World} {t e : TypeId}
theorem OpC.int {k : IntKind} (ht : P.underlying t = some (.int k)) : OpC P w (.int k) t (fun a => (Lit.int k a).wf = true) := by
  intro H enc spare held fuel cs x h
  obtain ⟨a, rfl, _, hw⟩ := DataW.trod_int ht h
  refine ⟨a, _, rfl, ⟨rfl, ?_⟩, hw⟩
  cases k <;> first | rfl | (simp [Lit.wf, IntKind.min, IntKind.max, IntKind.bits, IntKind.signed] at hw; simp [u8ok, kindEq]; omega)
theorem OpC.bool (ht : P.underlying t = some .bool) : OpC P w .bool t (fun _ => True) := by
  intro H enc spare held fuel cs x h
  obtain ⟨a, rfl, _⟩ := DataW.trod_bool ht h
  exact ⟨a, _, rfl, rfl, trivial⟩
theorem OpC.str (ht : P.underlying t = some .string) : OpC P w .str t (fun s => ∃ b : ByteArray, bytesOf b = s ∧ b.size ≤ 9223372036854775807) := by
  intro H enc spare held fuel cs x h
  obtain ⟨a, rfl, _, hl⟩ := DataW.trod_string ht h
  refine ⟨bytesOf a, _, rfl, ⟨a, rfl, rfl⟩, a, rfl, ?_⟩
  unfold maxLen at hl
  omega
theorem cells_eq {a : Addr} {n : Nat} {cs : List Value} {c : Array Value} (h : w.cells? 0 a n = some cs) (hb : ∃ e fr, w.heap[a.block]? = some (.cells c e fr)) (hs : a.spot = none) : cs = (c.toList.drop a.off).take n := by
  obtain ⟨_, hl, hc⟩ := World.cells?_some h
  obtain ⟨e, fr, hb⟩ := hb
  apply List.ext_getElem?
  intro i
  by_cases hi : i < n
  · have h1 : w.cell? (a.add i) = c[a.off + i]? := by
      unfold World.cell? Addr.add
      by_cases h0 : i = 0
      · subst h0; simp [hb, hs]
      · simp [h0, hb]
    rw [← hc i hi, h1, List.getElem?_take_of_lt hi, List.getElem?_drop, Array.getElem?_toList]
  · rw [List.getElem?_eq_none (by omega), List.getElem?_eq_none (by simp; omega)]
theorem rows_lie {r : Row} {WF : r.den → Prop} {a : Addr} {len : Nat} (hr : 0 < r.size) (hp : 0 < len) (hx : ∀ i, i < len → ∃ (b : r.den) (cs : List Value), w.cells? 0 (a.add (i * r.size)) r.size = some cs ∧ r.rep w (gd w) b cs ∧ WF b) :
    a.spot = none ∧ a.block < w.heap.size ∧ ∃ l : List r.den, l.length = len ∧ (∀ x ∈ l, WF x) ∧ ∃ vs, RepAll (fun x cs => r.rep w (gd w) x cs) l vs ∧ Lies w a.block a.off vs := by
  obtain ⟨b0, cs0, h0, _, _⟩ := hx 0 hp
  obtain ⟨_, hl0, hc0⟩ := World.cells?_some h0
  have h00 := hc0 0 hr
  have hlt : 0 < cs0.length := by omega
  rw [List.getElem?_eq_getElem hlt] at h00
  have hbk : (∃ c e fr, w.heap[a.block]? = some (.cells c e fr)) ∧ a.spot = none := by
    have hz : (a.add (0 * r.size)).add 0 = a := by simp [Addr.add]
    rw [hz] at h00
    unfold World.cell? at h00
    split at h00
    · rename_i c e fr hb
      refine ⟨⟨c, e, fr, hb⟩, ?_⟩
      split at h00
      · cases h00
      · rename_i hn; simpa using hn
    · cases h00
  obtain ⟨⟨c, e, fr, hb⟩, hs⟩ := hbk
  have hbl : a.block < w.heap.size := (Array.getElem?_eq_some_iff.1 hb).1
  refine ⟨hs, hbl, ?_⟩
  have key : ∀ k, k ≤ len → ∃ l : List r.den, l.length = k ∧ (∀ x ∈ l, WF x) ∧ RepAll (fun x cs => r.rep w (gd w) x cs) l ((c.toList.drop a.off).take (k * r.size)) := by
    intro k
    induction k with
    | zero => intro _; exact ⟨[], rfl, (fun x hx => by cases hx), by simp [RepAll]⟩
    | succ k ih =>
      intro hk
      obtain ⟨l, hl, hw, hR⟩ := ih (by omega)
      obtain ⟨b, cs, h1, h2, h3⟩ := hx k (by omega)
      have hcs : cs = ((c.toList.drop a.off).drop (k * r.size)).take r.size := by
        have := cells_eq (c := c) h1 ⟨e, fr, by unfold Addr.add; split <;> exact hb⟩ (by unfold Addr.add; split <;> first | exact hs | rfl)
        rw [this, List.drop_drop]
        congr 2
        unfold Addr.add; split <;> simp_all
      refine ⟨l ++ [b], by simp [hl], ?_, ?_⟩
      · intro x hx'
        rcases List.mem_append.1 hx' with h | h
        · exact hw x h
        · rw [List.mem_singleton] at h; subst h; exact h3
      · have : (k + 1) * r.size = k * r.size + r.size := by rw [Nat.add_mul, Nat.one_mul]
        rw [this, List.take_add, ← hcs]
        exact RepAll.append hR ⟨cs, [], by simp, h2, rfl⟩
  obtain ⟨l, hl, hw, hR⟩ := key len (Nat.le_refl _)
  exact ⟨l, hl, hw, _, hR, c, e, fr, _, hb, (List.take_append_drop (len * r.size) _).symm⟩
theorem OpC.slice {r : Row} {WF : r.den → Prop} (ht : P.underlying t = some (.slice e)) (hr : 0 < r.size) (hc : P.cellsOf e = r.size) (he : OpR P w r e WF) : OpC P w (.slice r) t (fun l => List.length (α := r.den) l ≤ 9223372036854775807 ∧ ∀ x : r.den, List.Mem x l → WF x) := by
  intro H enc spare held fuel cs x h
  rcases open_slice ht h with ⟨rfl, _⟩ | ⟨a, len, cap, m, n, D, Pl, rfl, _, hl, hm, hmm, _, hx⟩
  · exact ⟨([] : List r.den), _, rfl, ⟨none, 0, 0, rfl, rfl, Nat.le_refl _, fun _ => rfl, Or.inl rfl⟩, by simp, fun x hx => by cases hx⟩
  · have hmle : len ≤ m := by rw [hmm]; split <;> omega
    have hmax : len ≤ 9223372036854775807 := by unfold maxLen at hm; omega
    by_cases hp : 0 < len
    · obtain ⟨hs, hb, l, hll, hw, vs, hR, hL⟩ := rows_lie (w := w) (a := a) (len := len) (WF := WF) hr hp (fun i hi => by
        obtain ⟨c, h1, h2⟩ := hx i (by omega)
        obtain ⟨b, h3, h4⟩ := he h2
        rw [hc] at h1
        exact ⟨b, c, h1, h3, h4⟩)
      refine ⟨l, _, rfl, ⟨some a, len, cap, rfl, hll.symm, hl, (fun k => by cases k), Or.inr ⟨a.block, a.off, vs, ?_, hb, hR, hL⟩⟩, by rw [hll]; exact hmax, hw⟩
      obtain ⟨B, o, s⟩ := a
      simp only at hs
      rw [hs]
    · have h0 : len = 0 := by omega
      subst h0
      exact ⟨([] : List r.den), _, rfl, ⟨some a, 0, cap, rfl, rfl, hl, (fun k => by cases k), Or.inl rfl⟩, by simp, fun x hx => by cases hx⟩
theorem OpR.one {c : CTy} {WF : c.den → Prop} (h : OpC P w c t WF) : OpR P w (.one c) t WF := by
  intro H enc spare held fuel cs x k
  obtain ⟨a, v, rfl, h1, h2⟩ := h k
  exact ⟨a, ⟨v, rfl, h1⟩, h2⟩
/-- A struct's field, out of the whole's reading. -/
theorem trod_field {H : Type} {enc : TypeId × Value → H} {spare : Nat → Bool} {held : Bool} {fuel : Nat} {cs : List Value} {x : DataW H × List MemPlace} {fs : Array Field} (ht : P.underlying t = some (.struct fs)) (h : DataW.trod enc P w 0 spare held fuel t cs = some x) :
    cs.length = P.cellsOf t ∧ ∃ n, ∀ (i : Nat) (f : Field), fs[i]? = some f → ∃ y, DataW.trod enc P w 0 spare held n f.type ((cs.drop f.offset).take (P.cellsOf f.type)) = some y := by
  obtain ⟨xs, n, _, _, hn, hl, hf⟩ := DataW.trod_struct ht h
  refine ⟨hn, n, fun i f hi => ?_⟩
  have h1 := hf i f hi
  have hlt : i < xs.length := by rw [hl]; exact (Array.getElem?_eq_some_iff.1 hi).1
  rw [List.getElem?_eq_getElem hlt] at h1
  exact ⟨_, h1⟩
end
end Go.Proofs.YtmgchpgpgjolfaaAbs
