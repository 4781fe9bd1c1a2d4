/- Texts of this session, joined (bundle2.py): GP2, GP3, WParseStrings, GC, WParseStringsC, AbsOpen. -/
import Derived.ProofKit
import Derived.Deep.Slices
import Derived.WideShapes
import Derived.ChangeArms
import Derived.DataReads
import Derived.DataElems
import Derived.OpenShut
import Derived.Test.YtmgchpgpgjolfaaBunC3
/- Plain laws of the parser: bytes fed. -/
namespace Go.Proofs.YtmgchpgpgjolfaaAbs
set_option linter.unusedVariables false
set_option linter.unusedSimpArgs false
set_option maxHeartbeats 8000000
set_option maxRecDepth 100000
open Go Go.Proofs
theorem within_eq (n lo hi : Int) (hn : -9223372036854775808 ≤ n) (hn2 : n < 9223372036854775808) (h0 : -1000000 ≤ lo) (h1 : lo ≤ hi) (h2 : hi < 4611686018427387904) :
    ∃ r, hide linguistbook_Within_F n lo hi = some r ∧ lo ≤ r ∧ r ≤ hi := by
  rw [hide_eq]; unfold linguistbook_Within_F
  rw [w64 (n := hi - lo) (by omega) (by omega), w64 (n := hi - lo + 1) (by omega) (by omega)]
  have e0 : (hi - lo + 1 == 0) = false := beq_false_of_ne (by omega)
  have b1 : n.tmod (hi - lo + 1) < hi - lo + 1 := Int.tmod_lt_of_pos _ (by omega)
  have b2 : -(hi - lo + 1) < n.tmod (hi - lo + 1) := by
    have := Int.lt_tmod_of_pos n (show 0 < hi - lo + 1 by omega); omega
  rw [e0]
  generalize n.tmod (hi - lo + 1) = m at *
  simp only [cond_false]
  by_cases hm : m < 0
  · rw [decide_eq_true hm]
    simp only [cond_true]
    rw [w64 (n := m + hi) (by omega) (by omega), w64 (n := m + hi - lo) (by omega) (by omega), w64 (n := m + hi - lo + 1) (by omega) (by omega), w64 (by omega) (by omega)]
    exact ⟨_, rfl, by omega, by omega⟩
  · rw [decide_eq_false hm]
    simp only [cond_false]
    rw [w64 (by omega) (by omega)]
    exact ⟨_, rfl, by omega, by omega⟩
theorem sameInt_loop (a : List Int) (hl : a.length < 4611686018427387904) : ∀ (n i : Nat), i ≤ a.length → a.length - i < n → linguistbook_Same_int_L4 n a a (Int.ofNat i) = some (.inr ()) := by
  intro n
  induction n with
  | zero => intro i h1 h2; omega
  | succ n ih =>
    intro i h1 h2
    rw [linguistbook_Same_int_L4]
    by_cases hi : i < a.length
    · rw [ofNat_lt, decide_eq_true hi, show decide ((0 : Int) ≤ Int.ofNat i) = true by simp, bne_self_eq_false, wrap_succ (by omega)]
      exact ih (i + 1) (by omega) (by omega)
    · rw [ofNat_lt, decide_eq_false hi]
      rfl
theorem sameInt_eq (a : List Int) (hl : a.length < 4611686018427387904) : hide linguistbook_Same_int_F a a = some true := by
  rw [hide_eq]; unfold linguistbook_Same_int_F
  rw [bne_self_eq_false]
  simp only [cond_false, hide_eq]
  have L := sameInt_loop a hl (linguistbook_Same_int_fu4 a a 0) 0 (Nat.zero_le _) (by unfold linguistbook_Same_int_fu4; omega)
  rw [show Int.ofNat 0 = (0 : Int) from rfl] at L
  rw [L]; rfl
theorem events_loop (a : List Ev) (hl : a.length < 4611686018427387904) (he : EvOk a) : ∀ (n i : Nat), i ≤ a.length → a.length - i < n → linguistkeep_Events_L4 n a a (Int.ofNat a.length) (Int.ofNat i) = some (.inr ()) := by
  intro n
  induction n with
  | zero => intro i h1 h2; omega
  | succ n ih =>
    intro i h1 h2
    rw [linguistkeep_Events_L4]
    by_cases hi : i < a.length
    · have hm : (a.getD i (0, 0, 0, 0, 0, nilI, nilI)).2.2.2.2.2.1.length ≤ 17 := he _ (by
        rw [List.getD_eq_getElem?_getD, List.getElem?_eq_getElem hi]; exact List.getElem_mem hi)
      rw [ofNat_lt, decide_eq_true hi, show decide ((0 : Int) ≤ Int.ofNat i) = true by simp, wrap_succ (by omega), show (Int.ofNat i).toNat = i from rfl, sameInt_eq _ (by omega)]
      simp only [bne_self_eq_false, beq_self_eq_true, Bool.not_true, Bool.and_self, cond_true, cond_false, optK_s]
      exact ih (i + 1) (by omega) (by omega)
    · rw [ofNat_lt, decide_eq_false hi]
      rfl
theorem events_eq (a : List Ev) (hl : a.length < 4611686018427387904) (he : EvOk a) : hide linguistkeep_Events_F a a = some true := by
  rw [hide_eq]; unfold linguistkeep_Events_F
  rw [bne_self_eq_false]
  simp only [cond_false, hide_eq]
  have L := events_loop a hl he (linguistkeep_Events_fu4 a a (Int.ofNat a.length) 0) 0 (Nat.zero_le _) (by unfold linguistkeep_Events_fu4; omega)
  rw [show Int.ofNat 0 = (0 : Int) from rfl] at L
  rw [L]; rfl
noncomputable def pushO (s : PS) (x : Int) : Option (List Ev × PS) := parse_Parser_Push_F s.1 s.2.1 s.2.2.1 s.2.2.2.1 s.2.2.2.2.1 s.2.2.2.2.2.1 s.2.2.2.2.2.2.1 s.2.2.2.2.2.2.2.1 s.2.2.2.2.2.2.2.2.1 s.2.2.2.2.2.2.2.2.2.1 s.2.2.2.2.2.2.2.2.2.2.1 s.2.2.2.2.2.2.2.2.2.2.2 x
noncomputable def feedO : PS → List Int → Option (List Ev × PS)
  | s, [] => some ([], s)
  | s, x :: l => match pushO s x with
    | none => none
    | some y => match feedO y.2 l with
      | none => none
      | some z => some (y.1 ++ z.1, z.2)
theorem feedO_cons {s : PS} {x : Int} {l : List Int} {y z : List Ev × PS} (h1 : pushO s x = some y) (h2 : feedO y.2 l = some z) : feedO s (x :: l) = some (y.1 ++ z.1, z.2) := by
  rw [feedO, h1]; dsimp only; rw [h2]
theorem feedO_append {s : PS} : ∀ {l m : List Int} {s : PS} {y z : List Ev × PS}, feedO s l = some y → feedO y.2 m = some z → feedO s (l ++ m) = some (y.1 ++ z.1, z.2)
  | [], m, s, y, z, h1, h2 => by
    rw [feedO] at h1; injection h1 with h1; subst h1
    simpa using h2
  | x :: l, m, s, y, z, h1, h2 => by
    rw [feedO] at h1
    cases hp : pushO s x with
    | none => rw [hp] at h1; cases h1
    | some p =>
      rw [hp] at h1; dsimp only at h1
      cases hf : feedO p.2 l with
      | none => rw [hf] at h1; cases h1
      | some q =>
        rw [hf] at h1; injection h1 with h1; subst h1
        have := feedO_append (s := p.2) hf h2
        rw [List.cons_append, feedO_cons hp this, List.append_assoc]
theorem feed_loop (l : List Int) (hl : l.length < 1000000) : ∀ (n i : Nat) (s : PS) (out : List Ev) (y : List Ev × PS), i ≤ l.length → l.length - i < n → feedO s (l.drop i) = some y → out.length + y.1.length ≤ 274877906944 →
    parse_Parser_Feed_L3 n l (Int.ofNat l.length) (Int.ofNat i) s.1 s.2.1 s.2.2.1 s.2.2.2.1 s.2.2.2.2.1 s.2.2.2.2.2.1 s.2.2.2.2.2.2.1 s.2.2.2.2.2.2.2.1 s.2.2.2.2.2.2.2.2.1 out s.2.2.2.2.2.2.2.2.2.1 s.2.2.2.2.2.2.2.2.2.2.1 s.2.2.2.2.2.2.2.2.2.2.2 = some (y.2.1, y.2.2.1, y.2.2.2.1, y.2.2.2.2.1, y.2.2.2.2.2.1, y.2.2.2.2.2.2.1, y.2.2.2.2.2.2.2.1, y.2.2.2.2.2.2.2.2.1, y.2.2.2.2.2.2.2.2.2.1, out ++ y.1, y.2.2.2.2.2.2.2.2.2.2.1, y.2.2.2.2.2.2.2.2.2.2.2.1, y.2.2.2.2.2.2.2.2.2.2.2.2) := by
  intro n
  induction n with
  | zero => intro i s out y h1 h2; omega
  | succ n ih =>
    intro i s out y h1 h2 h3 h4
    rw [parse_Parser_Feed_L3]
    by_cases hi : i < l.length
    · rw [List.drop_eq_getElem_cons hi, feedO] at h3
      cases hp : pushO s l[i] with
      | none => rw [hp] at h3; cases h3
      | some p =>
        rw [hp] at h3; dsimp only at h3
        cases hf : feedO p.2 (l.drop (i + 1)) with
        | none => rw [hf] at h3; cases h3
        | some q =>
          rw [hf] at h3; injection h3 with h3; subst h3
          dsimp only at h4 ⊢
          rw [List.length_append] at h4
          have hg : l.getD i 0 = l[i] := by rw [List.getD_eq_getElem?_getD, List.getElem?_eq_getElem hi]; rfl
          rw [ofNat_lt, decide_eq_true hi, show decide ((0 : Int) ≤ Int.ofNat i) = true by simp, wrap_succ (by omega), show (Int.ofNat i).toNat = i from rfl, hg, hide_eq, show parse_Parser_Push_F s.1 s.2.1 s.2.2.1 s.2.2.2.1 s.2.2.2.2.1 s.2.2.2.2.2.1 s.2.2.2.2.2.2.1 s.2.2.2.2.2.2.2.1 s.2.2.2.2.2.2.2.2.1 s.2.2.2.2.2.2.2.2.2.1 s.2.2.2.2.2.2.2.2.2.2.1 s.2.2.2.2.2.2.2.2.2.2.2 l[i] = some p from hp]
          simp only [cond_true, Bool.and_self, optK_s]
          rw [Nat.ble_eq_true_of_le (by omega)]
          simp only [cond_true, Bool.and_self]
          rw [ih (i + 1) p.2 (out ++ p.1) q (by omega) (by omega) hf (by rw [List.length_append]; omega), List.append_assoc]
    · have e : i = l.length := by omega
      rw [e, List.drop_length, feedO] at h3
      injection h3 with h3; subst h3
      rw [ofNat_lt, decide_eq_false hi]
      simp
theorem feed_eq {l : List Int} (hl : l.length < 1000000) {s : PS} {y : List Ev × PS} (h : feedO s l = some y) (h4 : y.1.length ≤ 274877906944) :
    hide parse_Parser_Feed_F s.1 s.2.1 s.2.2.1 s.2.2.2.1 s.2.2.2.2.1 s.2.2.2.2.2.1 s.2.2.2.2.2.2.1 s.2.2.2.2.2.2.2.1 s.2.2.2.2.2.2.2.2.1 s.2.2.2.2.2.2.2.2.2.1 s.2.2.2.2.2.2.2.2.2.2.1 s.2.2.2.2.2.2.2.2.2.2.2 l = some (y.2.1, y.2.2.1, y.2.2.2.1, y.2.2.2.2.1, y.2.2.2.2.2.1, y.2.2.2.2.2.2.1, y.2.2.2.2.2.2.2.1, y.2.2.2.2.2.2.2.2.1, y.2.2.2.2.2.2.2.2.2.1, y.1, y.2.2.2.2.2.2.2.2.2.2.1, y.2.2.2.2.2.2.2.2.2.2.2.1, y.2.2.2.2.2.2.2.2.2.2.2.2) := by
  rw [hide_eq]; unfold parse_Parser_Feed_F
  simp only [hide_eq parse_Parser_Feed_L3]
  have L := feed_loop l hl (parse_Parser_Feed_fu3 l (Int.ofNat l.length) 0 s.1 s.2.1 s.2.2.1 s.2.2.2.1 s.2.2.2.2.1 s.2.2.2.2.2.1 s.2.2.2.2.2.2.1 s.2.2.2.2.2.2.2.1 s.2.2.2.2.2.2.2.2.1 [] s.2.2.2.2.2.2.2.2.2.1 s.2.2.2.2.2.2.2.2.2.2.1 s.2.2.2.2.2.2.2.2.2.2.2) 0 s [] y (Nat.zero_le _) (by unfold parse_Parser_Feed_fu3; omega) h (by simpa using h4)
  rw [show Int.ofNat 0 = (0 : Int) from rfl] at L
  rw [L]; rfl
/-- In the ground, nothing held. -/
def Gr (s : PS) : Prop := s.1 = 0 ∧ s.2.2.1 ≤ 0
theorem push_letter {s : PS} (g : Gr s) {x : Int} (hx : 32 ≤ x ∧ x ≤ 126) : pushO s x = some ([prE x], s) := by
  obtain ⟨s0, s1, s2, s3, s4, s5, s6, s7, s8, s9, s10, s11⟩ := s
  obtain ⟨g1, g2⟩ := g
  dsimp only at g1 g2
  subst g1
  show parse_Parser_Push_F 0 s1 s2 s3 s4 s5 s6 s7 s8 s9 s10 s11 x = _
  unfold parse_Parser_Push_F
  have hne : ∀ a : Int, x ≠ a → (x == a) = false := fun a h => beq_eq_false_iff_ne.2 h
  rw [show ((0 : Int) == 0) = true from rfl, decide_eq_false (show ¬ x ≥ 128 by omega), held_eq, decide_eq_false (show ¬ s2 > 0 by omega)]
  simp only [cond_true, cond_false, optK_s]
  rw [hne 27 (by omega), hne 24 (by omega), hne 26 (by omega), hne 127 (by omega), decide_eq_false (show ¬ x < 32 by omega), w32 (n := x) (by omega) (by omega), prints_eq [x] (by simp)]
  rfl
theorem feed_letters : ∀ (l : List Int) {s : PS}, Gr s → (∀ x, x ∈ l → 32 ≤ x ∧ x ≤ 126) → feedO s l = some (l.map prE, s)
  | [], s, g, _ => rfl
  | x :: l, s, g, h => by
    have p := push_letter g (h x List.mem_cons_self)
    have q := feed_letters l g (fun y hy => h y (List.mem_cons_of_mem _ hy))
    exact feedO_cons p q
end Go.Proofs.YtmgchpgpgjolfaaAbs

/- Plain laws of the parser: what the laws take. -/
namespace Go.Proofs.YtmgchpgpgjolfaaAbs
set_option linter.unusedVariables false
set_option linter.unusedSimpArgs false
open Go Go.Proofs
def in64 (n : Int) : Prop := -9223372036854775808 ≤ n ∧ n < 9223372036854775808
def zP : PS := (0, 0, 0, 0, false, 0, false, false, false, [], [], [])
theorem zP_gr : Gr zP := ⟨rfl, by decide⟩
theorem feed_z {l : List Int} (hl : l.length < 1000000) {y : List Ev × PS} (h : feedO zP l = some y) (h4 : y.1.length ≤ 274877906944) :
    hide parse_Parser_Feed_F 0 0 0 0 false 0 false false false [] [] [] l = some (y.2.1, y.2.2.1, y.2.2.2.1, y.2.2.2.2.1, y.2.2.2.2.2.1, y.2.2.2.2.2.2.1, y.2.2.2.2.2.2.2.1, y.2.2.2.2.2.2.2.2.1, y.2.2.2.2.2.2.2.2.2.1, y.1, y.2.2.2.2.2.2.2.2.2.2.1, y.2.2.2.2.2.2.2.2.2.2.2.1, y.2.2.2.2.2.2.2.2.2.2.2.2) := feed_eq (s := zP) hl h h4
end Go.Proofs.YtmgchpgpgjolfaaAbs

/- ParseStrings: what the law's own program computes is true. -/
namespace Go.Proofs.YtmgchpgpgjolfaaAbs
set_option linter.unusedVariables false
set_option linter.unusedSimpArgs false
set_option maxHeartbeats 8000000
set_option maxRecDepth 100000
open Go Go.Proofs
def zE : PS := (1, 0, 0, 0, false, 0, false, false, false, [], [], [])
def zT (o : Bool) (b : List Int) : PS := (3, 0, 0, 0, false, 0, false, o, false, [], [], b)
def zS (o : Bool) (b : List Int) : PS := (4, 0, 0, 0, false, 0, false, o, false, [], [], b)
def zC (g : Bool) (l : List Int) : PS := (2, 0, 0, 0, g, 0, false, false, false, [], l, [])
def evT (o : Bool) (b : List Int) : List Ev := bif o then [(5, 0, 0, 0, 0, [], b)] else []
theorem st_1 : pushO zP 27 = some ([], zE) := by
  show parse_Parser_Push_F 0 0 0 0 false 0 false false false [] [] [] 27 = _
  unfold parse_Parser_Push_F
  rw [held_eq]
  rfl
theorem st_2 {c : Int} (hc : c = 93 ∨ c = 80 ∨ c = 88 ∨ c = 94 ∨ c = 95) : pushO zE c = some ([], zT (c == 93) []) := by
  show parse_Parser_Push_F 1 0 0 0 false 0 false false false [] [] [] c = _
  unfold parse_Parser_Push_F
  rw [held_eq]
  rcases hc with rfl | rfl | rfl | rfl | rfl <;> rfl
theorem st_3 {o : Bool} {b : List Int} {x : Int} (hx : 32 ≤ x ∧ x ≤ 255) (hb : b.length < 4096) : pushO (zT o b) x = some ([], zT o (bif o then b ++ [x] else b)) := by
  show parse_Parser_Push_F 3 0 0 0 false 0 false o false [] [] b x = _
  unfold parse_Parser_Push_F
  have hne : ∀ a : Int, x ≠ a → (x == a) = false := fun a h => beq_eq_false_iff_ne.2 h
  have e5 : (Int.ofNat b.length == 4096) = false := beq_eq_false_iff_ne.2 (fun q => by have : (b.length : Int) = 4096 := q; omega)
  rw [show ((3 : Int) == 0) = false from rfl, show ((3 : Int) == 3) = true from rfl, hne 24 (by omega), hne 26 (by omega), hne 27 (by omega), hne 7 (by omega), decide_eq_false (show ¬ x < 32 by omega), e5]
  simp only [cond_true, cond_false]
  rw [Nat.ble_eq_true_of_le (show b.length + [x].length ≤ 274877906944 by simp; omega)]
  cases o <;> rfl
theorem st_4 (o : Bool) (b : List Int) : pushO (zT o b) 7 = some (evT o b, zP) := by
  show parse_Parser_Push_F 3 0 0 0 false 0 false o false [] [] b 7 = _
  unfold parse_Parser_Push_F
  cases o <;> rfl
theorem st_5 (o : Bool) (b : List Int) : pushO (zT o b) 27 = some ([], zS o b) := by
  show parse_Parser_Push_F 3 0 0 0 false 0 false o false [] [] b 27 = _
  unfold parse_Parser_Push_F
  cases o <;> rfl
theorem st_6 (o : Bool) (b : List Int) : pushO (zS o b) 92 = some (evT o b, zP) := by
  show parse_Parser_Push_F 4 0 0 0 false 0 false o false [] [] b 92 = _
  unfold parse_Parser_Push_F
  cases o <;> rfl
theorem st_7 (o : Bool) (b : List Int) : pushO (zS o b) 91 = some ([], zC false []) := by
  show parse_Parser_Push_F 4 0 0 0 false 0 false o false [] [] b 91 = _
  unfold parse_Parser_Push_F
  cases o <;> rfl
theorem st_8 : pushO (zC false []) 53 = some ([], zC true [5]) := by
  show parse_Parser_Push_F 2 0 0 0 false 0 false false false [] [] [] 53 = _
  unfold parse_Parser_Push_F
  rfl
theorem st_9 : pushO (zC true [5]) 110 = some ([(4, 0, 0, 0, 110, [5], [])], zP) := by
  show parse_Parser_Push_F 2 0 0 0 true 0 false false false [] [5] [] 110 = _
  unfold parse_Parser_Push_F
  rfl
theorem st_text {o : Bool} : ∀ (l b : List Int), (∀ x, x ∈ l → 32 ≤ x ∧ x ≤ 255) → b.length + l.length ≤ 4096 → feedO (zT o b) l = some ([], zT o (bif o then b ++ l else b))
  | [], b, _, _ => by cases o <;> simp [feedO]
  | x :: l, b, h, hb => by
    have p := st_3 (o := o) (b := b) (h x List.mem_cons_self) (by simp at hb; omega)
    have hb2 : (bif o then b ++ [x] else b).length + l.length ≤ 4096 := by cases o <;> simp at hb ⊢ <;> omega
    have q := st_text (o := o) l (bif o then b ++ [x] else b) (fun y hy => h y (List.mem_cons_of_mem _ hy)) hb2
    have := feedO_cons p q
    rw [this]
    cases o <;> simp
theorem feedO_one {s : PS} {x : Int} {y : List Ev × PS} (h : pushO s x = some y) : feedO s [x] = some y := by
  have := feedO_cons (l := []) h (rfl : feedO y.2 [] = some ([], y.2))
  rw [this, List.append_nil]
theorem st_begin {c : Int} (hc : c = 93 ∨ c = 80 ∨ c = 88 ∨ c = 94 ∨ c = 95) {t : List Int} (ht : ∀ x, x ∈ t → 32 ≤ x ∧ x ≤ 255) (hl : t.length ≤ 30) : feedO zP ([27] ++ [c] ++ t) = some ([], zT (c == 93) (bif c == 93 then t else [])) := by
  have a := feedO_append (s := zP) (feedO_one st_1) (feedO_one (st_2 hc))
  have b := feedO_append (s := zP) a (st_text (o := (c == 93)) t [] ht (by simp; omega))
  rw [b]
  cases (c == 93) <;> rfl
theorem st_bel {c : Int} (hc : c = 93 ∨ c = 80 ∨ c = 88 ∨ c = 94 ∨ c = 95) {t : List Int} (ht : ∀ x, x ∈ t → 32 ≤ x ∧ x ≤ 255) (hl : t.length ≤ 30) : feedO zP ([27] ++ [c] ++ t ++ [7] ++ [122]) = some ((bif c == 93 then [(5, 0, 0, 0, 0, [], t)] else []) ++ [prE 122], zP) := by
  have a := feedO_append (s := zP) (st_begin hc ht hl) (feedO_one (st_4 (c == 93) (bif c == 93 then t else [])))
  have b := feedO_append (s := zP) a (feed_letters [122] zP_gr (by intro x hx; simp at hx; omega))
  rw [b]
  cases (c == 93) <;> rfl
theorem st_st {c : Int} (hc : c = 93 ∨ c = 80 ∨ c = 88 ∨ c = 94 ∨ c = 95) {t : List Int} (ht : ∀ x, x ∈ t → 32 ≤ x ∧ x ≤ 255) (hl : t.length ≤ 30) : feedO zP ([27] ++ [c] ++ t ++ [27, 92] ++ [122]) = some ((bif c == 93 then [(5, 0, 0, 0, 0, [], t)] else []) ++ [prE 122], zP) := by
  have e := feedO_cons (st_5 (c == 93) (bif c == 93 then t else [])) (feedO_one (st_6 (c == 93) (bif c == 93 then t else [])))
  have a := feedO_append (s := zP) (st_begin hc ht hl) e
  have b := feedO_append (s := zP) a (feed_letters [122] zP_gr (by intro x hx; simp at hx; omega))
  rw [b]
  cases (c == 93) <;> rfl
theorem st_cut {c : Int} (hc : c = 93 ∨ c = 80 ∨ c = 88 ∨ c = 94 ∨ c = 95) {t : List Int} (ht : ∀ x, x ∈ t → 32 ≤ x ∧ x ≤ 255) (hl : t.length ≤ 30) : feedO zP ([27] ++ [c] ++ t ++ [27, 91, 53, 110]) = some ([(4, 0, 0, 0, 110, [5], [])], zP) := by
  have e := feedO_cons (st_5 (c == 93) (bif c == 93 then t else [])) (feedO_cons (st_7 (c == 93) (bif c == 93 then t else [])) (feedO_cons st_8 (feedO_one st_9)))
  have a := feedO_append (s := zP) (st_begin hc ht hl) e
  rw [a]
  rfl
theorem strings_loop {a0 : List Int} {a1 : Bool} {a2 : Int} (ha : ∀ y, y ∈ a0 → 0 ≤ y ∧ y < 256) : ∀ (n i : Nat) (t : List Int), i ≤ a0.length → i ≤ 30 → 30 - i < n → t.length = i → (∀ x, x ∈ t → 32 ≤ x ∧ x ≤ 255) →
    ∃ t' : List Int, t'.length ≤ 30 ∧ (∀ x, x ∈ t' → 32 ≤ x ∧ x ≤ 255) ∧ linguistlaw5_ParseStrings_L4 n a0 a1 a2 (Int.ofNat i) t = some (a1, a2, t') := by
  intro n
  induction n with
  | zero => intro i t h1 h2 h3; omega
  | succ n ih =>
    intro i t h1 h2 h3 h4 h5
    rw [linguistlaw5_ParseStrings_L4]
    by_cases hi : i < a0.length
    · by_cases h9 : i < 30
      · have hm := ha (a0.getD i 0) (by rw [List.getD_eq_getElem?_getD, List.getElem?_eq_getElem hi]; exact List.getElem_mem hi)
        have ew : IntKind.i64.wrap (a0.getD i 0) = a0.getD i 0 := w64 (by omega) (by omega)
        obtain ⟨y, hy, y0, y1⟩ := within_eq (a0.getD i 0) 32 255 (by omega) (by omega) (by omega) (by omega) (by omega)
        have eu : IntKind.u8.wrap y = y := by rw [IntKind.wrap_u8]; omega
        have e1 : decide (Int.ofNat i < 30) = true := decide_eq_true (by show (i : Int) < 30; omega)
        rw [ofNat_lt, decide_eq_true hi, e1, show (Int.ofNat i).toNat = i from rfl, ew, hy]
        simp only [cond_true, optK_s, Bool.and_true, eu]
        rw [show decide ((0 : Int) ≤ Int.ofNat i) = true by simp, Nat.ble_eq_true_of_le (by simp; omega)]
        simp only [cond_true, Bool.and_self]
        rw [wrap_succ (by omega)]
        exact ih (i + 1) (t ++ [y]) (by omega) (by omega) (by omega) (by simp [h4]) (fun x hx => by
          rcases List.mem_append.1 hx with q | q
          · exact h5 x q
          · rw [List.mem_singleton.1 q]; exact ⟨y0, y1⟩)
      · have e1 : decide (Int.ofNat i < 30) = false := decide_eq_false (by show ¬ (i : Int) < 30; omega)
        rw [ofNat_lt, decide_eq_true hi, e1]
        exact ⟨t, by omega, h5, rfl⟩
    · rw [ofNat_lt, decide_eq_false hi]
      exact ⟨t, by omega, h5, rfl⟩
theorem parseStrings_true (x0 : Int) (x1 : List Int) (x2 : Bool) (h0 : in64 x0) (h1 : ∀ y, y ∈ x1 → 0 ≤ y ∧ y < 256) : linguistlaw5_ParseStrings_F x0 x1 x2 = some true := by
  unfold linguistlaw5_ParseStrings_F
  obtain ⟨k, hk, k0, k1⟩ := within_eq x0 0 4 h0.1 h0.2 (by omega) (by omega) (by omega)
  rw [hk]
  simp only [optK_s]
  rw [show (decide (0 ≤ k) && decide (k < 5)) = true by simp; omega]
  simp only [cond_true, hide_eq linguistlaw5_ParseStrings_L4]
  have hc : [(93 : Int), 80, 88, 94, 95].getD k.toNat 0 = 93 ∨ [(93 : Int), 80, 88, 94, 95].getD k.toNat 0 = 80 ∨ [(93 : Int), 80, 88, 94, 95].getD k.toNat 0 = 88 ∨ [(93 : Int), 80, 88, 94, 95].getD k.toNat 0 = 94 ∨ [(93 : Int), 80, 88, 94, 95].getD k.toNat 0 = 95 := by
    have : k = 0 ∨ k = 1 ∨ k = 2 ∨ k = 3 ∨ k = 4 := by omega
    rcases this with rfl | rfl | rfl | rfl | rfl <;> decide
  generalize [(93 : Int), 80, 88, 94, 95].getD k.toNat 0 = c at hc ⊢
  obtain ⟨t, t1, t2, L⟩ := strings_loop (a1 := x2) (a2 := c) h1 (linguistlaw5_ParseStrings_fu4 x1 x2 c 0 []) 0 [] (Nat.zero_le _) (by omega) (Nat.lt_of_lt_of_le (show 30 - 0 < 5000 by omega) (Nat.le_add_left 5000 _)) rfl (fun x hx => by cases hx)
  rw [show Int.ofNat 0 = (0 : Int) from rfl] at L
  rw [L]
  simp only [optK_s]
  have n1 : (([27] ++ [c]).length + t.length).ble 274877906944 = true := Nat.ble_eq_true_of_le (by simp; omega)
  have n2 : ∀ m, m ≤ 4 → (([27] ++ [c] ++ t).length + m).ble 274877906944 = true := fun m hm => Nat.ble_eq_true_of_le (by simp; omega)
  have n3 : (([27] ++ [c] ++ t ++ [7]).length + 1).ble 274877906944 = true := Nat.ble_eq_true_of_le (by simp; omega)
  have n4 : (([27] ++ [c] ++ t ++ [27, 92]).length + 1).ble 274877906944 = true := Nat.ble_eq_true_of_le (by simp; omega)
  have f1 := feed_z (by simp; omega) (st_bel hc t2 t1) (by cases (c == 93) <;> simp)
  have f2 := feed_z (by simp; omega) (st_st hc t2 t1) (by cases (c == 93) <;> simp)
  have f3 := feed_z (by simp; omega) (st_cut hc t2 t1) (by simp)
  have e1 := events_eq ([(5, 0, 0, 0, 0, [], t)] ++ [prE 122]) (by simp) (by simp [EvOk, prE])
  have e2 := events_eq [prE 122] (by simp) (by simp [EvOk, prE])
  rw [n1, n2 1 (by omega), n2 4 (by omega), n2 2 (by omega), n3, n4, f1, f2, f3]
  simp only [optK_s, cond_true]
  have z1 : (zP.1 == 0) = true := rfl
  have z2 : hide utf_Decoder_Held_F zP.2.1 zP.2.2.1 zP.2.2.2.1 = some false := held_eq _ _ _
  rw [z1, z2]
  simp only [optK_s, cond_true, cond_false, Bool.not_false]
  cases hq : (c == 93)
  · rw [hq] at *
    simp only [cond_false, cond_true, List.nil_append]
    rw [show hide linguistkeep_Events_F [prE 122] [(1, 122, 0, 0, 0, nilI, nilI)] = some true from e2]
    cases x2 <;> rfl
  · rw [hq] at *
    simp only [cond_false, cond_true]
    rw [show hide linguistkeep_Events_F ([(5, 0, 0, 0, 0, [], t)] ++ [prE 122]) ([(5, 0, 0, 0, 0, nilI, t)] ++ [(1, 122, 0, 0, 0, nilI, nilI)]) = some true from e1]
    cases x2 <;> rfl
end Go.Proofs.YtmgchpgpgjolfaaAbs

/- What is known of letters. -/
namespace Go.Proofs.YtmgchpgpgjolfaaAbs
set_option linter.unusedVariables false
open Go Go.Proofs Go.RowKit
theorem isTrue_res : (isTrue : AV → Heap → Option Bool) = resK .bool true (fun b => some b) := by
  funext v h
  cases v <;> rfl
theorem law_res {P : Program} {E : Env} (hE : EnvOk P E) {n f : Nat} {args : List AV} {us : List Value} (e : acall (R := Bool) E n f args [] (resK .bool true (fun b => some b)) = some true) (W : World)
    (q : RelL ⟨W, fun _ => none, fun B => B < W.heap.size⟩ [] false args us) : Calls P f us.toArray W fun e W' => e = .returned (.bool true) ∧ Below W.heap.size W W' :=
  law_rows hE (by rw [isTrue_res]; exact e) W q
theorem wf_in64 {x : Int} (h : (Lit.int .i64 x).wf = true) : in64 x := by
  simp [Lit.wf, IntKind.min, IntKind.max, IntKind.bits, IntKind.signed] at h
  unfold in64; omega
theorem wf_inu8 {x : Int} (h : (Lit.int .u8 x).wf = true) : 0 ≤ x ∧ x < 256 := by
  simp [Lit.wf, IntKind.min, IntKind.max, IntKind.bits, IntKind.signed] at h
  omega
end Go.Proofs.YtmgchpgpgjolfaaAbs

/- ParseStrings, called. -/
namespace Go.Proofs.YtmgchpgpgjolfaaAbs
set_option linter.unusedVariables false
set_option maxRecDepth 100000
open Go Go.Proofs Go.RowKit
theorem parseStrings_run (x0 : Int) (x1 : List (Int)) (x2 : Bool) (w0 : (Lit.int .i64 x0).wf = true) (w1 : (List.length (α := Int) x1 ≤ 9223372036854775807 ∧ ∀ y : Int, List.Mem y x1 → ((Lit.int .u8 y).wf = true))) (w2 : True) :
    acall (R := Bool) (envC linguistlaw5_ParseStrings_pp linguistlaw5_ParseStrings_su linguistlaw5_ParseStrings_ll1 cs0 (fun _ _ => false)) 1000 6 [.int .i64 x0, .list (.one (.int .u8)) x1 false, .bool x2] [] (resK .bool true (fun b => some b)) = some true := by
  have h := linguistlaw5_ParseStrings_run x0 x1 x2 (fun b => some b)
  rw [parseStrings_true x0 x1 x2 (wf_in64 w0) (fun y hy => wf_inu8 (w1.2 y hy))] at h
  exact h
end Go.Proofs.YtmgchpgpgjolfaaAbs

/- Whatever reads as data is what the interpreter takes: rows of letters as arguments. -/
namespace Go.Proofs.YtmgchpgpgjolfaaAbs
set_option linter.unusedVariables false
open Go Go.Proofs Go.RowKit Go.ChangeShapes Go.WideShapes Go.Deep
abbrev gd (w : World) : Nat → Prop := fun B => B < w.heap.size
def OpC (P : Program) (w : World) (c : CTy) (t : TypeId) (WF : c.den → Prop) : Prop :=
  ∀ {H : Type} {enc : TypeId × Value → H} {spare : Nat → Bool} {held : Bool} {fuel : Nat} {cs : List Value} {x : DataW H × List MemPlace}, DataW.trod enc P w 0 spare held fuel t cs = some x → ∃ (a : c.den) (v : Value), cs = [v] ∧ c.rep w (gd w) a v ∧ WF a
def OpR (P : Program) (w : World) (r : Row) (t : TypeId) (WF : r.den → Prop) : Prop :=
  ∀ {H : Type} {enc : TypeId × Value → H} {spare : Nat → Bool} {held : Bool} {fuel : Nat} {cs : List Value} {x : DataW H × List MemPlace}, DataW.trod enc P w 0 spare held fuel t cs = some x → ∃ a : r.den, r.rep w (gd w) a cs ∧ WF a
section
variable {P : Program} {w : World} {t e : TypeId}
theorem OpC.int {k : IntKind} (ht : P.underlying t = some (.int k)) : OpC P w (.int k) t (fun a => (Lit.int k a).wf = true) := by
  intro H enc spare held fuel cs x h
  obtain ⟨a, rfl, _, hw⟩ := DataW.trod_int ht h
  refine ⟨a, _, rfl, ⟨rfl, ?_⟩, hw⟩
  cases k <;> first | rfl | (simp [Lit.wf, IntKind.min, IntKind.max, IntKind.bits, IntKind.signed] at hw; simp [u8ok, kindEq]; omega)
theorem OpC.bool (ht : P.underlying t = some .bool) : OpC P w .bool t (fun _ => True) := by
  intro H enc spare held fuel cs x h
  obtain ⟨a, rfl, _⟩ := DataW.trod_bool ht h
  exact ⟨a, _, rfl, rfl, trivial⟩
theorem OpC.str (ht : P.underlying t = some .string) : OpC P w .str t (fun s => ∃ b : ByteArray, bytesOf b = s ∧ b.size ≤ 9223372036854775807) := by
  intro H enc spare held fuel cs x h
  obtain ⟨a, rfl, _, hl⟩ := DataW.trod_string ht h
  refine ⟨bytesOf a, _, rfl, ⟨a, rfl, rfl⟩, a, rfl, ?_⟩
  unfold maxLen at hl
  omega
theorem cells_eq {a : Addr} {n : Nat} {cs : List Value} {c : Array Value} (h : w.cells? 0 a n = some cs) (hb : ∃ e fr, w.heap[a.block]? = some (.cells c e fr)) (hs : a.spot = none) : cs = (c.toList.drop a.off).take n := by
  obtain ⟨_, hl, hc⟩ := World.cells?_some h
  obtain ⟨e, fr, hb⟩ := hb
  apply List.ext_getElem?
  intro i
  by_cases hi : i < n
  · have h1 : w.cell? (a.add i) = c[a.off + i]? := by
      unfold World.cell? Addr.add
      by_cases h0 : i = 0
      · subst h0; simp [hb, hs]
      · simp [h0, hb]
    rw [← hc i hi, h1, List.getElem?_take_of_lt hi, List.getElem?_drop, Array.getElem?_toList]
  · rw [List.getElem?_eq_none (by omega), List.getElem?_eq_none (by simp; omega)]
theorem rows_lie {r : Row} {WF : r.den → Prop} {a : Addr} {len : Nat} (hr : 0 < r.size) (hp : 0 < len) (hx : ∀ i, i < len → ∃ (b : r.den) (cs : List Value), w.cells? 0 (a.add (i * r.size)) r.size = some cs ∧ r.rep w (gd w) b cs ∧ WF b) :
    a.spot = none ∧ a.block < w.heap.size ∧ ∃ l : List r.den, l.length = len ∧ (∀ x ∈ l, WF x) ∧ ∃ vs, RepAll (fun x cs => r.rep w (gd w) x cs) l vs ∧ Lies w a.block a.off vs := by
  obtain ⟨b0, cs0, h0, _, _⟩ := hx 0 hp
  obtain ⟨_, hl0, hc0⟩ := World.cells?_some h0
  have h00 := hc0 0 hr
  have hlt : 0 < cs0.length := by omega
  rw [List.getElem?_eq_getElem hlt] at h00
  have hbk : (∃ c e fr, w.heap[a.block]? = some (.cells c e fr)) ∧ a.spot = none := by
    have hz : (a.add (0 * r.size)).add 0 = a := by simp [Addr.add]
    rw [hz] at h00
    unfold World.cell? at h00
    split at h00
    · rename_i c e fr hb
      refine ⟨⟨c, e, fr, hb⟩, ?_⟩
      split at h00
      · cases h00
      · rename_i hn; simpa using hn
    · cases h00
  obtain ⟨⟨c, e, fr, hb⟩, hs⟩ := hbk
  have hbl : a.block < w.heap.size := (Array.getElem?_eq_some_iff.1 hb).1
  refine ⟨hs, hbl, ?_⟩
  have key : ∀ k, k ≤ len → ∃ l : List r.den, l.length = k ∧ (∀ x ∈ l, WF x) ∧ RepAll (fun x cs => r.rep w (gd w) x cs) l ((c.toList.drop a.off).take (k * r.size)) := by
    intro k
    induction k with
    | zero => intro _; exact ⟨[], rfl, (fun x hx => by cases hx), by simp [RepAll]⟩
    | succ k ih =>
      intro hk
      obtain ⟨l, hl, hw, hR⟩ := ih (by omega)
      obtain ⟨b, cs, h1, h2, h3⟩ := hx k (by omega)
      have hcs : cs = ((c.toList.drop a.off).drop (k * r.size)).take r.size := by
        have := cells_eq (c := c) h1 ⟨e, fr, by unfold Addr.add; split <;> exact hb⟩ (by unfold Addr.add; split <;> first | exact hs | rfl)
        rw [this, List.drop_drop]
        congr 2
        unfold Addr.add; split <;> simp_all
      refine ⟨l ++ [b], by simp [hl], ?_, ?_⟩
      · intro x hx'
        rcases List.mem_append.1 hx' with h | h
        · exact hw x h
        · rw [List.mem_singleton] at h; subst h; exact h3
      · have : (k + 1) * r.size = k * r.size + r.size := by rw [Nat.add_mul, Nat.one_mul]
        rw [this, List.take_add, ← hcs]
        exact RepAll.append hR ⟨cs, [], by simp, h2, rfl⟩
  obtain ⟨l, hl, hw, hR⟩ := key len (Nat.le_refl _)
  exact ⟨l, hl, hw, _, hR, c, e, fr, _, hb, (List.take_append_drop (len * r.size) _).symm⟩
theorem OpC.slice {r : Row} {WF : r.den → Prop} (ht : P.underlying t = some (.slice e)) (hr : 0 < r.size) (hc : P.cellsOf e = r.size) (he : OpR P w r e WF) : OpC P w (.slice r) t (fun l => List.length (α := r.den) l ≤ 9223372036854775807 ∧ ∀ x : r.den, List.Mem x l → WF x) := by
  intro H enc spare held fuel cs x h
  rcases open_slice ht h with ⟨rfl, _⟩ | ⟨a, len, cap, m, n, D, Pl, rfl, _, hl, hm, hmm, _, hx⟩
  · exact ⟨([] : List r.den), _, rfl, ⟨none, 0, 0, rfl, rfl, Nat.le_refl _, fun _ => rfl, Or.inl rfl⟩, by simp, fun x hx => by cases hx⟩
  · have hmle : len ≤ m := by rw [hmm]; split <;> omega
    have hmax : len ≤ 9223372036854775807 := by unfold maxLen at hm; omega
    by_cases hp : 0 < len
    · obtain ⟨hs, hb, l, hll, hw, vs, hR, hL⟩ := rows_lie (w := w) (a := a) (len := len) (WF := WF) hr hp (fun i hi => by
        obtain ⟨c, h1, h2⟩ := hx i (by omega)
        obtain ⟨b, h3, h4⟩ := he h2
        rw [hc] at h1
        exact ⟨b, c, h1, h3, h4⟩)
      refine ⟨l, _, rfl, ⟨some a, len, cap, rfl, hll.symm, hl, (fun k => by cases k), Or.inr ⟨a.block, a.off, vs, ?_, hb, hR, hL⟩⟩, by rw [hll]; exact hmax, hw⟩
      obtain ⟨B, o, s⟩ := a
      simp only at hs
      rw [hs]
    · have h0 : len = 0 := by omega
      subst h0
      exact ⟨([] : List r.den), _, rfl, ⟨some a, 0, cap, rfl, rfl, hl, (fun k => by cases k), Or.inl rfl⟩, by simp, fun x hx => by cases hx⟩
theorem OpR.one {c : CTy} {WF : c.den → Prop} (h : OpC P w c t WF) : OpR P w (.one c) t WF := by
  intro H enc spare held fuel cs x k
  obtain ⟨a, v, rfl, h1, h2⟩ := h k
  exact ⟨a, ⟨v, rfl, h1⟩, h2⟩
/-- A struct's field, out of the whole's reading. -/
theorem trod_field {H : Type} {enc : TypeId × Value → H} {spare : Nat → Bool} {held : Bool} {fuel : Nat} {cs : List Value} {x : DataW H × List MemPlace} {fs : Array Field} (ht : P.underlying t = some (.struct fs)) (h : DataW.trod enc P w 0 spare held fuel t cs = some x) :
    cs.length = P.cellsOf t ∧ ∃ n, ∀ (i : Nat) (f : Field), fs[i]? = some f → ∃ y, DataW.trod enc P w 0 spare held n f.type ((cs.drop f.offset).take (P.cellsOf f.type)) = some y := by
  obtain ⟨xs, n, _, _, hn, hl, hf⟩ := DataW.trod_struct ht h
  refine ⟨hn, n, fun i f hi => ?_⟩
  have h1 := hf i f hi
  have hlt : i < xs.length := by rw [hl]; exact (Array.getElem?_eq_some_iff.1 hi).1
  rw [List.getElem?_eq_getElem hlt] at h1
  exact ⟨_, h1⟩
end
end Go.Proofs.YtmgchpgpgjolfaaAbs
