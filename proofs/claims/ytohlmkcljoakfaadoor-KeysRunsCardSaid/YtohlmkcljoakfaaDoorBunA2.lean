/- Texts of this session, joined (bundle2.py): AbsCore12, AbsCore13, AbsCore14, AbsCore23, AbsCore25, AbsCore26, AbsCore15, AbsCore16, AbsCore24, AbsCore17, AbsCore18, AbsCore19. -/
import Derived.Lib.ConvBytes
import Derived.Lib.Builder
import Derived.Lib.UnsafeStr
import Derived.Laws.BytesArg
import Derived.Laws.BytesString
import Derived.MapKept
import Derived.DeepKeys3
import Derived.WideKeyRuns
import Derived.Laws.IdiomRangeMap
import Derived.Test.YtohlmkcljoakfaaDoorBunA1
/- Binary operations, conversions, addresses, cuts. -/
namespace Go.Proofs.YtohlmkcljoakfaaDoorAbs
set_option linter.unusedVariables false
set_option linter.unusedSimpArgs false
open Go
variable {R : Type}

def TI.eqCheck (P : Program) (t : TypeId) (ti : TI) : Bool := !ti.eqok || (eqT P 40 t ti.zero && !P.eqGuardType P.depth t)
structure TabOk (P : Program) (tab : List (TypeId × TI)) : Prop where
  ti : ∀ t ti, tyFind tab t = some ti → TI.ok P t ti
  eq : ∀ t ti, tyFind tab t = some ti → ti.eqok = true → eqT P 40 t ti.zero = true ∧ P.eqGuardType P.depth t = false
def eqTabCheck (P : Program) (tab : List (TypeId × TI)) : Bool := tab.all fun p => p.2.eqCheck P p.1
theorem tyFind_mem {tab : List (TypeId × TI)} {t : TypeId} {ti : TI} (e : tyFind tab t = some ti) : (t, ti) ∈ tab := by
  induction tab with
  | nil => simp [tyFind] at e
  | cons p l ih =>
    simp only [tyFind] at e
    cases q : Nat.beq p.1 t with
    | true =>
      rw [q] at e; simp only [cond_true] at e; injection e with e; subst e
      rw [← Nat.eq_of_beq_eq_true q]; exact List.mem_cons_self
    | false => rw [q] at e; exact List.mem_cons_of_mem _ (ih e)
theorem tabOk_of {P : Program} {tab : List (TypeId × TI)} (h1 : tabCheck P tab = true) (h2 : eqTabCheck P tab = true) : TabOk P tab where
  ti := tab_ok h1
  eq := fun t ti e q => by
    have := List.all_eq_true.1 h2 _ (tyFind_mem e)
    unfold TI.eqCheck at this
    simp only [q, Bool.not_true, Bool.false_or, Bool.and_eq_true, Bool.not_eq_true'] at this
    exact this

theorem sizeOf_cells {P : Program} {t : TypeId} {ti : TI} (k : TI.ok P t ti) : P.cellsOf t = ti.size := by
  obtain ⟨i, z, h1, h2, _⟩ := k.info
  simp [Program.cellsOf, h1, h2]

theorem str_rel {m : Mem} {h : Heap} {l : List Int} {u : Value} (q : Rel m h (.str l) u) : ∃ s, u = .string s ∧ bytesOf s = l := q

theorem equal_succ (t : TypeId) (x y : Value) : Op.equal t x y = Op.equalIn (9999 + 1) t x y := rfl
section
variable {P : Program} {w : World} {t : TypeId}
theorem eqn_ptr_nil (d : Nat) {e : TypeId} (hu : P.underlying t = some (.pointer e)) (b : Option Addr) : (Op.equalIn (d + 1) t (.pointer none) (.pointer b)).run P w = .ok b.isNone w := by
  simp [Op.equalIn, run_underlying hu]
theorem eqn_nil_ptr (d : Nat) {e : TypeId} (hu : P.underlying t = some (.pointer e)) (a : Addr) : (Op.equalIn (d + 1) t (.pointer (some a)) (.pointer none)).run P w = .ok false w := by
  simp [Op.equalIn, run_underlying hu]
theorem eqn_ptr_same (d : Nat) {e : TypeId} (hu : P.underlying t = some (.pointer e)) (hi : ∃ i, P.info? e = some i) (hs : P.cellsOf e ≠ 0) (a : Addr) : (Op.equalIn (d + 1) t (.pointer (some a)) (.pointer (some a))).run P w = .ok true w := by
  obtain ⟨i, hi⟩ := hi
  have : (sizeOf e).run P w = .ok (P.cellsOf e) w := run_sizeOf w hi
  simp [Op.equalIn, run_underlying hu, this, hs, sameAddr]
theorem eqn_slice_nil (d : Nat) {e : TypeId} (hu : P.underlying t = some (.slice e)) (b : Option Addr) (m k n c : Nat) : (Op.equalIn (d + 1) t (.slice none m k) (.slice b n c)).run P w = .ok b.isNone w := by
  simp [Op.equalIn, run_underlying hu]
theorem eqn_nil_slice (d : Nat) {e : TypeId} (hu : P.underlying t = some (.slice e)) (a : Addr) (m k n c : Nat) : (Op.equalIn (d + 1) t (.slice (some a) m k) (.slice none n c)).run P w = .ok false w := by
  simp [Op.equalIn, run_underlying hu]
end

/-- Neither operand is a number or a text. -/
structure NoNum (u w : Value) : Prop where
  int : ∀ k a j c, ¬ (u = .int k a ∧ w = .int j c)
  str : ∀ s s', ¬ (u = .string s ∧ w = .string s')
  float : ∀ k a j c, ¬ (u = .float k a ∧ w = .float j c)
  complex : ∀ k a c j d f, ¬ (u = .complex k a c ∧ w = .complex j d f)

theorem eqVal_ok {P : Program} {tab : List (TypeId × TI)} (hT : TabOk P tab) {t : TypeId} {ti : TI} (ht : tyFind tab t = some ti) {h : Heap} {x y : AV} {b : Bool} (e : eqVal tab h ti x y = some b) {m : Mem} (S : Sim m h) {u w : Value} (q : Rel m h x u) (q' : Rel m h y w) (op : BinOp) (ox oy : Operand) :
    (eqGuard op t ox oy u w).run P m.w = .ok () m.w ∧ (Op.equal t u w).run P m.w = .ok b m.w ∧ NoNum u w := by
  obtain ⟨d, hd1, hd2⟩ := (hT.ti t ti ht).desc
  unfold eqVal at e
  rw [equal_succ]
  split at e
  · rename_i hk
    injection e with e; subst e
    simp only [Rel] at q q'; subst q; subst q'
    rw [hk] at hd2
    cases d <;> simp [kindOk] at hd2
    exact ⟨eqGuard_skip (by simp) (by simp), run_equalIn_bool' m.w 9999 t _ _ hd1, by constructor <;> simp⟩
  · rename_i hk
    injection e with e; subst e
    simp only [Rel] at q q'; subst q; subst q'
    rw [hk] at hd2
    cases d <;> simp [kindOk] at hd2
    exact ⟨eqGuard_skip (by simp) (by simp), eqn_ptr_nil 9999 hd1 _, by constructor <;> simp⟩
  · rename_i id off hk
    rw [hk] at hd2
    cases d <;> simp [kindOk] at hd2
    split at e
    · rename_i cs hg
      injection e with e; subst e
      simp only [Rel] at q q'; subst q
      obtain ⟨B, hl, rfl⟩ := q'.2 _ cs hg
      exact ⟨eqGuard_skip (by simp) (by simp), eqn_ptr_nil 9999 hd1 _, by constructor <;> simp⟩
    · cases e
  · rename_i id off hk
    rw [hk] at hd2
    cases d <;> simp [kindOk] at hd2
    split at e
    · rename_i cs hg
      injection e with e; subst e
      simp only [Rel] at q q'; subst q'
      obtain ⟨B, hl, rfl⟩ := q.2 _ cs hg
      exact ⟨eqGuard_skip (by simp) (by simp), eqn_nil_ptr 9999 hd1 _, by constructor <;> simp⟩
    · cases e
  · rename_i el a i b' j hk
    rw [hk] at hd2
    cases d <;> simp [kindOk] at hd2
    split at e
    · rename_i cs te hg hte
      obtain ⟨hb, e⟩ := cond_some e
      injection e with e; subst e
      simp only [Bool.and_eq_true] at hb
      obtain ⟨⟨hb1, hb2⟩, hb3⟩ := hb
      have e1 := Nat.eq_of_beq_eq_true hb1; subst e1
      have e2 := Nat.eq_of_beq_eq_true hb2; subst e2
      simp only [Rel] at q q'
      obtain ⟨B, hl, rfl⟩ := q.2 _ cs hg
      obtain ⟨B', hl', rfl⟩ := q'.2 _ cs hg
      rw [hl] at hl'; injection hl' with hl'; injection hl' with hl'; subst hl'
      obtain ⟨ii, z, j1, j2, _⟩ := (hT.ti _ te hte).info
      have hsz := sizeOf_cells (hT.ti _ te hte)
      subst hd2
      exact ⟨eqGuard_skip (by simp) (by simp), eqn_ptr_same 9999 hd1 ⟨ii, j1⟩ (by rw [hsz]; have hb4 : 1 ≤ te.size := (by simpa [Nat.blt] using hb3); omega) _, by constructor <;> simp⟩
    · cases e
  · rename_i hk
    injection e with e; subst e
    simp only [Rel] at q q'; subst q; subst q'
    rw [hk] at hd2
    cases d <;> simp [kindOk] at hd2
    exact ⟨eqGuard_skip (by simp) (by simp), eqn_slice_nil 9999 hd1 _ _ _ _ _, by constructor <;> simp⟩
  · rename_i r l nn hk
    rw [hk] at hd2
    cases d <;> simp [kindOk] at hd2
    simp only [Rel] at q'; subst q'
    have key : (∃ a n c, u = .slice (some a) n c) → (eqGuard op t ox oy u (.slice none 0 0)).run P m.w = .ok () m.w ∧ (Op.equalIn (9999 + 1) t u (.slice none 0 0)).run P m.w = .ok false m.w ∧ NoNum u (.slice none 0 0) := fun ⟨a, n, c, hu⟩ => by
      subst hu
      exact ⟨eqGuard_skip (by simp) (by simp), eqn_nil_slice 9999 hd1 _ _ _ _ _, by constructor <;> simp⟩
    cases nn with
    | true => simp only [cond_true] at e; injection e with e; subst e; exact key (q.2 rfl)
    | false =>
      simp only [cond_false] at e
      split at e
      · injection e with e; subst e
        obtain ⟨a, n, c, rfl, hn, hc, hz, hh⟩ := q.1
        rcases hh with hh | ⟨B, o, vs, rfl, _⟩
        · cases hh
        · exact key ⟨_, _, _, rfl⟩
      · cases e
  · rename_i id hk
    rw [hk] at hd2
    cases d <;> simp [kindOk] at hd2
    simp only [Rel] at q'; subst q'
    split at e
    · rename_i r x0 l0 hg
      injection e with e; subst e
      simp only [Rel] at q
      rcases q.2 _ r _ hg with ⟨h1, _⟩ | ⟨B, o, cap, g1, rfl, g3, _⟩
      · cases h1
      · exact ⟨eqGuard_skip (by simp) (by simp), eqn_nil_slice 9999 hd1 _ _ _ _ _, by constructor <;> simp⟩
    · cases e
  · rename_i id off len hk
    rw [hk] at hd2
    cases d <;> simp [kindOk] at hd2
    simp only [Rel] at q'; subst q'
    split at e
    · rename_i r l n hg
      injection e with e; subst e
      simp only [Rel] at q
      obtain ⟨a, cap, rfl, g2, g3, g4⟩ := msl_old (q.2 _ r l hg)
      rcases g4 with g4 | ⟨B, o, g4, rfl⟩
      · cases g4
      · exact ⟨eqGuard_skip (by simp) (by simp), eqn_nil_slice 9999 hd1 _ _ _ _ _, by constructor <;> simp⟩
    · cases e
  · rename_i fs xs ys hk
    obtain ⟨hq, e⟩ := cond_some e
    obtain ⟨g1, g2⟩ := hT.eq t ti ht hq
    rw [hk] at hd2
    cases d <;> simp [kindOk] at hd2
    simp only [Rel] at q q'
    obtain ⟨vs, rfl, q⟩ := q
    obtain ⟨us, rfl, q'⟩ := q'
    have hv := eqCells_veq ti.zero xs ys e q q'
    have hl := veq_len ti.zero _ _ hv
    obtain ⟨i, z, j1, j2, j3, j4, j5, j6⟩ := (hT.ti t ti ht).info
    have hc := sizeOf_cells (hT.ti t ti ht)
    have := eqT_run 40 t ti.zero g1 (9999 + 1) (by omega) m.w vs us b (by rw [hl.1, hc, j6]) (by rw [hl.2, hc, j6]) hv
    unfold mkc at this
    rw [hd1] at this
    exact ⟨run_eqGuard_agg m.w op t ox oy _ _ g2, this, by constructor <;> simp⟩
  · rename_i n el xs ys hk
    obtain ⟨hq, e⟩ := cond_some e
    obtain ⟨g1, g2⟩ := hT.eq t ti ht hq
    rw [hk] at hd2
    cases d <;> simp [kindOk] at hd2
    simp only [Rel] at q q'
    obtain ⟨vs, rfl, q⟩ := q
    obtain ⟨us, rfl, q'⟩ := q'
    have hv := eqCells_veq ti.zero xs ys e q q'
    have hl := veq_len ti.zero _ _ hv
    obtain ⟨i, z, j1, j2, j3, j4, j5, j6⟩ := (hT.ti t ti ht).info
    have hc := sizeOf_cells (hT.ti t ti ht)
    have := eqT_run 40 t ti.zero g1 (9999 + 1) (by omega) m.w vs us b (by rw [hl.1, hc, j6]) (by rw [hl.2, hc, j6]) hv
    unfold mkc at this
    rw [hd1] at this
    exact ⟨run_eqGuard_agg m.w op t ox oy _ _ g2, this, by constructor <;> simp⟩
  · cases e

theorem binOp_eql {P : Program} {t : TypeId} {u w : Value} {b : Bool} {wd : World} (k : NoNum u w) (e : (Op.equal t u w).run P wd = .ok b wd) : (Go.binOp .eql t u w).run P wd = .ok (.bool b) wd := by
  have hb : Go.binOp .eql t u w = (do pure (.bool (← Op.equal t u w))) := by
    unfold Go.binOp
    split <;> first | rfl | (exfalso; first | exact k.int _ _ _ _ ⟨rfl, rfl⟩ | exact k.float _ _ _ _ ⟨rfl, rfl⟩ | exact k.complex _ _ _ _ _ _ ⟨rfl, rfl⟩ | exact k.str _ _ ⟨rfl, rfl⟩) | simp_all
  rw [hb]; simp [e]
theorem binOp_neq {P : Program} {t : TypeId} {u w : Value} {b : Bool} {wd : World} (k : NoNum u w) (e : (Op.equal t u w).run P wd = .ok b wd) : (Go.binOp .neq t u w).run P wd = .ok (.bool (!b)) wd := by
  have hb : Go.binOp .neq t u w = (do pure (.bool (!(← Op.equal t u w)))) := by
    unfold Go.binOp
    split <;> first | rfl | (exfalso; first | exact k.int _ _ _ _ ⟨rfl, rfl⟩ | exact k.float _ _ _ _ ⟨rfl, rfl⟩ | exact k.complex _ _ _ _ _ _ ⟨rfl, rfl⟩ | exact k.str _ _ ⟨rfl, rfl⟩) | simp_all
  rw [hb]; simp [e]

theorem str_add {P : Program} {t : TypeId} {a b : ByteArray} {w : World} (h : (bytesOf a).length + (bytesOf b).length ≤ maxAppend) : (Go.binOp .add t (.string a) (.string b)).run P w = .ok (.string (a ++ b)) w := by
  rw [bytesOf_length, bytesOf_length] at h
  unfold maxAppend at h
  simp [Go.binOp, Op.stringOp]
  omega

theorem binOpA_ok {P : Program} {E : Env} (hT : TabOk P E.tab) {h : Heap} {op : BinOp} {t : TypeId} {x y : AV} {K : AV → Option R} {res : R} (e : binOpA E h op t x y K = some res) :
    ∃ v, K v = some res ∧ ∀ (m : Mem) (u w : Value) (ox oy : Operand), Sim m h → Rel m h x u → Rel m h y w →
      ∃ cv, (do eqGuard op t ox oy u w; Go.binOp op t u w : Sem Value).run P m.w = .ok cv m.w ∧ Rel m h v cv := by
  have fin : ∀ {v : AV} {u w : Value} (m : Mem) (ox oy : Operand), (∀ a b, ¬ (u = .agg a ∧ w = .agg b)) → ¬ (u = .nilIface ∧ w = .nilIface) → Gives (Go.binOp op t u w) v → ∃ cv, (do eqGuard op t ox oy u w; Go.binOp op t u w : Sem Value).run P m.w = .ok cv m.w ∧ Rel m h v cv := fun m ox oy h1 h2 g => by
    obtain ⟨cv, g1, g2⟩ := g
    exact ⟨cv, by simp [Sem.run_bind, eqGuard_skip h1 h2, g1], g2 m h⟩
  unfold binOpA at e
  split at e
  · rename_i k a j b
    split at e
    · obtain ⟨v, e, g⟩ := shl_ok (j := j) e
      refine ⟨v, e, fun m u w ox oy S q q' => ?_⟩
      rw [q.1, q'.1]; exact fin m ox oy (by simp) (by simp) (g t)
    · obtain ⟨v, e, g⟩ := shr_ok (j := j) e
      refine ⟨v, e, fun m u w ox oy S q q' => ?_⟩
      rw [q.1, q'.1]; exact fin m ox oy (by simp) (by simp) (g t)
    · rename_i h1 h2
      obtain ⟨hk, e1⟩ := cond_some e
      have hkj := kindEq_eq hk; subst hkj
      obtain ⟨v, e2, g⟩ := intOp_ok e1 (fun q => h1 q) (fun q => h2 q)
      refine ⟨v, e2, fun m u w ox oy S q q' => ?_⟩
      rw [q.1, q'.1]; exact fin m ox oy (by simp) (by simp) (g t)
  · rename_i a b
    split at e
    · obtain ⟨hb, e⟩ := cond_some e
      have hb := Nat.le_of_ble_eq_true hb
      refine ⟨_, e, fun m u w ox oy S q q' => ?_⟩
      obtain ⟨s, rfl, rfl⟩ := str_rel q
      obtain ⟨s', rfl, rfl⟩ := str_rel q'
      refine ⟨.string (s ++ s'), ?_, s ++ s', rfl, bytesOf_append s s'⟩
      simp [Sem.run_bind, eqGuard_skip, str_add hb]
    · refine ⟨_, e, fun m u w ox oy S q q' => ?_⟩
      obtain ⟨s, rfl, rfl⟩ := str_rel q
      obtain ⟨s', rfl, rfl⟩ := str_rel q'
      rw [bytesOf_eq]
      refine fin m ox oy (by simp) (by simp) (gives_bool fun P w => by simp [Go.binOp, Op.stringOp])
    · refine ⟨_, e, fun m u w ox oy S q q' => ?_⟩
      obtain ⟨s, rfl, rfl⟩ := str_rel q
      obtain ⟨s', rfl, rfl⟩ := str_rel q'
      rw [bytesOf_eq]
      refine fin m ox oy (by simp) (by simp) (gives_bool fun P w => by simp [Go.binOp, Op.stringOp])
    · cases e
  · split at e
    · rename_i ti hti
      split at e
      · rename_i b hb
        refine ⟨_, e, fun m u w ox oy S q q' => ?_⟩
        obtain ⟨g1, g2, g3⟩ := eqVal_ok hT hti hb S q q' .eql ox oy
        exact ⟨.bool b, by simp [Sem.run_bind, g1, binOp_eql g3 g2], rfl⟩
      · cases e
    · rename_i ti hti
      split at e
      · rename_i b hb
        refine ⟨_, e, fun m u w ox oy S q q' => ?_⟩
        obtain ⟨g1, g2, g3⟩ := eqVal_ok hT hti hb S q q' .neq ox oy
        exact ⟨.bool (!b), by simp [Sem.run_bind, g1, binOp_neq g3 g2], rfl⟩
      · cases e
    · cases e

end Go.Proofs.YtohlmkcljoakfaaDoorAbs

/- Conversions, lengths, cuts, addresses. -/
namespace Go.Proofs.YtohlmkcljoakfaaDoorAbs
set_option linter.unusedVariables false
set_option linter.unusedSimpArgs false
open Go
variable {R : Type}

theorem castList_as {α : Type} {r s : Row} (e : r.same s = true) (l : List r.den) : castList e l = (Row.same_eq r s e) ▸ l := rfl

/-- A row of bytes in memory is a row of numbers. -/
theorem bytes_vals {w : World} {g : Nat → Prop} : (l : List Int) → (vs : List Value) → RepAll (fun x cs => Row.rep w g (.one (.int .u8)) x cs) l vs → vs = l.map (Value.int .u8) ∧ ∀ n ∈ l, 0 ≤ n ∧ n < 256
  | [], vs, h => by simp only [RepAll] at h; subst h; simp
  | n :: l, vs, h => by
    obtain ⟨cs, rest, rfl, h1, h2⟩ := h
    simp only [Row.rep, CTy.rep] at h1
    obtain ⟨v, rfl, rfl, h3⟩ := h1
    obtain ⟨h4, h5⟩ := bytes_vals l rest h2
    subst h4
    refine ⟨rfl, fun k hk => ?_⟩
    rcases List.mem_cons.1 hk with rfl | hk
    · simpa [u8ok, kindEq] using h3
    · exact h5 k hk
theorem bytes_back (l : List Int) (h : ∀ n ∈ l, 0 ≤ n ∧ n < 256) : bytesOf (l.foldl (fun r n => r.push (UInt8.ofNat n.toNat)) ByteArray.empty) = l := by
  rw [foldl_push_bytes]
  unfold bytesOf
  have e0 : (⟨ByteArray.empty.data ++ (l.map fun n => UInt8.ofNat n.toNat).toArray⟩ : ByteArray).data.toList = l.map fun n => UInt8.ofNat n.toNat := by
    show (ByteArray.empty.data ++ (l.map fun n => UInt8.ofNat n.toNat).toArray).toList = _
    rw [Array.toList_append, List.toList_toArray]
    rfl
  rw [e0, List.map_map]
  have : ∀ (k : List Int), (∀ n ∈ k, 0 ≤ n ∧ n < 256) → k.map (fun n => ((UInt8.ofNat n.toNat).toNat : Int)) = k := fun k hk => by
    induction k with
    | nil => rfl
    | cons n k ih =>
      simp only [List.map_cons]
      rw [ih (fun x hx => hk x (by simp [hx]))]
      have := hk n (by simp)
      congr 1
      simp
      omega
  exact this l h

theorem conv_bytes {P : Program} {m : Mem} {h : Heap} {src dst e : TypeId} (hs : P.underlying src = some (.slice e)) (he : P.underlying e = some (.int .u8)) (hd : P.underlying dst = some .string)
    {l : List Int} {u : Value} {vs : List Value} (k : Src P m (.one (.int .u8)) l u vs) (hu : ∃ a n c, u = .slice a n c) : ∃ cv, (Go.convert src dst u).run P m.w = .ok cv m.w ∧ Rel m h (.str l) cv := by
  obtain ⟨a, n, c, rfl⟩ := hu
  rw [run_convert_bytes_string m.w src dst e a n c hs he hd]
  have hb := bytes_vals l vs k.rep
  have hn : n = List.length l := by have := k.len m.w; simp [Builtin.lenOf] at this; exact this
  cases a with
  | none =>
    have h0 := k.first m.w rfl (List.length l) (Nat.le_refl _)
    simp [Builtin.firstCells] at h0
    have : l = [] := by
      have h1 := RepAll.length (fun x cs (hx : (Row.one (.int .u8)).rep m.w m.good x cs) => Row.rep_length _ x cs hx) k.rep
      simp [Row.size] at h1 h0
      rcases h0 with h0 | h0
      · exact h0
      · rw [h0] at h1; exact List.eq_nil_of_length_eq_zero h1.symm
    subst this
    exact ⟨.string .empty, by simp [Conv.bytesToString], .empty, rfl, rfl⟩
  | some a =>
    have h0 := k.first m.w rfl (List.length l) (Nat.le_refl _)
    have h1 := RepAll.length (fun x cs (hx : (Row.one (.int .u8)).rep m.w m.good x cs) => Row.rep_length _ x cs hx) k.rep
    rw [List.take_of_length_le (by rw [h1]; exact Nat.le_refl _)] at h0
    simp only [Builtin.firstCells, Row.size, Nat.mul_one] at h0
    rw [hb.1] at h0
    refine ⟨_, run_bytesToString m.w a n c l (by rw [hn]; exact h0), _, rfl, bytes_back l hb.2⟩

theorem rowsOf_slice {m : Mem} {h : Heap} {r : Row} {a : AV} {xs : List r.den} (e : rowsOf h r a = some xs) (hs : ∀ l, a ≠ .str l) {u : Value} (q : Rel m h a u) : ∃ x n c, u = .slice x n c := by
  unfold rowsOf at e
  split at e
  · obtain ⟨a, n, c, rfl, _⟩ := q.1; exact ⟨_, _, _, rfl⟩
  · simp only [Rel] at q; subst q; exact ⟨_, _, _, rfl⟩
  · simp only [Rel] at q; obtain ⟨a, rfl⟩ := q; exact ⟨_, _, _, rfl⟩
  · split at e
    · rename_i s l hg
      simp only [Rel] at q
      rcases q.2 _ s l hg with ⟨_, _, a, rfl⟩ | ⟨B, o, cap, g1, rfl, _⟩ <;> exact ⟨_, _, _, rfl⟩
    · cases e
  · split at e
    · rename_i s l hg
      simp only [Rel] at q
      obtain ⟨a, cap, rfl, _⟩ := q.2 _ s l hg
      exact ⟨_, _, _, rfl⟩
    · cases e
  · rename_i l; exact absurd rfl (hs l)
  · cases e

theorem lies_self {P : Program} {u : TypeId} {n : Nat} (hc : P.cellsOf u = n) (hn : 0 < n) : liesAt P P.depth u 1 0 u 1 = true := by
  have hd : P.depth = (2 * (P.types.size + Made.depth) + 1) + 1 := rfl
  rw [hd]
  simp only [liesAt, Bool.or_eq_true]
  left
  rw [hd]
  have : ¬ n = 0 := by omega
  simp [rowAt, hc, this, sameLayout]

theorem u8List_len : (cs : List AV) → (l : List Int) → u8List cs = some l → l.length = cs.length
  | [], l, e => by simp only [u8List] at e; injection e with e; subst e; rfl
  | c :: cs, l, e => by
    unfold u8List at e
    split at e
    · rename_i hh; cases hh
    · rename_i n cs' hh
      injection hh with h1 h2
      subst h2
      split at e
      · rename_i k hk
        injection e with e; subst e
        simp [u8List_len _ k hk]
      · cases e
    · cases e
theorem u8List_rep {m : Mem} {h : Heap} : (cs : List AV) → (l : List Int) → (vs : List Value) → u8List cs = some l → RelL m h true cs vs → RepAll (fun x cs => (Row.one (.int .u8)).rep m.w m.good x cs) l vs
  | [], l, vs, e, q => by
    simp only [u8List] at e; injection e with e; subst e
    simp only [RelL] at q; subst q; rfl
  | c :: cs, l, vs, e, q => by
    unfold u8List at e
    split at e
    · rename_i hh; cases hh
    · rename_i n cs' hh
      injection hh with h1 h2
      subst h1; subst h2
      split at e
      · rename_i k hk
        injection e with e; subst e
        simp only [RelL] at q
        obtain ⟨v, rest, rfl, q1, _, q2⟩ := q
        exact ⟨[v], rest, rfl, ⟨v, rfl, q1⟩, u8List_rep _ k rest hk q2⟩
      · cases e
    · cases e
theorem RelL.takeN {m : Mem} {h : Heap} {one : Bool} : (n : Nat) → {cs : List AV} → {vs : List Value} → RelL m h one cs vs → RelL m h one (cs.take n) (vs.take n)
  | 0, cs, vs, q => by simp [RelL]
  | n + 1, [], vs, q => by simp only [RelL] at q; subst q; simp [RelL]
  | n + 1, c :: cs, vs, q => by
    simp only [RelL] at q
    obtain ⟨v, rest, rfl, q1, q2, q3⟩ := q
    exact ⟨v, rest.take n, rfl, q1, q2, RelL.takeN n q3⟩
theorem RelL.dropN {m : Mem} {h : Heap} {one : Bool} : (n : Nat) → {cs : List AV} → {vs : List Value} → RelL m h one cs vs → RelL m h one (cs.drop n) (vs.drop n)
  | 0, cs, vs, q => q
  | n + 1, [], vs, q => by simp only [RelL] at q; subst q; simp [RelL]
  | n + 1, c :: cs, vs, q => by
    simp only [RelL] at q
    obtain ⟨v, rest, rfl, q1, q2, q3⟩ := q
    exact RelL.dropN n q3
theorem convA_ok {P : Program} {E : Env} (hT : TabOk P E.tab) {h : Heap} {src dst : TypeId} {x v : AV} (e : convA E h src dst x = some v) (m : Mem) (u : Value) (S : Sim m h) (q : Rel m h x u) :
    ∃ cv m', (Go.convert src dst u).run P m.w = .ok cv m'.w ∧ Ext m h m' h ∧ Sim m' h ∧ Rel m' h v cv := by
  unfold convA at e
  split at e
  · rename_i ts td hts htd
    obtain ⟨ds, hs1, hs2⟩ := (hT.ti _ _ hts).desc
    obtain ⟨dd, hd1, hd2⟩ := (hT.ti _ _ htd).desc
    split at e
    · rename_i k j n hk
      injection e with e; subst e
      rw [hk] at hd2
      cases dd <;> simp [kindOk] at hd2
      have := kindEq_eq hd2; subst this
      rw [q.1]
      refine ⟨_, m, ?_, Ext.refl m h, S, rfl, u8_wrap _ _⟩
      simp [Go.convert, run_underlying hs1, run_underlying hd1, Conv.intToInt]
    · rename_i l hk
      injection e with e; subst e
      rw [hk] at hd2
      cases dd <;> simp [kindOk] at hd2
      obtain ⟨s, rfl, rfl⟩ := str_rel q
      refine ⟨_, m, ?_, Ext.refl m h, S, s, rfl, rfl⟩
      simp [Go.convert, run_underlying hs1, run_underlying hd1]
    · rename_i id off len hk
      rw [hk] at hd2
      cases dd <;> simp [kindOk] at hd2
      split at e
      · rename_i el vt cs hk2 hg
        split at e
        · rename_i l hk3 hl
          injection e with e; subst e
          obtain ⟨te, hte, de, he1, he2⟩ := tyKind_ok hT.ti hk3
          cases de <;> simp [kindOk] at he2
          have := kindEq_eq he2; subst this
          rw [hk2] at hs2
          cases ds <;> simp [kindOk] at hs2
          subst hs2
          obtain ⟨B, cap, hloc, rfl, hcap, hlen⟩ := q.2 _ cs hg
          obtain ⟨B', c, h1, h2, h3⟩ := S.blk id _ hg
          rw [hloc] at h1; injection h1 with h1; injection h1 with h1; subst h1
          have hrep := u8List_rep ((cs.drop off).take len) l _ hl (RelL.takeN len (RelL.dropN off h3))
          have hn : l.length = len := by rw [u8List_len _ l hl]; simp; omega
          have hsrc : Src P m (.one (.int .u8)) l (.slice (some ⟨B, off, none⟩) (List.length l) cap) ((c.toList.drop off).take len) :=
            src_of_lies hrep (.inr ⟨B, off, rfl, c, _, (0, 0), (c.toList.drop off).drop len, h2, (List.take_append_drop _ _).symm⟩)
          rw [hn] at hsrc
          obtain ⟨cv, g1, g2⟩ := conv_bytes (h := h) hs1 he1 hd1 hsrc ⟨_, _, _, rfl⟩
          exact ⟨cv, m, g1, Ext.refl m h, S, g2⟩
        · cases e
      · cases e
    · rename_i hk hstr hvsl
      rw [hk] at hd2
      cases dd <;> simp [kindOk] at hd2
      split at e
      · rename_i el hk2
        split at e
        · rename_i hk3
          split at e
          · rename_i l hl
            injection e with e; subst e
            obtain ⟨te, hte, de, he1, he2⟩ := tyKind_ok hT.ti hk3
            cases de <;> simp [kindOk] at he2
            have := kindEq_eq he2; subst this
            rw [hk2] at hs2
            cases ds <;> simp [kindOk] at hs2
            obtain ⟨vs, hsrc⟩ := rowsOf_ok (P := P) S hl q
            subst hs2
            obtain ⟨cv, g1, g2⟩ := conv_bytes (h := h) hs1 he1 hd1 hsrc (rowsOf_slice hl (fun l' => hstr l') q)
            exact ⟨cv, m, g1, Ext.refl m h, S, g2⟩
          · cases e
        · cases e
      · cases e
    · rename_i el l hk
      split at e
      · rename_i hk3
        injection e with e; subst e
        obtain ⟨te, hte, de, he1, he2⟩ := tyKind_ok hT.ti hk3
        cases de <;> simp [kindOk] at he2
        have := kindEq_eq he2; subst this
        rw [hk] at hd2
        cases dd <;> simp [kindOk] at hd2
        subst hd2
        obtain ⟨s, rfl, rfl⟩ := str_rel q
        have hrun := Lib.run_convert_string_bytes (P := P) m.w src dst el s hs1 hd1 he1
        have p : Pushed m.w (Lib.bytesWorld m.w el s) (.cells (Lib.bytesCells m.w el s) el ((Lib.bytesCells m.w el s).size, (Lib.bytesCells m.w el s).size + 1)) := by
          refine ⟨?_, rfl, rfl, rfl⟩
          apply Array.ext_getElem?
          intro j
          by_cases hj : j < m.w.heap.size
          · rw [Lib.bytesWorld_at_old m.w el s j hj, Array.getElem?_push, if_neg (by omega)]
          · by_cases hj2 : j = m.w.heap.size
            · subst hj2; rw [Lib.bytesWorld_at_new]; simp
            · rw [Array.getElem?_eq_none (by rw [Lib.bytesWorld_size]; omega), Array.getElem?_eq_none (by simp; omega)]
        have E2 := ext_free S p
        refine ⟨_, _, hrun, E2, sim_free S p, ?_, fun _ => ⟨_, _, _, rfl⟩⟩
        refine ⟨some ⟨m.w.heap.size, 0, none⟩, s.size, _, rfl, (bytesOf_length s).symm, grownCap_ge m.w s.size 0 el, (fun k => by cases k), .inr ⟨m.w.heap.size, 0, s.data.toList.map fun b => Value.int .u8 b.toNat, rfl, .inr rfl, rep_bytes _ _ _, ?_⟩⟩
        exact ⟨_, el, _, List.replicate (grownCap m.w s.size 0 el - s.size) (.int .u8 0), p.new, by simp [Lib.bytesCells]⟩
      · cases e
    · rename_i id off hk
      split at e
      · rename_i el _ cs hk2 hg
        split at e
        · rename_i te hte
          obtain ⟨hb, e⟩ := cond_some e
          simp only [Bool.and_eq_true, Nat.blt_eq] at hb
          injection e with e; subst e
          rw [hk] at hd2; rw [hk2] at hs2
          cases dd <;> simp [kindOk] at hd2
          cases ds <;> simp [kindOk] at hs2
          subst hs2
          have q0 := q
          simp only [Rel] at q
          obtain ⟨B, hl, rfl⟩ := q.2 _ cs hg
          obtain ⟨B', c, h1, h2, h3⟩ := S.blk id _ hg
          rw [hl] at h1; injection h1 with h1; injection h1 with h1; subst h1
          obtain ⟨i, z, i1, i2, i3, _⟩ := (hT.ti _ _ hte).info
          have hlen : cs.length = c.size := by have := RelL.length h3; simpa using this
          exact ⟨_, m, Lib.run_to_unsafe m.w ⟨B, off, none⟩ hs1 hd1 i1 (by rw [i2]; omega) (by simp [World.shape?, h2]; exact ⟨rfl, rfl⟩) (by simp; omega), Ext.refl m h, S, q0⟩
        · cases e
      · cases e
    · rename_i u' id off hk
      split at e
      · rename_i vt cs hk2 hg
        split at e
        · rename_i tu htu
          obtain ⟨hb, e⟩ := cond_some e
          simp only [Bool.and_eq_true, Nat.blt_eq] at hb
          obtain ⟨b1, b2, b3, b4⟩ := hb
          have b1 := Nat.eq_of_beq_eq_true b1; have b2 := Nat.eq_of_beq_eq_true b2; have b3 := Nat.eq_of_beq_eq_true b3
          injection e with e; subst e
          subst b1; subst b2
          rw [hk] at hd2; rw [hk2] at hs2
          cases dd <;> simp [kindOk] at hd2
          cases ds <;> simp [kindOk] at hs2
          subst hd2
          have q0 := q
          simp only [Rel] at q
          obtain ⟨B, hl, rfl⟩ := q.2 _ cs hg
          obtain ⟨B', c, h1, h2, h3⟩ := S.blk id _ hg
          rw [hl] at h1; injection h1 with h1; injection h1 with h1; subst h1
          obtain ⟨i, z, i1, i2, i3, _⟩ := (hT.ti _ _ htu).info
          have hlen : cs.length = c.size := by have := RelL.length h3; simpa using this
          have hco : P.cellsOf vt = c.size := by simp [Program.cellsOf, i1]; omega
          refine ⟨_, m, Lib.run_from_unsafe m.w ⟨B, 0, none⟩ (e := vt) (cells := c.size) hs1 hd1 i1 (by simp [World.shape?, h2]) ?_, Ext.refl m h, S, q0⟩
          rw [hco, Nat.div_self (by omega)]
          exact lies_self hco (by omega)
        · cases e
      · cases e
    · cases e
  · cases e

theorem lenOf_ok {P : Program} {m : Mem} {h : Heap} {x : AV} {n : Nat} (e : lenOf h x = some n) {u : Value} (q : Rel m h x u) : (∃ a c, u = .slice a n c) ∨ (∃ s, u = .string s ∧ s.size = n ∧ ∃ l, x = .str l) := by
  unfold lenOf at e
  split at e
  · injection e with e; subst e; obtain ⟨a, n, c, rfl, rfl, _⟩ := q.1; exact .inl ⟨_, _, rfl⟩
  · injection e with e; subst e; obtain ⟨s, rfl, rfl⟩ := str_rel q; exact .inr ⟨s, rfl, (bytesOf_length s).symm, _, rfl⟩
  · injection e with e; subst e; simp only [Rel] at q; subst q; exact .inl ⟨_, _, rfl⟩
  · injection e with e; subst e; simp only [Rel] at q; obtain ⟨a, rfl⟩ := q; exact .inl ⟨_, _, rfl⟩
  · split at e
    · rename_i s l hg
      injection e with e; subst e
      simp only [Rel] at q
      rcases q.2 _ s l hg with ⟨rfl, _, a, rfl⟩ | ⟨B, o, cap, g1, rfl, _⟩ <;> exact .inl ⟨_, _, rfl⟩
    · cases e
  · split at e
    · rename_i s l hg
      injection e with e; subst e
      simp only [Rel] at q
      obtain ⟨a, cap, rfl, _⟩ := q.2 _ s l hg
      exact .inl ⟨_, _, rfl⟩
    · cases e
  · cases e

theorem max1_ok {m : Mem} {h : Heap} {x y v : AV} (e : max1 x y = some v) {u w0 : Value} (q : Rel m h x u) (q' : Rel m h y w0) : ∃ cv, (∀ P w, (Builtin.max2 u w0).run P w = .ok cv w) ∧ Rel m h v cv := by
  unfold max1 at e
  split at e
  · rename_i k a j b
    obtain ⟨hk, e1⟩ := cond_some e
    have hkj := kindEq_eq hk; subst hkj
    injection e1 with e1; subst e1
    obtain ⟨rfl, ha⟩ := q
    obtain ⟨rfl, hb⟩ := q'
    refine ⟨_, fun P w => by simp only [Builtin.max2, Sem.run_pure], rfl, ?_⟩
    split
    · exact hb
    · exact ha
  · cases e
theorem maxA_ok {m : Mem} {h : Heap} : (xs : List AV) → {x v : AV} → maxA x xs = some v → {u : Value} → {us : List Value} → Rel m h x u → RelL m h false xs us → ∃ cv, (∀ P w, (us.foldlM Builtin.max2 u : Sem Value).run P w = .ok cv w) ∧ Rel m h v cv
  | [], x, v, e, u, us, q, q' => by
    simp only [RelL] at q'; subst q'
    simp only [maxA] at e; injection e with e; subst e
    exact ⟨u, fun P w => by simp, q⟩
  | y :: xs, x, v, e, u, us, q, q' => by
    simp only [RelL] at q'
    obtain ⟨w0, rest, rfl, q1, _, q2⟩ := q'
    simp only [maxA] at e
    split at e
    · rename_i z hz
      obtain ⟨c1, g1, g2⟩ := max1_ok hz q q1
      obtain ⟨cv, g3, g4⟩ := maxA_ok xs e g2 q2
      refine ⟨cv, fun P w => ?_, g4⟩
      simp only [List.foldlM_cons, Sem.run_bind, g1, Result.andThen_ok]
      exact g3 P w
    · cases e
theorem min1_ok {m : Mem} {h : Heap} {x y v : AV} (e : min1 x y = some v) {u w0 : Value} (q : Rel m h x u) (q' : Rel m h y w0) : ∃ cv, (∀ P w, (Builtin.min2 u w0).run P w = .ok cv w) ∧ Rel m h v cv := by
  unfold min1 at e
  split at e
  · rename_i k a j b
    obtain ⟨hk, e1⟩ := cond_some e
    have hkj := kindEq_eq hk; subst hkj
    injection e1 with e1; subst e1
    obtain ⟨rfl, ha⟩ := q
    obtain ⟨rfl, hb⟩ := q'
    refine ⟨_, fun P w => by simp only [Builtin.min2, Sem.run_pure], rfl, ?_⟩
    split
    · exact hb
    · exact ha
  · cases e
theorem minA_ok {m : Mem} {h : Heap} : (xs : List AV) → {x v : AV} → minA x xs = some v → {u : Value} → {us : List Value} → Rel m h x u → RelL m h false xs us → ∃ cv, (∀ P w, (us.foldlM Builtin.min2 u : Sem Value).run P w = .ok cv w) ∧ Rel m h v cv
  | [], x, v, e, u, us, q, q' => by
    simp only [RelL] at q'; subst q'
    simp only [minA] at e; injection e with e; subst e
    exact ⟨u, fun P w => by simp, q⟩
  | y :: xs, x, v, e, u, us, q, q' => by
    simp only [RelL] at q'
    obtain ⟨w0, rest, rfl, q1, _, q2⟩ := q'
    simp only [minA] at e
    split at e
    · rename_i z hz
      obtain ⟨c1, g1, g2⟩ := min1_ok hz q q1
      obtain ⟨cv, g3, g4⟩ := minA_ok xs e g2 q2
      refine ⟨cv, fun P w => ?_, g4⟩
      simp only [List.foldlM_cons, Sem.run_bind, g1, Result.andThen_ok]
      exact g3 P w
    · cases e

end Go.Proofs.YtohlmkcljoakfaaDoorAbs

/- Cuts, places of elements and fields. -/
namespace Go.Proofs.YtohlmkcljoakfaaDoorAbs
set_option linter.unusedVariables false
set_option linter.unusedSimpArgs false
open Go
variable {R : Type}

/-- A bound as the model has it. -/
def BndIs (a : Option Int) (v : Option Value) : Prop := (a = none ∧ v = none) ∨ ∃ k n, a = some n ∧ v = some (.int k n)

theorem bounds_run {P : Program} {w : World} {b : Bool} {lo hi : Option Int} {n cap : Nat} {olo ohi : Option Value} (h : bnds lo hi n = true) (hc : n ≤ cap) (ql : BndIs lo olo) (qh : BndIs hi ohi) :
    (Instr.sliceBounds b n cap olo ohi none).run P w = .ok ((lo.getD 0).toNat, (hi.getD n).toNat, cap) w ∧ (lo.getD 0).toNat ≤ (hi.getD n).toNat ∧ (hi.getD n).toNat ≤ n := by
  rcases ql with ⟨rfl, rfl⟩ | ⟨k, x, rfl, rfl⟩ <;> rcases qh with ⟨rfl, rfl⟩ | ⟨k', y, rfl, rfl⟩
  · simp [Instr.sliceBounds]
  · simp only [bnds, Bool.and_eq_true, decide_eq_true_eq] at h
    have h1 : 0 ≤ y ∧ y ≤ (cap : Int) := ⟨h.1, by omega⟩
    refine ⟨by simp [Instr.sliceBounds, Instr.sliceBound, asIntOf, h1], by simp, by simp; omega⟩
  · simp only [bnds, Bool.and_eq_true, decide_eq_true_eq] at h
    have h1 : 0 ≤ x ∧ x ≤ (n : Int) := ⟨h.1, by omega⟩
    refine ⟨by simp [Instr.sliceBounds, Instr.sliceBound, asIntOf, h1], by simp; omega, by simp⟩
  · simp only [bnds, Bool.and_eq_true, decide_eq_true_eq] at h
    have h1 : 0 ≤ y ∧ y ≤ (cap : Int) := ⟨h.1.1, by omega⟩
    have h2 : 0 ≤ x ∧ x ≤ (y.toNat : Int) := ⟨h.2.1, by omega⟩
    refine ⟨?_, by simp; omega, by simp; omega⟩
    have h2' : 0 ≤ x ∧ x ≤ max y 0 := by omega
    simp [Instr.sliceBounds, Instr.sliceBound, asIntOf, h1, h2, h2']

theorem cutList_eq {α : Type} (l : List α) (lo hi : Option Int) : cutList l lo hi = (l.take (hi.getD l.length).toNat).drop (lo.getD 0).toNat := by
  cases lo <;> cases hi <;> simp [cutList]

theorem sliceAt_run {P : Program} {w : World} {t el : TypeId} {sz : Nat} (hu : P.underlying t = some (.slice el)) (hs : (sizeOf el).run P w = .ok sz w) {lo hi : Option Int} {n cap : Nat} {a : Option Addr} {olo ohi : Option Value}
    (h : bnds lo hi n = true) (hc : n ≤ cap) (ql : BndIs lo olo) (qh : BndIs hi ohi) :
    (Instr.sliceAt t (.slice a n cap) olo ohi none).run P w = .ok (.slice (if cap = (lo.getD 0).toNat then a else a.map (·.add ((lo.getD 0).toNat * sz))) ((hi.getD n).toNat - (lo.getD 0).toNat) (cap - (lo.getD 0).toNat)) w := by
  have hb := (bounds_run (P := P) (w := w) (b := true) h hc ql qh).1
  simp [Instr.sliceAt, run_underlying hu, Instr.slice, hb, hs]

theorem sliceA_ok {P : Program} {t el : TypeId} (hu : P.underlying t = some (.slice el)) {sz : Nat} (hs : ∀ w, (sizeOf el).run P w = .ok sz w) {h : Heap} {x : AV} {lo hi : Option Int} {K : AV → Option R} {res : R} (e : sliceA h sz x lo hi K = some res) :
    ∃ v, K v = some res ∧ ∀ (m : Mem) (u : Value) (olo ohi : Option Value), Sim m h → Rel m h x u → BndIs lo olo → BndIs hi ohi → ∃ cv, (Instr.sliceAt t u olo ohi none).run P m.w = .ok cv m.w ∧ Rel m h v cv := by
  unfold sliceA at e
  split at e
  · rename_i r l nn
    obtain ⟨hb, e⟩ := cond_some e
    simp only [Bool.and_eq_true] at hb
    have hsz := Nat.eq_of_beq_eq_true hb.2
    refine ⟨_, e, fun m u olo ohi S q ql qh => ?_⟩
    obtain ⟨a, n, cap, rfl, rfl, hcap, hz, hh⟩ := q.1
    have hrun := sliceAt_run hu (hs m.w) (a := a) hb.1 hcap ql qh
    have hbd := (bounds_run (P := P) (w := m.w) (b := true) hb.1 hcap ql qh).2
    refine ⟨_, hrun, ?_, fun k => by cases k⟩
    rw [cutList_eq]
    have hlen : ((l.take (hi.getD l.length).toNat).drop (lo.getD 0).toNat).length = (hi.getD l.length).toNat - (lo.getD 0).toNat := by simp; omega
    refine ⟨_, _, _, rfl, hlen.symm, by omega, (fun k => ?_), ?_⟩
    · have : a = none := by
        split at k
        · exact k
        · cases a with
          | none => rfl
          | some a => cases k
      have := hz this
      omega
    rcases hh with rfl | ⟨B, o, vs, rfl, hB, hr, hl⟩
    · exact .inl (List.eq_nil_of_length_eq_zero (by rw [hlen]; have h7 := hbd.2; simp only [List.length_nil] at h7 ⊢; omega))
    · by_cases h0 : (hi.getD l.length).toNat - (lo.getD 0).toNat = 0
      · exact .inl (List.eq_nil_of_length_eq_zero (by rw [hlen]; exact h0))
      · have hn := fun x cs (hx : r.rep m.w m.good x cs) => Row.rep_length r x cs hx
        refine .inr ⟨B, o + (lo.getD 0).toNat * r.size, _, ?_, hB, RepAll.drop hn _ (RepAll.take hn _ hr), (hl.take _).drop _⟩
        rw [if_neg (by omega), ← hsz]; simp [addr_add]
  · rename_i id
    split at e
    · rename_i r l hg
      obtain ⟨hz, e⟩ := cond_some e
      have hsz := Nat.eq_of_beq_eq_true hz
      have gen : ∀ (m : Mem) (u : Value) (olo ohi : Option Value), bnds lo hi l.length = true → Sim m h → Rel m h (.own id) u → BndIs lo olo → BndIs hi ohi → ∃ cv, (Instr.sliceAt t u olo ohi none).run P m.w = .ok cv m.w ∧ Rel m h (.msl id (lo.getD 0).toNat ((hi.getD l.length).toNat - (lo.getD 0).toNat)) cv := fun m u olo ohi hb S q ql qh => by
        simp only [Rel] at q
        rcases q.2 _ r l hg with ⟨rfl, hl, a, rfl⟩ | ⟨B, o, cap, hl, rfl, hcap, ty', n', hsh, hle⟩
        · have hrun := sliceAt_run hu (hs m.w) (a := a) (n := 0) (cap := 0) hb (Nat.le_refl _) ql qh
          have hbd := (bounds_run (P := P) (w := m.w) (b := true) (n := 0) (cap := 0) hb (Nat.le_refl _) ql qh).2
          refine ⟨_, hrun, ?_⟩
          simp only [Rel]
          refine ⟨⟨q.1.1, rfl⟩, fun et' s k e2 => ?_⟩
          rw [hg] at e2; injection e2 with e2; injection e2 with e0 e3 e4; subst e0; subst e3; have := eq_of_heq e4; subst this
          exact ⟨_, _, rfl, by simp at hbd ⊢; omega, by simp at hbd ⊢; omega, by simp, .inl (by omega)⟩
        · have hrun := sliceAt_run hu (hs m.w) (a := some ⟨B, o, none⟩) hb hcap ql qh
          have hbd := (bounds_run (P := P) (w := m.w) (b := true) hb hcap ql qh).2
          refine ⟨_, hrun, ?_⟩
          simp only [Rel]
          refine ⟨⟨q.1.1, rfl⟩, fun et' s k e2 => ?_⟩
          rw [hg] at e2; injection e2 with e2; injection e2 with e0 e3 e4; subst e0; subst e3; have := eq_of_heq e4; subst this
          refine ⟨_, _, rfl, by omega, by omega, by omega, ?_⟩
          by_cases h0 : cap - (lo.getD 0).toNat = 0
          · exact .inl h0
          · refine .inr ⟨B, o, hl, ?_⟩
            rw [if_neg (by omega), ← hsz]; simp [addr_add]
      split at e
      · refine ⟨_, e, fun m u olo ohi S q ql qh => ?_⟩
        rcases ql with ⟨_, rfl⟩ | ⟨k, n, hh, _⟩
        · rcases qh with ⟨_, rfl⟩ | ⟨k, n, hh, _⟩
          · have q0 := q
            simp only [Rel] at q
            rcases q.2 _ r l hg with ⟨rfl, hl, a, rfl⟩ | ⟨B, o, cap, hl, rfl, hcap, ty', n', hsh, hle⟩
            · have hrun := sliceAt_run (lo := none) (hi := none) hu (hs m.w) (a := a) (n := 0) (cap := 0) rfl (Nat.le_refl _) (.inl ⟨rfl, rfl⟩) (.inl ⟨rfl, rfl⟩)
              exact ⟨_, hrun, by simpa using q0⟩
            · have hrun := sliceAt_run (lo := none) (hi := none) hu (hs m.w) (a := some ⟨B, o, none⟩) (n := List.length l) (cap := cap) rfl hcap (.inl ⟨rfl, rfl⟩) (.inl ⟨rfl, rfl⟩)
              refine ⟨_, hrun, ?_⟩
              have : (if cap = 0 then some (⟨B, o, none⟩ : Addr) else some ⟨B, o, none⟩) = some ⟨B, o, none⟩ := by split <;> rfl
              simpa [addr_add, this] using q0
          · cases hh
        · cases hh
      · obtain ⟨hb, e⟩ := cond_some e
        exact ⟨_, e, fun m u olo ohi S q ql qh => gen m u olo ohi hb S q ql qh⟩
    · cases e
  · rename_i id off len
    split at e
    · rename_i r l hg
      obtain ⟨hb, e⟩ := cond_some e
      simp only [Bool.and_eq_true] at hb
      have hsz := Nat.eq_of_beq_eq_true hb.2
      refine ⟨_, e, fun m u olo ohi S q ql qh => ?_⟩
      simp only [Rel] at q
      obtain ⟨a, cap, rfl, g2, g3, g5, g4⟩ := q.2 _ r l hg
      have hrun := sliceAt_run hu (hs m.w) (a := a) hb.1 g2 ql qh
      have hbd := (bounds_run (P := P) (w := m.w) (b := true) hb.1 g2 ql qh).2
      refine ⟨_, hrun, ?_⟩
      simp only [Rel]
      refine ⟨⟨q.1.1, rfl⟩, fun et' s k e2 => ?_⟩
      rw [hg] at e2; injection e2 with e2; injection e2 with e0 e3 e4; subst e0; subst e3; have := eq_of_heq e4; subst this
      refine ⟨_, _, rfl, by omega, by omega, by omega, ?_⟩
      by_cases h0 : cap - (lo.getD 0).toNat = 0
      · exact .inl h0
      · rcases g4 with g4 | ⟨B, o, g4, rfl⟩
        · exact .inl (by omega)
        · refine .inr ⟨B, o, g4, ?_⟩
          rw [if_neg (by omega), ← hsz]
          simp [addr_add, Nat.add_mul, Nat.add_assoc]
    · cases e
  · obtain ⟨hb, e⟩ := cond_some e
    refine ⟨_, e, fun m u olo ohi S q ql qh => ?_⟩
    simp only [Rel] at q; subst q
    have hrun := sliceAt_run hu (hs m.w) (a := none) (n := 0) (cap := 0) hb (Nat.le_refl _) ql qh
    have hbd := (bounds_run (P := P) (w := m.w) (b := true) (n := 0) (cap := 0) hb (Nat.le_refl _) ql qh).2
    refine ⟨_, hrun, ?_⟩
    simp only [Rel]
    have h1 : (lo.getD 0).toNat = 0 := by omega
    have h2 : (hi.getD ((0 : Nat) : Int)).toNat = 0 := by omega
    rw [h1, h2]; rfl
  · cases e

theorem arrU8_ok {P : Program} {tab : List (TypeId × TI)} (hT : ∀ t ti, tyFind tab t = some ti → TI.ok P t ti) {t : TypeId} {n : Nat} (e : arrU8 tab t = some n) :
    ∃ el, P.underlying t = some (.array n el) ∧ ∀ w, (sizeOf el).run P w = .ok 1 w := by
  unfold arrU8 at e
  split at e
  · rename_i n' el hk hz
    injection e with e; subst e
    obtain ⟨ti, _, d, hd1, hd2⟩ := tyKind_ok hT hk
    cases d <;> simp [kindOk] at hd2
    obtain ⟨h1, h2⟩ := hd2
    subst h1; subst h2
    refine ⟨_, hd1, fun w => ?_⟩
    unfold elemSize0 at hz
    rw [hk] at hz
    simp only at hz
    split at hz
    · rename_i te hk2 hte
      injection hz with hz
      have := (hT _ _ hte).size_run w
      rw [hz] at this
      exact this
    · cases hz
  · cases e
theorem sliceV_ok {P : Program} {t el : TypeId} {n : Nat} (ha : P.underlying t = some (.array n el)) (hs : ∀ w, (sizeOf el).run P w = .ok 1 w) {h : Heap} {x : AV} {lo hi : Option Int} {K : AV → Option R} {res : R} (e : sliceV h n x lo hi K = some res) :
    ∃ v, K v = some res ∧ ∀ (m : Mem) (u : Value) (olo ohi : Option Value), Sim m h → Rel m h x u → BndIs lo olo → BndIs hi ohi → ∃ cv, (Instr.sliceAt t u olo ohi none).run P m.w = .ok cv m.w ∧ Rel m h v cv := by
  unfold sliceV at e
  split at e
  · rename_i id off
    split at e
    · rename_i vt cs hg
      obtain ⟨hb, e⟩ := cond_some e
      simp only [Bool.and_eq_true] at hb
      obtain ⟨hb, hl, hf⟩ := hb
      have hl : (lo.getD 0).toNat < n := by simpa using hl
      have hf := Nat.le_of_ble_eq_true hf
      refine ⟨_, e, fun m u olo ohi S q ql qh => ?_⟩
      simp only [Rel] at q
      obtain ⟨B, hloc, rfl⟩ := q.2 vt cs hg
      have hbr := bounds_run (P := P) (w := m.w) (b := false) hb (Nat.le_refl _) ql qh
      refine ⟨.slice (some ⟨B, off + (lo.getD 0).toNat, none⟩) ((hi.getD n).toNat - (lo.getD 0).toNat) (n - (lo.getD 0).toNat), ?_, ?_⟩
      · have hne : ¬ n = (lo.getD 0).toNat := by omega
        simp [Instr.sliceAt, run_underlying ha, Instr.sureAddr, hbr.1, hs, hne, addr_add]
      · simp only [Rel]
        refine ⟨⟨q.1.1, rfl⟩, fun vt' cs' e2 => ?_⟩
        rw [hg] at e2; injection e2 with e2; injection e2 with e3 e4; subst e3; subst e4
        exact ⟨B, _, hloc, rfl, by omega, by omega⟩
    · cases e
  · cases e

theorem pickIx_ok {i : Int} {K : Nat → Option R} {res : R} : (n j : Nat) → pickIx i K n j = some res → ∃ k, j ≤ k ∧ k < j + n ∧ i = (k : Int) ∧ K k = some res
  | 0, j, e => by simp [pickIx] at e
  | n + 1, j, e => by
    simp only [pickIx] at e
    cases hb : (i == (j : Int)) with
    | true => rw [hb] at e; simp only [cond_true] at e; exact ⟨j, Nat.le_refl _, by omega, by simpa using hb, e⟩
    | false =>
      rw [hb] at e; simp only [cond_false] at e
      obtain ⟨k, h1, h2, h3, h4⟩ := pickIx_ok n (j + 1) e
      exact ⟨k, by omega, by omega, h3, h4⟩

theorem elemSize_slice {P : Program} {tab : List (TypeId × TI)} (hT : ∀ t ti, tyFind tab t = some ti → TI.ok P t ti) {t el : TypeId} {sz : Nat} (hk : tyKind tab t = some (.slice el)) (he : elemSize tab t = some sz) :
    P.underlying t = some (.slice el) ∧ ∀ w, (sizeOf el).run P w = .ok sz w := by
  unfold elemSize at he
  rw [hk] at he
  simp only at he
  split at he
  · rename_i te hte
    injection he with he; subst he
    obtain ⟨ti, _, d, hd1, hd2⟩ := tyKind_ok hT hk
    cases d <;> simp [kindOk] at hd2
    subst hd2
    exact ⟨hd1, fun w => (hT _ _ hte).size_run w⟩
  · cases he
theorem elemSize_arr {P : Program} {tab : List (TypeId × TI)} (hT : ∀ t ti, tyFind tab t = some ti → TI.ok P t ti) {t el : TypeId} {n sz : Nat} (hk : tyKind tab t = some (.arr n el)) (he : elemSize tab t = some sz) :
    P.underlying t = some (.array n el) ∧ ∀ w, (sizeOf el).run P w = .ok sz w := by
  unfold elemSize at he
  rw [hk] at he
  simp only at he
  split at he
  · rename_i te hte
    injection he with he; subst he
    obtain ⟨ti, _, d, hd1, hd2⟩ := tyKind_ok hT hk
    cases d <;> simp [kindOk] at hd2
    obtain ⟨h1, h2⟩ := hd2
    subst h1; subst h2
    exact ⟨hd1, fun w => (hT _ _ hte).size_run w⟩
  · cases he

theorem idx_slice_run {P : Program} {w : World} {t el : TypeId} {sz : Nat} (hu : P.underlying t = some (.slice el)) (hs : (sizeOf el).run P w = .ok sz w) {k : IntKind} {i : Int} {B o n cap : Nat} (h0 : 0 ≤ i) (h1 : i < n) :
    (Instr.indexAt t (.slice (some ⟨B, o, none⟩) n cap) (.int k i)).run P w = .ok (.pointer (some ⟨B, o + i.toNat * sz, none⟩)) w := by
  simp [Instr.indexAt, asIntOf, run_underlying hu, h0, h1, hs, addr_add]
theorem idx_arr_run {P : Program} {w : World} {t el : TypeId} {n sz : Nat} (hu : P.underlying t = some (.array n el)) (hs : (sizeOf el).run P w = .ok sz w) {k : IntKind} {j : Nat} {B o : Nat} (h1 : j < n) :
    (Instr.indexAt t (.pointer (some ⟨B, o, none⟩)) (.int k (j : Int))).run P w = .ok (.pointer (some ⟨B, o + j * sz, none⟩)) w := by
  have h2 : (0 : Int) ≤ (j : Int) ∧ (j : Int) < (n : Int) := by omega
  simp [Instr.indexAt, asIntOf, run_underlying hu, Instr.sureAddr, h1, hs, addr_add]

theorem idxAddr_ok {P : Program} {E : Env} (hT : TabOk P E.tab) {h : Heap} {t : TypeId} {x : AV} {i : Int} {K : AV → Option R} {res : R} (e : idxAddr E h t x i K = some res) :
    ∃ v, K v = some res ∧ ∀ (m : Mem) (u : Value) (k : IntKind), Sim m h → Rel m h x u → ∃ cv, (Instr.indexAt t u (.int k i)).run P m.w = .ok cv m.w ∧ Rel m h v cv := by
  unfold idxAddr at e
  split at e
  · rename_i el sz hk he
    obtain ⟨hu, hs⟩ := elemSize_slice hT.ti hk he
    split at e
    · rename_i r l nn
      obtain ⟨hb, e⟩ := cond_some e
      simp only [Bool.and_eq_true, decide_eq_true_eq] at hb
      obtain ⟨⟨h0, h1⟩, h2⟩ := hb
      have hsz := Nat.eq_of_beq_eq_true h2
      refine ⟨_, e, fun m u k S q => ?_⟩
      obtain ⟨a, n, cap, rfl, rfl, hcap, hz, hh⟩ := q.1
      rcases hh with rfl | ⟨B, o, vs, rfl, hB, hr, hl⟩
      · exact absurd h1 (by simp; omega)
      · refine ⟨_, idx_slice_run hu (hs m.w) h0 h1, ?_⟩
        have hlt : i.toNat < List.length l := by omega
        have hn := fun x cs (hx : r.rep m.w m.good x cs) => Row.rep_length r x cs hx
        have hrow := RepAll.get hn i.toNat hr hlt
        have eg : l.getD i.toNat r.dflt = l[i.toNat] := by simp [List.getD, List.getElem?_eq_getElem hlt]
        rw [eg]
        refine ⟨B, o + i.toNat * sz, _, rfl, hB, Row.avs_rel r _ _ hrow, ?_⟩
        rw [← hsz]
        exact (hl.drop _).take _
    · rename_i id
      split at e
      · rename_i r l hg
        obtain ⟨hb, e⟩ := cond_some e
        simp only [Bool.and_eq_true, decide_eq_true_eq] at hb
        obtain ⟨⟨h0, h1⟩, h2⟩ := hb
        have hsz := Nat.eq_of_beq_eq_true h2
        refine ⟨_, e, fun m u k S q => ?_⟩
        simp only [Rel] at q
        rcases q.2 _ r l hg with ⟨rfl, hl, a, rfl⟩ | ⟨B, o, cap, hl, rfl, hcap, ty', n', hsh, hle⟩
        · exact absurd h1 (by simp; omega)
        · refine ⟨_, idx_slice_run hu (hs m.w) h0 h1, ?_⟩
          simp only [Rel]
          refine ⟨⟨q.1.1, rfl⟩, fun et' s k e2 => ?_⟩
          rw [hg] at e2; injection e2 with e2; injection e2 with e0 e3 e4; subst e0; subst e3; have := eq_of_heq e4; subst this
          exact ⟨B, o, hl, by rw [hsz]; rfl, by omega⟩
      · cases e
    · rename_i id off len
      split at e
      · rename_i r l hg
        obtain ⟨hb, e⟩ := cond_some e
        simp only [Bool.and_eq_true, decide_eq_true_eq] at hb
        obtain ⟨⟨h0, h1⟩, h2⟩ := hb
        have hsz := Nat.eq_of_beq_eq_true h2
        refine ⟨_, e, fun m u k S q => ?_⟩
        simp only [Rel] at q
        obtain ⟨a, cap, rfl, g2, g3, g4⟩ := msl_old (q.2 _ r l hg)
        rcases g4 with g4 | ⟨B, o, g4, rfl⟩
        · omega
        · refine ⟨_, idx_slice_run hu (hs m.w) h0 h1, ?_⟩
          simp only [Rel]
          refine ⟨⟨q.1.1, rfl⟩, fun et' s k e2 => ?_⟩
          rw [hg] at e2; injection e2 with e2; injection e2 with e0 e3 e4; subst e0; subst e3; have := eq_of_heq e4; subst this
          exact ⟨B, o, g4, by rw [← hsz, Nat.add_mul]; simp [Nat.add_assoc], by omega⟩
      · cases e
    · cases e
  · rename_i n el sz hk he
    obtain ⟨hu, hs⟩ := elemSize_arr hT.ti hk he
    split at e
    · rename_i id off
      split at e
      · rename_i cs hg
        obtain ⟨j, _, hj, hij, e2⟩ := pickIx_ok _ _ e
        subst hij
        refine ⟨_, e2, fun m u k S q => ?_⟩
        simp only [Rel] at q
        obtain ⟨B, hl, rfl⟩ := q.2 _ cs hg
        refine ⟨_, idx_arr_run hu (hs m.w) (by omega), ?_⟩
        simp only [Rel]
        refine ⟨⟨q.1.1, rfl⟩, fun _ cs' e3 => ⟨B, hl, rfl⟩⟩
      · cases e
    · rename_i id ix off
      split at e
      · rename_i r l hg
        obtain ⟨j, _, hj, hij, e2⟩ := pickIx_ok _ _ e
        subst hij
        refine ⟨_, e2, fun m u k S q => ?_⟩
        simp only [Rel] at q
        obtain ⟨B, o, hl, rfl, hix⟩ := q.2 _ r l hg
        refine ⟨_, idx_arr_run hu (hs m.w) (by omega), ?_⟩
        simp only [Rel]
        refine ⟨⟨q.1.1, rfl⟩, fun et' s k e3 => ?_⟩
        rw [hg] at e3; injection e3 with e3; injection e3 with e0 e4 e5; subst e0; subst e4; have := eq_of_heq e5; subst this
        exact ⟨B, o, hl, by simp [Nat.add_assoc], hix⟩
      · cases e
    · rename_i cs
      obtain ⟨j, _, hj, hij, e2⟩ := pickIx_ok _ _ e
      subst hij
      refine ⟨_, e2, fun m u k S q => ?_⟩
      simp only [Rel] at q
      obtain ⟨B, o, vs, rfl, h2, h3, h4⟩ := q
      refine ⟨_, idx_arr_run hu (hs m.w) (by omega), B, _, _, rfl, h2, RelL.drop _ h3, h4.drop _⟩
    · cases e
  · cases e

theorem pairsEq_get : (a b : List (Nat × TypeId)) → pairsEq a b = true → a = b
  | [], [], _ => rfl
  | [], _ :: _, h => by simp [pairsEq] at h
  | _ :: _, [], h => by simp [pairsEq] at h
  | (x, y) :: a, (z, w) :: b, h => by
    simp only [pairsEq, Bool.and_eq_true] at h
    rw [Nat.eq_of_beq_eq_true h.1.1, Nat.eq_of_beq_eq_true h.1.2, pairsEq_get a b h.2]

theorem field_get {P : Program} {tab : List (TypeId × TI)} (hT : ∀ t ti, tyFind tab t = some ti → TI.ok P t ti) {s : TypeId} {fs : List (Nat × TypeId)} (hk : tyKind tab s = some (.struct fs)) {f o : Nat} {u : TypeId} (hf : fs[f]? = some (o, u)) :
    ∃ gs fd, P.underlying s = some (.struct gs) ∧ gs[f]? = some fd ∧ fd.offset = o ∧ fd.type = u := by
  obtain ⟨ti, _, d, hd1, hd2⟩ := tyKind_ok hT hk
  cases d <;> simp [kindOk] at hd2
  rename_i gs
  have := pairsEq_get _ _ hd2
  subst this
  simp only [List.getElem?_map, Array.getElem?_toList, Option.map_eq_some_iff] at hf
  obtain ⟨fd, h1, h2⟩ := hf
  injection h2 with h2 h3
  exact ⟨gs, fd, hd1, h1, h2, h3⟩

theorem field_run {P : Program} {w : World} {s : TypeId} {gs : Array Field} {fd : Field} {f o : Nat} {tu : TI} (hu : P.underlying s = some (.struct gs)) (hf : gs[f]? = some fd) (ho : fd.offset = o) (ht : TI.ok P fd.type tu) (h0 : tu.size ≠ 0) {B b : Nat} :
    (Instr.fieldAt s (.pointer (some ⟨B, b, none⟩)) f).run P w = .ok (.pointer (some ⟨B, b + o, none⟩)) w := by
  have := ht.size_run w
  simp [Instr.fieldAt, run_underlying hu, hf, Instr.sureAddr, Go.fieldPlace, this, h0, addr_add, ho]

theorem fldAddr_ok {P : Program} {E : Env} (hT : TabOk P E.tab) {h : Heap} {s : TypeId} {x v : AV} {f : Nat} (e : fldAddr E h s x f = some v) {m : Mem} {u : Value} (S : Sim m h) (q : Rel m h x u) :
    ∃ cv, (Instr.fieldAt s u f).run P m.w = .ok cv m.w ∧ Rel m h v cv := by
  unfold fldAddr at e
  split at e
  · rename_i fs hk
    split at e
    · rename_i o ut hf
      split at e
      · rename_i tu htu
        obtain ⟨hz, e⟩ := cond_none e
        have h0 : tu.size ≠ 0 := fun q => by rw [q] at hz; cases hz
        obtain ⟨gs, fd, g1, g2, g3, g4⟩ := field_get hT.ti hk hf
        subst g4
        have hok := hT.ti _ _ htu
        split at e
        · rename_i id off
          split at e
          · rename_i cs hg
            injection e with e; subst e
            simp only [Rel] at q
            obtain ⟨B, hl, rfl⟩ := q.2 _ cs hg
            refine ⟨_, field_run g1 g2 g3 hok h0, ?_⟩
            simp only [Rel]
            exact ⟨⟨q.1.1, rfl⟩, fun _ _ _ => ⟨B, hl, rfl⟩⟩
          · cases e
        · rename_i id ix j
          split at e
          · rename_i r l hg
            injection e with e; subst e
            simp only [Rel] at q
            obtain ⟨B, o', hl, rfl, hix⟩ := q.2 _ r l hg
            refine ⟨_, field_run g1 g2 g3 hok h0, ?_⟩
            simp only [Rel]
            refine ⟨⟨q.1.1, rfl⟩, fun et' s k e3 => ?_⟩
            rw [hg] at e3; injection e3 with e3; injection e3 with e0 e4 e5; subst e0; subst e4; have := eq_of_heq e5; subst this
            exact ⟨B, o', hl, by simp [Nat.add_assoc], hix⟩
          · cases e
        · rename_i cs
          injection e with e; subst e
          simp only [Rel] at q
          obtain ⟨B, b, vs, rfl, h2, h3, h4⟩ := q
          exact ⟨_, field_run g1 g2 g3 hok h0, B, _, _, rfl, h2, RelL.drop _ h3, h4.drop _⟩
        · cases e
      · cases e
    · cases e
  · cases e

end Go.Proofs.YtohlmkcljoakfaaDoorAbs

/- Bytes seen as a string. -/
namespace Go.Proofs.YtohlmkcljoakfaaDoorAbs
set_option linter.unusedVariables false
set_option linter.unusedSimpArgs false
open Go

/-- A block is let go and what lies in it turns. -/
theorem ext_killw {m : Mem} {h : Heap} (S : Sim m h) {w' : World} {id : Nat} {b : Blk} {B o : Nat} (e : hget h id = some b) (hl : m.loc id = some (B, o)) (wr : Wrote m.w w' B) :
    Ext m h ⟨w', m.loc, m.good⟩ (hset h id none) where
  os := wr.os
  tape := wr.tape
  output := wr.output
  size := by show m.w.heap.size ≤ w'.heap.size; rw [wr.size]; omega
  keep := fun B' hB hn => by
    have hne : B' ≠ B := fun q => hn ⟨id, b, o, e, by rw [q]; exact hl⟩
    exact ⟨wr.other B' hne, fun ⟨i, b1, o1, e1, l1⟩ => hn ⟨i, b1, o1, (kill_get e1).2, l1⟩⟩
  good := fun _ k => k
  back := fun _ k => .inl k
  len := by rw [hlen_hset]; exact Nat.le_refl _
  dead := fun i hi e1 => by rw [hget_hset]; split; rfl; exact e1
  live := fun i b1 b2 e1 e2 => by
    obtain ⟨k1, k2⟩ := kill_get e2
    rw [e1] at k2; injection k2 with k2; subst k2
    refine ⟨rfl, Blk.like_refl _, fun B' o' l => ?_⟩
    by_cases hB : B' = B
    · subst hB; exact wr.shape
    · exact shape_of_heap (wr.other B' hB)
theorem sim_killw {m : Mem} {h : Heap} (S : Sim m h) {w' : World} {id : Nat} {b : Blk} {B o : Nat} (e : hget h id = some b) (hl : m.loc id = some (B, o)) (wr : Wrote m.w w' B) : Sim ⟨w', m.loc, m.good⟩ (hset h id none) := by
  refine S.of_ext (ext_killw S e hl wr) (fun i b1 e1 => .inl ⟨(kill_get e1).2, fun B' o' l => ?_⟩) (fun i j b1 b2 B o1 o2 e1 e2 l1 l2 => S.inj i j b1 b2 B o1 o2 (kill_get e1).2 (kill_get e2).2 l1 l2)
    (fun i b B o e1 l => S.sep i b B o (kill_get e1).2 l) (fun B' k => ?_)
  · refine wr.other B' (fun q => ?_)
    subst q
    exact (kill_get e1).1 (S.inj i id b1 b B' o' o (kill_get e1).2 e l hl)
  · show B' < w'.heap.size
    rw [wr.size]; exact S.lt B' k

theorem wrote_freeze {w : World} {B : Nat} (o n : Nat) : Wrote w (w.freeze ⟨B, o, none⟩ n) B := by
  unfold World.freeze
  split
  · exact ⟨fun _ _ => rfl, rfl, rfl, rfl, rfl, rfl⟩
  · refine ⟨fun k hk => ?_, by simp, ?_, rfl, rfl, rfl⟩
    · simp only [Array.getElem?_modify]
      rw [if_neg (fun q => hk q.symm)]
    · simp only [World.shape?, Array.getElem?_modify, if_true]
      cases w.heap[B]? with
      | none => rfl
      | some x => cases x <;> rfl

theorem lies_bytes {P : Program} {e : TypeId} (hc : P.cellsOf e = 1) (count off n : Nat) (hn : off + n ≤ count) : liesAt P P.depth e count off e n = true := by
  have hd : P.depth = (2 * (P.types.size + Made.depth) + 1) + 1 := rfl
  rw [hd]
  simp only [liesAt, Bool.or_eq_true]
  left
  rw [hd]
  simp [rowAt, hc, hn, sameLayout, Nat.mod_one]

theorem unsafeString_run {P : Program} {w : World} {pt it ty e : TypeId} (hp : P.underlying pt = some (.pointer e)) (hc : P.cellsOf e = 1) {B o cells : Nat} (hsh : w.shape? B = some (e, cells)) {l : List UInt8} (h0 : l ≠ []) (hn : o + l.length ≤ cells) (h63 : l.length ≤ 274877906944)
    (hcell : ∀ j x, l[j]? = some x → w.cell? ((⟨B, o, none⟩ : Addr).add j) = some (.int .u8 x.toNat)) :
    (Builtin.unsafeString_ #[pt, it] ty #[.pointer (some ⟨B, o, none⟩), .int .i64 l.length]).run P w = .ok (.string ⟨l.toArray⟩) (w.freeze ⟨B, o, none⟩ l.length) := by
  have hl : l.length ≠ 0 := by simpa using h0
  have hlb := Lib.run_loadBytes (P := P) w l ⟨B, o, none⟩ .empty hcell
  have hlies := lies_bytes (P := P) hc (cells / P.cellsOf e) o l.length (by rw [hc]; simpa using hn)
  have h63' : ¬ (9223372036854775807 : Int) < (l.length : Int) := by omega
  have hdef : Builtin.unsafeString_ #[pt, it] ty #[.pointer (some ⟨B, o, none⟩), .int .i64 l.length] =
      (do
        let n ← asInt (.int .i64 l.length)
        if n < 0 then runtimePanic (.error "unsafe.String: len out of range")
        if n > IntKind.i64.max then unsupported (.unsafePointer "String: a length above the largest int")
        if n = 0 then pure (.string .empty)
        else if ← variablesAt ⟨B, o, none⟩ (← elemOf pt) n.toNat then do
          let s ← loadBytes ⟨B, o, none⟩ .empty n.toNat
          freeze ⟨B, o, none⟩ n.toNat
          pure (.string s)
        else unsupported (.unsafePointer "String: not so many bytes at ptr")) := rfl
  rw [hdef]
  have hmax : IntKind.i64.max = 9223372036854775807 := rfl
  have hneg : ¬ (l.length : Int) < 0 := by omega
  simp [asInt, asIntOf, hmax, h63', hneg, hl, variablesAt, hsh, elemOf, run_underlying hp, hlies, hlb]

theorem sliceData_own {P : Program} {ts : Array TypeId} {ty : TypeId} {m : Mem} {h : Heap} {id : Nat} {et : TypeId} {r : Row} {x : r.den} {l : List r.den} (hg : hget h id = some (.arr et r (x :: l))) {u : Value} (q : Rel m h (.own id) u) :
    ∃ cv, (Builtin.unsafeSliceData_ ts ty #[u]).run P m.w = .ok cv m.w ∧ Rel m h (.eptr id 0 0) cv := by
  simp only [Rel] at q
  rcases q.2 _ r (x :: l) hg with ⟨h0, _⟩ | ⟨B, o, cap, hl, rfl, hcap, _⟩
  · cases h0
  · simp only [List.length_cons] at hcap
    refine ⟨_, Lib.run_unsafeSliceData_row m.w ts ty _ _ cap (by omega), ?_⟩
    simp only [Rel]
    refine ⟨⟨q.1.1, rfl⟩, fun et' s k e2 => ?_⟩
    rw [hg] at e2; injection e2 with e2; injection e2 with e0 e3 e4; subst e0; subst e3; have := eq_of_heq e4; subst this
    exact ⟨B, o, hl, by simp, by simp⟩

theorem unsafeString_own {P : Program} {tab : List (TypeId × TI)} (hT : ∀ t ti, tyFind tab t = some ti → TI.ok P t ti) {p it ty et : TypeId} {te : TI} (hk : P.underlying p = some (.pointer et)) (hte : tyFind tab et = some te) (hs : te.size = 1) {m : Mem} {h : Heap} (S : Sim m h) {id : Nat} {l : List Int}
    (hg : hget h id = some (.arr et (.one (.int .u8)) l)) (h0 : 0 < List.length l) (hm : List.length l ≤ maxAppend) {u : Value} (q : Rel m h (.eptr id 0 0) u) :
    ∃ cv m', (Builtin.unsafeString_ #[p, it] ty #[u, .int .i64 (List.length l : Int)]).run P m.w = .ok cv m'.w ∧ Ext m h m' (hset h id none) ∧ Sim m' (hset h id none) ∧ Rel m' (hset h id none) (.str l) cv := by
  simp only [Rel] at q
  obtain ⟨B, o, hl, rfl, hix⟩ := q.2 _ (.one (.int .u8)) l hg
  obtain ⟨c, vs, t, k1, k2, k3, k4⟩ := arr_lies (S.blk id _ hg) hl
  obtain ⟨hv, hb⟩ := bytes_vals l vs k4
  obtain ⟨i, z, i1, i2, _⟩ := (hT _ _ hte).info
  have hco : P.cellsOf et = 1 := by simp [Program.cellsOf, i1]; omega
  let bs : List UInt8 := l.map fun n => UInt8.ofNat n.toNat
  have hbl : bs.length = l.length := by simp [bs]
  have hback : ∀ n : Int, 0 ≤ n ∧ n < 256 → ((UInt8.ofNat n.toNat).toNat : Int) = n := fun n hn => by simp; omega
  have hlen : vs.length + t.length = c.size - o := by have := congrArg List.length k3; simp at this; omega
  have hvl : vs.length = l.length := by rw [hv]; simp
  have hcell : ∀ j x, bs[j]? = some x → m.w.cell? ((⟨B, o, none⟩ : Addr).add j) = some (.int .u8 x.toNat) := fun j x hx => by
    obtain ⟨hj, hx⟩ := List.getElem?_eq_some_iff.1 hx
    have hj' : j < l.length := by omega
    have h1 : (c.toList.drop o)[j]? = some (.int .u8 l[j]) := by
      rw [k3, hv, List.getElem?_append_left (by simpa using hj')]
      simp [hj']
    have h2 : c[o + j]? = some (.int .u8 l[j]) := by simpa using h1
    have h3 : (x.toNat : Int) = l[j] := by
      rw [← hx]
      simp only [bs, List.getElem_map]
      exact hback _ (hb _ (List.getElem_mem hj'))
    rw [h3]
    have e1 : ((⟨B, o, none⟩ : Addr).add j) = ⟨B, o + j, none⟩ := by
      unfold Addr.add
      by_cases hz : j = 0
      · subst hz; simp
      · simp [hz]
    rw [e1]
    simp [World.cell?, k1, h2]
  have hrun := unsafeString_run (P := P) (w := m.w) (pt := p) (it := it) (ty := ty) hk hco (B := B) (o := o) (cells := c.size) (by simp [World.shape?, k1]) (l := bs) (by intro hz; rw [hz] at hbl; simp at hbl; omega) (by rw [hbl]; omega) (by rw [hbl]; exact hm) hcell
  rw [hbl] at hrun
  have wr := wrote_freeze (w := m.w) (B := B) o l.length
  refine ⟨_, ⟨_, m.loc, m.good⟩, by simpa [Row.size] using hrun, ext_killw S hg hl wr, sim_killw S hg hl wr, _, rfl, ?_⟩
  show bs.map (fun b => ((b.toNat : Nat) : Int)) = l
  have : ∀ (k : List Int), (∀ n ∈ k, 0 ≤ n ∧ n < 256) → (k.map fun n => UInt8.ofNat n.toNat).map (fun b => ((b.toNat : Nat) : Int)) = k := fun k hk => by
    induction k with
    | nil => rfl
    | cons n k ih =>
      simp only [List.map_cons]
      rw [ih (fun x hx => hk x (by simp [hx])), hback n (hk n (by simp))]
  exact this l hb

end Go.Proofs.YtohlmkcljoakfaaDoorAbs

/- A literal of bytes that is converted to its own type: its row is marked, and frozen. -/
namespace Go.Proofs.YtohlmkcljoakfaaDoorAbs
set_option linter.unusedVariables false
set_option linter.unusedSimpArgs false
open Go

/-- A block is let go, what lies in it turns, and it is frozen. -/
theorem ext_frzw {m : Mem} {h : Heap} (S : Sim m h) {w' : World} {id : Nat} {b : Blk} {B o : Nat} (e : hget h id = some b) (hl : m.loc id = some (B, o)) (wr : Wrote m.w w' B) :
    Ext m h ⟨w', m.loc, fun k => m.good k ∨ k = B⟩ (hset h id none) :=
  let E := ext_killw S e hl wr
  { os := E.os, tape := E.tape, output := E.output, size := E.size, keep := fun B' hB hn => ⟨(E.keep B' hB hn).1, fun ⟨i, b1, o1, e1, l1⟩ => (E.keep B' hB hn).2 ⟨i, b1, o1, e1, l1⟩⟩,
    good := fun _ k => .inl k, back := fun B' k => by
      rcases k with k | k
      · exact .inl k
      · subst k; exact .inr (.inl ⟨id, b, o, e, hl⟩)
    len := E.len, dead := E.dead, live := E.live }
theorem sim_frzw {m : Mem} {h : Heap} (S : Sim m h) {w' : World} {id : Nat} {b : Blk} {B o : Nat} (e : hget h id = some b) (hl : m.loc id = some (B, o)) (wr : Wrote m.w w' B) : Sim ⟨w', m.loc, fun k => m.good k ∨ k = B⟩ (hset h id none) := by
  refine S.of_ext (ext_frzw S e hl wr) (fun i b1 e1 => .inl ⟨(kill_get e1).2, fun B' o' l => ?_⟩) (fun i j b1 b2 B o1 o2 e1 e2 l1 l2 => S.inj i j b1 b2 B o1 o2 (kill_get e1).2 (kill_get e2).2 l1 l2)
    (fun i b1 B1 o1 e1 l1 k => ?_) (fun B' k => ?_)
  · refine wr.other B' (fun q => ?_)
    subst q
    exact (kill_get e1).1 (S.inj i id b1 b B' o' o (kill_get e1).2 e l hl)
  · rcases k with k | k
    · exact S.sep i b1 B1 o1 (kill_get e1).2 l1 k
    · subst k; exact (kill_get e1).1 (S.inj i id b1 b B1 o1 o (kill_get e1).2 e l1 hl)
  · show B' < w'.heap.size
    rw [wr.size]
    rcases k with k | k
    · exact S.lt B' k
    · subst k; exact (S.blk id b e).lt hl

theorem run_mark {P : Program} {w : World} {t e : TypeId} (ht : P.underlying t = some (.slice e)) (he : P.underlying e = some (.int .u8)) {B o n c k : Nat} {et : TypeId} (hs : w.shape? B = some (et, k)) :
    (Go.convert t t (.slice (some ⟨B, o, none⟩) n c)).run P w = .ok (.slice (some ⟨B, o, none⟩) n c) (w.freeze ⟨B, k, none⟩ 1) := by
  simp [Go.convert, run_underlying ht, run_underlying he, markStringish, hs]

theorem convS_beq {E : Env} {h : Heap} {src dst : TypeId} {x : AV} {r : AV × Heap} (e : convS E h src dst x = some r) : Nat.beq src dst = true := by
  unfold convS at e
  split at e
  · exact (cond_some e).1
  · cases e
theorem convS_ok {P : Program} {E : Env} (hT : TabOk P E.tab) {h : Heap} {src dst : TypeId} {x : AV} {rr : AV × Heap} (e : convS E h src dst x = some rr) (m : Mem) (u : Value) (S : Sim m h) (q : Rel m h x u) :
    Nat.beq src dst = true ∧ ∃ cv m', (Go.convert src dst u).run P m.w = .ok cv m'.w ∧ Ext m h m' rr.2 ∧ Sim m' rr.2 ∧ Rel m' rr.2 rr.1 cv := by
  unfold convS at e
  split at e
  · rename_i id
    have hb := (cond_some e).1
    refine ⟨hb, ?_⟩
    simp only [hb, cond_true] at e
    have := Nat.eq_of_beq_eq_true hb
    subst this
    clear hb
    split at e
    · rename_i el hk
      split at e
      · rename_i et r y l hk2 hg
        obtain ⟨hr, e⟩ := cond_some e
        injection e with e; subst e
        obtain ⟨ti, hti, d, hd1, hd2⟩ := tyKind_ok hT.ti hk
        obtain ⟨te, hte, de, he1, he2⟩ := tyKind_ok hT.ti hk2
        cases de <;> simp [kindOk] at he2
        have := kindEq_eq he2; subst this
        cases d <;> simp [kindOk] at hd2
        subst hd2
        have hrr := Row.same_eq _ _ hr
        subst hrr
        simp only [Rel] at q
        rcases q.2 _ _ _ hg with ⟨h1, _⟩ | ⟨B, o, cap, hl, rfl, hcap, _⟩
        · cases h1
        · obtain ⟨c, us, t', h2, h3, h4, h5⟩ := arr_lies (S.blk id _ hg) hl
          have hs : m.w.shape? B = some (et, c.size) := by simp [World.shape?, h2]
          have wr := wrote_freeze (w := m.w) (B := B) c.size 1
          refine ⟨_, ⟨_, m.loc, fun k => m.good k ∨ k = B⟩, run_mark hd1 he1 hs, ext_frzw S hg hl wr, sim_frzw S hg hl wr, ?_, fun _ => ⟨_, _, _, rfl⟩⟩
          refine ⟨some ⟨B, o, none⟩, (y :: l).length, cap, rfl, rfl, hcap, (fun k => by cases k), .inr ⟨B, o, us, rfl, .inr rfl, RepAll.mono (fun x cs k => ?_) h5, ?_⟩⟩
          · simp only [Row.rep, CTy.rep] at k ⊢; exact k
          · refine ⟨c, et, (c.size, c.size + 1), t', ?_, h4⟩
            simp only [World.freeze, Nat.one_ne_zero, if_false]
            rw [Array.getElem?_modify, if_pos rfl, h2]
            simp
      · cases e
    · cases e
  · cases e

end Go.Proofs.YtohlmkcljoakfaaDoorAbs

/- Maps: made, put into, looked up; keys of one cell. -/
namespace Go.Proofs.YtohlmkcljoakfaaDoorAbs
set_option linter.unusedVariables false
set_option linter.unusedSimpArgs false
open Go Go.MapKept

theorem strEqB0_eq : (a b : List Int) → (strEqB0 a b = true ↔ a = b)
  | [], [] => by simp [strEqB0]
  | [], _ :: _ => by simp [strEqB0]
  | _ :: _, [] => by simp [strEqB0]
  | x :: l, y :: k => by simp [strEqB0, strEqB0_eq l k]

theorem bytesOf_inj {s t : ByteArray} (h : bytesOf s = bytesOf t) : s = t := by
  have h1 := bytesOf_eq s t
  rw [h] at h1
  simp only [beq_self_eq_true] at h1
  have h2 : s.toList = t.toList := by simpa using h1.symm
  rw [toList_data, toList_data] at h2
  have h3 := Array.toList_inj.1 h2
  cases s; cases t; simp at h3; rw [h3]

theorem mapTy_ok {P : Program} {E : Env} (hT : TabOk P E.tab) {t kt et : TypeId} (e : mapTy E t = some (kt, et)) : P.underlying t = some (.map kt et) := by
  unfold mapTy at e
  split at e
  · rename_i k el hk
    injection e with e; injection e with e1 e2; subst e1; subst e2
    obtain ⟨ti, _, d, hd1, hd2⟩ := tyKind_ok hT.ti hk
    cases d <;> simp [kindOk] at hd2
    obtain ⟨rfl, rfl⟩ := hd2
    exact hd1
  · cases e

theorem keyOk_ok {P : Program} {E : Env} (hT : TabOk P E.tab) {c : CTy} {kt : TypeId} (e : keyOk E c kt = true) :
    ∃ d, P.underlying kt = some d ∧ ∀ (w : World) (g : Nat → Prop) (x : c.den) (v : Value), c.rep w g x v → IsKey d v := by
  unfold keyOk at e
  split at e
  · rename_i k hk
    obtain ⟨ti, _, d, hd1, hd2⟩ := tyKind_ok hT.ti hk
    refine ⟨d, hd1, fun w g x v q => ?_⟩
    cases c <;> cases k <;> simp [keyKind] at e <;> cases d <;> simp [kindOk] at hd2
    · rw [q.1]; have := kindEq_eq e; have h2 := kindEq_eq hd2; subst this; subst h2; rfl
    · simp only [CTy.rep] at q; rw [q]; trivial
    · obtain ⟨s, rfl, _⟩ := q; trivial
  · cases e

theorem keyEq_ok {w : World} {g : Nat → Prop} : (c : CTy) → {d : TypeDesc} → (x y : c.den) → (u v : Value) → c.rep w g x u → c.rep w g y v → IsKey d u → (keyEq c x y = true ↔ v = u)
  | .int k, d, x, y, u, v, q, r, hk => by
    simp only [CTy.rep] at q r
    rw [q.1, r.1]
    simp only [keyEq, intEqB0, decide_eq_true_eq]
    exact ⟨fun h => by rw [h], fun h => by injection h with _ h; exact h.symm⟩
  | .bool, d, x, y, u, v, q, r, hk => by
    simp only [CTy.rep] at q r
    rw [q, r]
    cases x <;> cases y <;> simp [keyEq]
  | .str, d, x, y, u, v, q, r, hk => by
    simp only [CTy.rep] at q r
    obtain ⟨s, rfl, rfl⟩ := q
    obtain ⟨t, rfl, rfl⟩ := r
    simp only [keyEq, strEqB0_eq]
    exact ⟨fun h => by rw [bytesOf_inj h], fun h => by injection h with h; rw [h]⟩
  | .slice r0, d, x, y, u, v, q, r, hk => by
    simp only [CTy.rep] at q
    obtain ⟨a, n, c, rfl, _⟩ := q
    cases d <;> exact hk.elim

section
variable {w : World} {g : Nat → Prop} {c ce : CTy} {d : TypeDesc}

theorem entKey {x : (Row.one c).den × ce.den} {e : MapEntry} (q : EntRep w g false (.one c) ce x e) : c.rep w g x.1 e.key := by
  obtain ⟨⟨⟨v, h1, h2⟩, h3⟩, _⟩ := q
  simp only [AggIs] at h3
  rw [h3] at h1
  simp at h1
  rw [h1]; exact h2

theorem find_ok (hd : ∀ (x : c.den) (v : Value), c.rep w g x v → IsKey d v) {k : c.den} {key : Value} (hk : c.rep w g k key) :
    (es : List (c.den × ce.den)) → (l : List MapEntry) → (n i : Nat) → EntAll (EntRep w g false (.one c) ce) es l n →
    (Instr.findNow d key l i = some none ∧ getE c k es = none ∧ EntAll (EntRep w g false (.one c) ce) es l n) ∨
    ∃ j e y, Instr.findNow d key l i = some (some (i + j, e.val)) ∧ l[j]? = some e ∧ e.key = key ∧ getE c k es = some y ∧ ce.rep w g y e.val
  | [], l, n, i, q => by
    simp only [EntAll] at q; subst q
    exact .inl ⟨rfl, rfl, rfl⟩
  | (k0, y0) :: es, l, n, i, q => by
    have q0 := q
    simp only [EntAll] at q
    obtain ⟨e, rest, rfl, h1, h2, h3⟩ := q
    have hke := entKey h1
    obtain ⟨r, hr, hiff⟩ := sameNow_of_keys (hd k key hk) (hd k0 e.key hke)
    have hq := keyEq_ok c k k0 key e.key hk hke (hd k key hk)
    cases r with
    | true =>
      have he : e.key = key := (hiff.1 rfl).symm
      refine .inr ⟨0, e, y0, by simp [Instr.findNow, hr], rfl, he, ?_, h1.2⟩
      simp only [getE, hq.2 he, cond_true]
    | false =>
      have hne : ¬ e.key = key := fun k => by have := hiff.2 k.symm; cases this
      have hf : keyEq c k k0 = false := by
        cases hb : keyEq c k k0 with
        | true => exact absurd (hq.1 hb) hne
        | false => rfl
      rcases find_ok hd hk es rest (n + 1) (i + 1) h3 with ⟨g1, g2, g3⟩ | ⟨j, e', y, g1, g2, g3, g4, g5⟩
      · exact .inl ⟨by simp [Instr.findNow, hr, g1], by simp only [getE, hf, cond_false, g2], q0⟩
      · refine .inr ⟨j + 1, e', y, by simp [Instr.findNow, hr, g1]; omega, by simpa using g2, g3, by simp only [getE, hf, cond_false, g4], g5⟩

/-- A key that isn't there comes last. -/
theorem put_new (hd : ∀ (x : c.den) (v : Value), c.rep w g x v → IsKey d v) {k : c.den} {key : Value} (hk : c.rep w g k key) {y : ce.den} {v : Value} (hv : ce.rep w g y v) (hone : key.cells = #[key]) :
    (es : List (c.den × ce.den)) → (l : List MapEntry) → (n : Nat) → EntAll (EntRep w g false (.one c) ce) es l n → getE c k es = none →
    EntAll (EntRep w g false (.one c) ce) (putE c k y es) (l ++ [⟨key, v, n + l.length⟩]) n
  | [], l, n, q, _ => by
    simp only [EntAll] at q; subst q
    refine ⟨_, _, rfl, ⟨⟨⟨key, by simp [hone], hk⟩, hone⟩, hv⟩, by simp, rfl⟩
  | (k0, y0) :: es, l, n, q, hg => by
    simp only [EntAll] at q
    obtain ⟨e, rest, rfl, h1, h2, h3⟩ := q
    simp only [getE] at hg
    cases hf : keyEq c k k0 with
    | true => rw [hf] at hg; cases hg
    | false =>
      rw [hf] at hg; simp only [cond_false] at hg
      simp only [putE, hf, cond_false, List.cons_append]
      refine ⟨e, _, rfl, h1, h2, ?_⟩
      have := put_new hd hk hv hone es rest (n + 1) h3 hg
      rw [List.length_cons, show n + (rest.length + 1) = n + 1 + rest.length by omega]
      exact this

/-- A key that is there gets the value. -/
theorem put_old (hd : ∀ (x : c.den) (v : Value), c.rep w g x v → IsKey d v) {k : c.den} {key : Value} (hk : c.rep w g k key) {y : ce.den} {v : Value} (hv : ce.rep w g y v) :
    (es : List (c.den × ce.den)) → (l : List MapEntry) → (n i j : Nat) → (x : Value) → EntAll (EntRep w g false (.one c) ce) es l n → Instr.findNow d key l i = some (some (i + j, x)) →
    EntAll (EntRep w g false (.one c) ce) (putE c k y es) (l.modify j fun e => { e with key := key, val := v }) n
  | [], l, n, i, j, x, q, hf => by
    simp only [EntAll] at q; subst q
    simp [Instr.findNow] at hf
  | (k0, y0) :: es, l, n, i, j, x, q, hfn => by
    simp only [EntAll] at q
    obtain ⟨e, rest, rfl, h1, h2, h3⟩ := q
    have hke := entKey h1
    obtain ⟨r, hr, hiff⟩ := sameNow_of_keys (hd k key hk) (hd k0 e.key hke)
    have hq := keyEq_ok c k k0 key e.key hk hke (hd k key hk)
    cases r with
    | true =>
      have he : e.key = key := (hiff.1 rfl).symm
      simp only [Instr.findNow, hr] at hfn
      injection hfn with hfn; injection hfn with hfn; injection hfn with hfn _
      have : j = 0 := by omega
      subst this
      simp only [putE, hq.2 he, cond_true, List.modify_zero_cons]
      exact ⟨_, _, rfl, ⟨by rw [← he]; exact h1.1, hv⟩, h2, h3⟩
    | false =>
      have hne : ¬ e.key = key := fun k => by have := hiff.2 k.symm; cases this
      have hf : keyEq c k k0 = false := by
        cases hb : keyEq c k k0 with
        | true => exact absurd (hq.1 hb) hne
        | false => rfl
      simp only [Instr.findNow, hr] at hfn
      have hj : ∃ j', j = j' + 1 := by
        cases j with
        | succ j' => exact ⟨j', rfl⟩
        | zero =>
          exfalso
          rcases find_ok hd hk es rest (n + 1) (i + 1) h3 with ⟨g1, _⟩ | ⟨j, e', y, g1, _⟩
          · rw [g1] at hfn; cases hfn
          · rw [g1] at hfn; injection hfn with hfn; injection hfn with hfn; injection hfn with hfn _; omega
      obtain ⟨j', rfl⟩ := hj
      simp only [putE, hf, cond_false, List.modify_succ_cons]
      refine ⟨e, _, rfl, h1, h2, put_old hd hk hv es rest (n + 1) (i + 1) j' x h3 ?_⟩
      rw [hfn]; congr 3; omega
end

theorem lookup_run {P : Program} {w : World} {t kt et : TypeId} {d : TypeDesc} {B : Nat} {es : Array MapEntry} {key z : Value} (hm : P.underlying t = some (.map kt et)) (hd : P.underlying kt = some d) (hb : w.heap[B]? = some (.map es es.size))
    (hk : IsKey d key) (ok : Bool) :
    (∀ p, Instr.findNow d key es.toList 0 = some (some p) → (Instr.lookup t (.map (some B)) key ok).run P w = .ok (if ok then .tuple #[p.2, .bool true] else p.2) w) ∧
    (Instr.findNow d key es.toList 0 = some none → (zeroValue et).run P w = .ok z w → (Instr.lookup t (.map (some B)) key ok).run P w = .ok (if ok then .tuple #[z, .bool false] else z) w) := by
  constructor
  · intro p h1
    cases ok <;> simp [Instr.lookup, run_underlying hm, MapKept.run_getObj_map hb, MapKept.run_checkKey hd hk, MapKept.run_findKey hd h1, Result.andThen]
  · intro h1 hz
    cases ok <;> simp [Instr.lookup, run_underlying hm, MapKept.run_getObj_map hb, MapKept.run_checkKey hd hk, MapKept.run_findKey hd h1, hz, Result.andThen]

theorem Rel.mapv_at {m : Mem} {h : Heap} (S : Sim m h) {id : Nat} {ka : Bool} {rk : Row} {c : CTy} {es : List (rk.den × c.den)} (hg : hget h id = some (.map ka rk c es)) {u : Value} (q : Rel m h (.mapv id) u) :
    ∃ B mes, m.loc id = some (B, 0) ∧ u = .map (some B) ∧ m.w.heap[B]? = some (.map mes mes.size) ∧ EntAll (EntRep m.w m.good ka rk c) es mes.toList 0 := by
  simp only [Rel] at q
  obtain ⟨B, hl, rfl⟩ := q.2 ka rk c es hg
  obtain ⟨B', mes, h1, h2, h3⟩ := S.blk id _ hg
  rw [hl] at h1; injection h1 with h1; injection h1 with h1; subst h1
  exact ⟨B, mes, hl, rfl, h2, h3⟩

theorem lookupA0_ok {P : Program} {E : Env} (hT : TabOk P E.tab) {h : Heap} {t : TypeId} {x i v : AV} {ok : Bool} (e : lookupA0 E h t x i ok = some v) (m : Mem) (S : Sim m h) {u ui : Value} (q : Rel m h x u) (qi : Rel m h i ui) :
    ∃ cv, (Instr.lookup t u ui ok).run P m.w = .ok cv m.w ∧ Rel m h v cv := by
  unfold lookupA0 at e
  split at e
  · rename_i id
    split at e
    · rename_i c ce es kt et hg hmt
      obtain ⟨hko, e⟩ := cond_some e
      split at e
      · rename_i k hk
        have hm := mapTy_ok hT hmt
        obtain ⟨d, hd, hkey⟩ := keyOk_ok hT hko
        obtain ⟨B, mes, hl, rfl, hb, hE⟩ := q.mapv_at S hg
        have hrep := CTy.of_rel c i k ui hk qi
        have hik := hkey m.w m.good k ui hrep
        rcases find_ok (fun x v q => hkey m.w m.good x v q) hrep es mes.toList 0 0 hE with ⟨g1, g2, _⟩ | ⟨j, e0, y, g1, g2, g3, g4, g5⟩
        · rw [g2] at e
          simp only at e
          split at e
          · rename_i te hte
            have fin : ∀ z, te.isAgg = false → te.zero = [z] → some (bif ok then AV.tup [z, .bool false] else z) = some v → ∃ cv, (Instr.lookup t (.map (some B)) ui ok).run P m.w = .ok cv m.w ∧ Rel m h v cv := by
              intro z ha hz e
              injection e with e; subst e
              have tk := hT.ti _ _ hte
              obtain ⟨i0, z0, i1, i2, i3, i4, i5, i6⟩ := tk.info
              have hpl := tk.plain ha i0 z0 i1 i4
              rw [hz, hpl] at i5
              simp only [zeroCells, Bool.and_true] at i5
              have hzr : (zeroValue et).run P m.w = .ok z0 m.w := by
                obtain ⟨z1, q1, _⟩ := tk.zero_run m.w
                simp [zeroValue, typeInfo, i1, i4]
              have hr := (zeroCell_rel (m := m) (h := h) z z0 i5).1
              refine ⟨_, (lookup_run hm hd hb hik ok).2 g1 hzr, ?_⟩
              cases ok with
              | true => exact ⟨[z0, .bool false], rfl, _, _, rfl, hr, (fun k => by cases k), _, _, rfl, rfl, (fun k => by cases k), rfl⟩
              | false => exact hr
            split at e
            · rename_i z hkk hz; exact fin z (by simp only [TI.isAgg, hkk]) hz e
            · rename_i z hkk hz; exact fin z (by simp only [TI.isAgg, hkk]) hz e
            · rename_i z hkk hz; exact fin z (by simp only [TI.isAgg, hkk]) hz e
            · cases e
          · cases e
        · rw [g4] at e
          simp only at e
          injection e with e; subst e
          refine ⟨_, (lookup_run (z := .nilIface) hm hd hb hik ok).1 (0 + j, e0.val) g1, ?_⟩
          have hv := CTy.av_rel (h := h) ce y e0.val g5
          cases ok with
          | true => exact ⟨[e0.val, .bool true], rfl, _, _, rfl, hv, (fun k => by cases k), _, _, rfl, rfl, (fun k => by cases k), rfl⟩
          | false => exact hv
      · cases e
    · cases e
  · cases e

theorem insertA0_ok {P : Program} {E : Env} (hT : TabOk P E.tab) {h h' : Heap} {t : TypeId} {x i v : AV} (e : insertA0 E h t x i v = some h') (m : Mem) (S : Sim m h) {u ui uv : Value} (q : Rel m h x u) (qi : Rel m h i ui) (qv : Rel m h v uv) :
    ∃ m', (Instr.mapUpdate t u ui uv).run P m.w = .ok () m'.w ∧ Ext m h m' h' ∧ Sim m' h' := by
  unfold insertA0 at e
  split at e
  · rename_i id
    split at e
    · rename_i c ce es kt et hg hmt
      obtain ⟨hko, e⟩ := cond_some e
      split at e
      · rename_i k y hk hy
        injection e with e; subst e
        have hm := mapTy_ok hT hmt
        obtain ⟨d, hd, hkey⟩ := keyOk_ok hT hko
        obtain ⟨B, mes, hl, rfl, hb, hE⟩ := q.mapv_at S hg
        have hrep := CTy.of_rel c i k ui hk qi
        have hrv := CTy.of_rel ce v y uv hy qv
        have hik := hkey m.w m.good k ui hrep
        have hone : ui.cells = #[ui] := by
          cases d <;> cases ui <;> first | exact hik.elim | rfl
        have hlt : B < m.w.heap.size := (Array.getElem?_eq_some_iff.1 hb).1
        have hsob : ∀ mes' n, (setObj B (.map mes' n)).run P m.w = .ok () { m.w with heap := m.w.heap.setIfInBounds B (.map mes' n) } := fun mes' n => MapKept.run_setObj_map _ hb
        have wr : ∀ mes' n, Wrote m.w { m.w with heap := m.w.heap.setIfInBounds B (.map mes' n) } B := fun mes' n => by
          refine ⟨fun k hk => by simp [Array.getElem?_setIfInBounds, Ne.symm hk], by simp, ?_, rfl, rfl, rfl⟩
          simp only [World.shape?]
          rw [hb]
          simp [hlt]
        have hlike : (Blk.map false (.one c) ce es).like (.map false (.one c) ce (putE c k y es)) := ⟨rfl, rfl, rfl⟩
        have done : ∀ (mes' : Array MapEntry), EntAll (EntRep m.w m.good false (.one c) ce) (putE c k y es) mes'.toList 0 →
            Ext m h ⟨{ m.w with heap := m.w.heap.setIfInBounds B (.map mes' mes'.size) }, m.loc, m.good⟩ (hset h id (some (.map false (.one c) ce (putE c k y es)))) ∧
            Sim ⟨{ m.w with heap := m.w.heap.setIfInBounds B (.map mes' mes'.size) }, m.loc, m.good⟩ (hset h id (some (.map false (.one c) ce (putE c k y es)))) := fun mes' hE' => by
          have E2 := ext_wrote S hg hl (wr mes' mes'.size) hlike
          refine ⟨E2, sim_wrote S hg hl (wr mes' mes'.size) hlike ⟨B, mes', hl, by simp [hlt], EntAll.mono (EntRep.mono (E2.frozen S)) hE'⟩⟩
        rcases find_ok (fun x v q => hkey m.w m.good x v q) hrep es mes.toList 0 0 hE with ⟨g1, g2, _⟩ | ⟨j, e0, y0, g1, g2, g3, g4, g5⟩
        · have hp := put_new (fun x v q => hkey m.w m.good x v q) hrep hrv hone es mes.toList 0 hE g2
          have hp' : EntAll (EntRep m.w m.good false (.one c) ce) (putE c k y es) (mes.push ⟨ui, uv, mes.size⟩).toList 0 := by
            simpa using hp
          obtain ⟨E2, S2⟩ := done _ hp'
          refine ⟨_, ?_, E2, S2⟩
          rw [Array.size_push]
          simp [Instr.mapUpdate, run_underlying hm, MapKept.run_getObj_map hb, MapKept.run_checkKey hd hik, MapKept.run_findKey hd g1, hsob, Result.andThen]
        · have hp := put_old (fun x v q => hkey m.w m.good x v q) hrep hrv es mes.toList 0 0 j e0.val hE g1
          have hp' : EntAll (EntRep m.w m.good false (.one c) ce) (putE c k y es) (mes.modify j fun e => { e with key := ui, val := uv }).toList 0 := by
            simpa using hp
          obtain ⟨E2, S2⟩ := done _ hp'
          refine ⟨_, ?_, E2, S2⟩
          rw [Array.size_modify]
          have hj : mes[j]? = some e0 := by simpa using g2
          rw [Nat.zero_add] at g1
          simp [Instr.mapUpdate, run_underlying hm, MapKept.run_getObj_map hb, MapKept.run_checkKey hd hik, MapKept.run_findKey hd g1, hj, g3, MapKept.run_keyThatStays hik, hsob, Result.andThen]
      · cases e
    · cases e
  · cases e

/-! ### keys of many cells -/
/-- What is known of a type of keys of many cells. -/
structure ArrKey (P : Program) (kt : TypeId) (rk : Row) : Prop where
  wide : (match P.underlying kt with | some (.array _ _) | some (.struct _) => true | _ => false) = true
  eq : ∀ (w w1 : World) (g : Nat → Prop) (x y : rk.den) (u v : Value), rk.rep w1 g x u.cells.toList → AggIs true u → rk.rep w1 g y v.cells.toList → AggIs true v → ∃ r : Bool, (Op.equal kt u v).run P w = .ok r w ∧ (r = true ↔ u = v)
  check : ∀ (w w1 : World) (g : Nat → Prop) (em : Bool) (x : rk.den) (u : Value), rk.rep w1 g x u.cells.toList → AggIs true u → (Instr.checkKey em 10000 kt u).run P w = .ok () w
  stays : ∀ (w w1 : World) (g : Nat → Prop) (x : rk.den) (u : Value), rk.rep w1 g x u.cells.toList → AggIs true u → (Instr.keyThatStays u u).run P w = .ok u w
def KarrOk (P : Program) (E : Env) : Prop := ∀ kt rk, E.karr kt = some rk → ArrKey P kt rk

theorem rowEq_ok {w : World} {g : Nat → Prop} : (r : Row) → r.ints = true → (x y : r.den) → (us vs : List Value) → r.rep w g x us → r.rep w g y vs → (rowEq r x y = true ↔ us = vs)
  | .one c, hi, x, y, us, vs, q, s => by
    simp only [Row.rep] at q s
    obtain ⟨u, rfl, hu⟩ := q
    obtain ⟨v, rfl, hv⟩ := s
    cases c <;> simp only [Row.ints, CTy.isInt, Bool.false_eq_true] at hi
    simp only [CTy.rep] at hu hv
    rw [hu.1, hv.1]
    simp [rowEq, keyEq, intEqB0]
    exact ⟨fun h => by rw [h], fun h => by injection h⟩
  | .cons c r, hi, x, y, us, vs, q, s => by
    simp only [Row.rep] at q s
    obtain ⟨u, us', rfl, hu, q2⟩ := q
    obtain ⟨v, vs', rfl, hv, s2⟩ := s
    simp only [Row.ints, Bool.and_eq_true] at hi
    have ih := rowEq_ok r hi.2 x.2 y.2 us' vs' q2 s2
    obtain ⟨hi1, _⟩ := hi
    cases c <;> simp only [CTy.isInt, Bool.false_eq_true] at hi1
    simp only [CTy.rep] at hu hv
    rw [hu.1, hv.1]
    simp only [rowEq, Bool.and_eq_true, ih]
    simp [keyEq, intEqB0]
    exact fun _ => ⟨fun h => by rw [h], fun h => by injection h⟩
theorem rowEq_agg {w : World} {g : Nat → Prop} {r : Row} (hi : r.ints = true) {x y : r.den} {u v : Value} (q : r.rep w g x u.cells.toList) (hu : AggIs true u) (s : r.rep w g y v.cells.toList) (hv : AggIs true v) : (rowEq r x y = true ↔ u = v) := by
  rw [rowEq_ok r hi x y _ _ q s]
  simp only [AggIs] at hu hv
  obtain ⟨a, rfl⟩ := hu
  obtain ⟨b, rfl⟩ := hv
  simp only [Value.cells]
  constructor
  · intro h; rw [Array.toList_inj.1 h]
  · intro h; injection h with h; rw [h]
theorem sameKarr_ok {E : Env} {kt : TypeId} {rk : Row} (h : sameKarr E kt rk = true) : E.karr kt = some rk ∧ rk.ints = true := by
  unfold sameKarr at h
  split at h
  · rename_i r hr
    simp only [Bool.and_eq_true] at h
    rw [hr, Row.same_eq _ _ h.1]
    exact ⟨rfl, h.2⟩
  · cases h
section
variable {P : Program} {w : World} {g : Nat → Prop} {kt : TypeId} {rk : Row} {ce : CTy}
theorem find_okR (A : ArrKey P kt rk) (hi : rk.ints = true) {k : rk.den} {key : Value} (hk : rk.rep w g k key.cells.toList) (ha : AggIs true key) :
    (es : List (rk.den × ce.den)) → (l : List MapEntry) → (n i : Nat) → EntAll (EntRep w g true rk ce) es l n →
    ((Instr.findAsking kt key l i).run P w = .ok none w ∧ getG (rowEq rk) k es = none ∧ ∀ y v, ce.rep w g y v → EntAll (EntRep w g true rk ce) (putG (rowEq rk) k y es) (l ++ [⟨key, v, n + l.length⟩]) n) ∨
    ∃ j e y, (Instr.findAsking kt key l i).run P w = .ok (some (i + j, e.val)) w ∧ l[j]? = some e ∧ e.key = key ∧ getG (rowEq rk) k es = some y ∧ ce.rep w g y e.val ∧
      ∀ y v, ce.rep w g y v → EntAll (EntRep w g true rk ce) (putG (rowEq rk) k y es) (l.modify j fun e => { e with key := key, val := v }) n
  | [], l, n, i, q => by
    simp only [EntAll] at q; subst q
    exact .inl ⟨by simp [Instr.findAsking], rfl, fun y v hv => ⟨_, _, rfl, ⟨⟨hk, ha⟩, hv⟩, by simp, rfl⟩⟩
  | (k0, y0) :: es, l, n, i, q => by
    simp only [EntAll] at q
    obtain ⟨e, rest, rfl, h1, h2, h3⟩ := q
    obtain ⟨r, hr, hiff⟩ := A.eq w w g k k0 key e.key hk ha h1.1.1 h1.1.2
    have hq := rowEq_agg hi hk ha h1.1.1 h1.1.2
    cases r with
    | true =>
      have he := hiff.1 rfl
      have hb := hq.2 he
      refine .inr ⟨0, e, y0, by simp [Instr.findAsking, hr], rfl, he.symm, by simp only [getG, hb, cond_true], h1.2, fun y v hv => ?_⟩
      simp only [putG, hb, cond_true, List.modify_zero_cons]
      exact ⟨_, _, rfl, ⟨by rw [he]; exact h1.1, hv⟩, h2, h3⟩
    | false =>
      have hb : rowEq rk k k0 = false := by
        cases hb : rowEq rk k k0 with
        | true => have := hiff.2 (hq.1 hb); cases this
        | false => rfl
      rcases find_okR A hi hk ha es rest (n + 1) (i + 1) h3 with ⟨g1, g2, g3⟩ | ⟨j, e', y, g1, g2, g3, g4, g5, g6⟩
      · refine .inl ⟨by simp [Instr.findAsking, hr, g1], by simp only [getG, hb, cond_false, g2], fun y v hv => ?_⟩
        simp only [putG, hb, cond_false, List.cons_append]
        refine ⟨e, _, rfl, h1, h2, ?_⟩
        have := g3 y v hv
        rw [List.length_cons, show n + (rest.length + 1) = n + 1 + rest.length by omega]
        exact this
      · refine .inr ⟨j + 1, e', y, by simp [Instr.findAsking, hr, g1]; omega, by simpa using g2, g3, by simp only [getG, hb, cond_false, g4], g5, fun y v hv => ?_⟩
        simp only [putG, hb, cond_false, List.modify_succ_cons]
        exact ⟨e, _, rfl, h1, h2, g6 y v hv⟩
end

theorem zeroOf_ok {P : Program} {E : Env} (hT : TabOk P E.tab) {et : TypeId} {ok : Bool} {v : AV} (e : zeroOf E et ok = some v) (m : Mem) (h : Heap) : ∃ z0, (zeroValue et).run P m.w = .ok z0 m.w ∧ Rel m h v (if ok then .tuple #[z0, .bool false] else z0) := by
  unfold zeroOf at e
  split at e
  · rename_i te hte
    have fin : ∀ z, te.isAgg = false → te.zero = [z] → some (bif ok then AV.tup [z, .bool false] else z) = some v → ∃ z0, (zeroValue et).run P m.w = .ok z0 m.w ∧ Rel m h v (if ok then .tuple #[z0, .bool false] else z0) := by
      intro z ha hz e
      injection e with e; subst e
      have tk := hT.ti _ _ hte
      obtain ⟨i0, z0, i1, i2, i3, i4, i5, i6⟩ := tk.info
      have hpl := tk.plain ha i0 z0 i1 i4
      rw [hz, hpl] at i5
      simp only [zeroCells, Bool.and_true] at i5
      have hr := (zeroCell_rel (m := m) (h := h) z z0 i5).1
      refine ⟨z0, by simp [zeroValue, typeInfo, i1, i4], ?_⟩
      cases ok with
      | true => exact ⟨[z0, .bool false], rfl, _, _, rfl, hr, (fun k => by cases k), _, _, rfl, rfl, (fun k => by cases k), rfl⟩
      | false => exact hr
    split at e
    · rename_i z hkk hz; exact fin z (by simp only [TI.isAgg, hkk]) hz e
    · rename_i z hkk hz; exact fin z (by simp only [TI.isAgg, hkk]) hz e
    · rename_i z hkk hz; exact fin z (by simp only [TI.isAgg, hkk]) hz e
    · cases e
  · cases e

theorem aggV_ok {m : Mem} {h : Heap} {i : AV} {cs : List AV} (e : aggV i = some cs) {ui : Value} (q : Rel m h i ui) : AggIs true ui ∧ RelL m h true cs ui.cells.toList := by
  unfold aggV at e
  split at e
  · injection e with e; subst e
    simp only [Rel] at q
    obtain ⟨vs, rfl, q⟩ := q
    exact ⟨⟨_, rfl⟩, by simpa [Value.cells] using q⟩
  · cases e

theorem lookupR_ok {P : Program} {E : Env} (hT : TabOk P E.tab) (hK : KarrOk P E) {h : Heap} {t : TypeId} {x i v : AV} {ok : Bool} (e : lookupR E h t x i ok = some v) (m : Mem) (S : Sim m h) {u ui : Value} (q : Rel m h x u) (qi : Rel m h i ui) :
    ∃ cv, (Instr.lookup t u ui ok).run P m.w = .ok cv m.w ∧ Rel m h v cv := by
  unfold lookupR at e
  split at e
  · rename_i id
    split at e
    · rename_i rk ce es kt et hg hmt
      obtain ⟨hko, e⟩ := cond_some e
      obtain ⟨hka, hi⟩ := sameKarr_ok hko
      have A := hK kt rk hka
      split at e
      · rename_i cs hcs
        split at e
        · rename_i k hk
          have hm := mapTy_ok hT hmt
          obtain ⟨B, mes, hl, rfl, hb, hE⟩ := q.mapv_at S hg
          obtain ⟨hag, hcl⟩ := aggV_ok hcs qi
          have hrep := Row.of_rel rk cs k _ hk hcl
          have hck := fun em => A.check m.w m.w m.good em k ui hrep hag
          rcases find_okR A hi hrep hag es mes.toList 0 0 hE with ⟨g1, g2, _⟩ | ⟨j, e0, y, g1, g2, g3, g4, g5, _⟩
          · rw [← run_findKey_eq m.w A.wide ui mes.toList] at g1
            rw [g2] at e
            obtain ⟨z0, hz, hr⟩ := zeroOf_ok hT e m h
            refine ⟨_, ?_, hr⟩
            cases ok <;> simp [Instr.lookup, run_underlying hm, MapKept.run_getObj_map hb, hck, g1, hz, Result.andThen]
          · rw [← run_findKey_eq m.w A.wide ui mes.toList] at g1
            rw [g4] at e
            simp only at e
            injection e with e; subst e
            have hv := CTy.av_rel (h := h) ce y e0.val g5
            refine ⟨if ok then .tuple #[e0.val, .bool true] else e0.val, ?_, ?_⟩
            · cases ok <;> simp [Instr.lookup, run_underlying hm, MapKept.run_getObj_map hb, hck, g1, Result.andThen]
            · cases ok with
              | true => exact ⟨[e0.val, .bool true], rfl, _, _, rfl, hv, (fun k => by cases k), _, _, rfl, rfl, (fun k => by cases k), rfl⟩
              | false => exact hv
        · cases e
      · cases e
    · cases e
  · cases e

theorem insertR_ok {P : Program} {E : Env} (hT : TabOk P E.tab) (hK : KarrOk P E) {h h' : Heap} {t : TypeId} {x i v : AV} (e : insertR E h t x i v = some h') (m : Mem) (S : Sim m h) {u ui uv : Value} (q : Rel m h x u) (qi : Rel m h i ui) (qv : Rel m h v uv) :
    ∃ m', (Instr.mapUpdate t u ui uv).run P m.w = .ok () m'.w ∧ Ext m h m' h' ∧ Sim m' h' := by
  unfold insertR at e
  split at e
  · rename_i id
    split at e
    · rename_i rk ce es kt et hg hmt
      obtain ⟨hko, e⟩ := cond_some e
      obtain ⟨hka, hi⟩ := sameKarr_ok hko
      have A := hK kt rk hka
      split at e
      · rename_i cs hcs
        split at e
        · rename_i k y hk hy
          injection e with e; subst e
          have hm := mapTy_ok hT hmt
          obtain ⟨B, mes, hl, rfl, hb, hE⟩ := q.mapv_at S hg
          obtain ⟨hag, hcl⟩ := aggV_ok hcs qi
          have hrep := Row.of_rel rk cs k _ hk hcl
          have hrv := CTy.of_rel ce v y uv hy qv
          have hck := A.check m.w m.w m.good false k ui hrep hag
          have hst := A.stays m.w m.w m.good k ui hrep hag
          have hlt : B < m.w.heap.size := (Array.getElem?_eq_some_iff.1 hb).1
          have hsob : ∀ mes' n, (setObj B (.map mes' n)).run P m.w = .ok () { m.w with heap := m.w.heap.setIfInBounds B (.map mes' n) } := fun mes' n => MapKept.run_setObj_map _ hb
          have wr : ∀ mes' n, Wrote m.w { m.w with heap := m.w.heap.setIfInBounds B (.map mes' n) } B := fun mes' n => by
            refine ⟨fun k hk => by simp [Array.getElem?_setIfInBounds, Ne.symm hk], by simp, ?_, rfl, rfl, rfl⟩
            simp only [World.shape?]
            rw [hb]
            simp [hlt]
          have hlike : (Blk.map true rk ce es).like (.map true rk ce (putG (rowEq rk) k y es)) := ⟨rfl, rfl, rfl⟩
          have done : ∀ (mes' : Array MapEntry), EntAll (EntRep m.w m.good true rk ce) (putG (rowEq rk) k y es) mes'.toList 0 →
              Ext m h ⟨{ m.w with heap := m.w.heap.setIfInBounds B (.map mes' mes'.size) }, m.loc, m.good⟩ (hset h id (some (.map true rk ce (putG (rowEq rk) k y es)))) ∧
              Sim ⟨{ m.w with heap := m.w.heap.setIfInBounds B (.map mes' mes'.size) }, m.loc, m.good⟩ (hset h id (some (.map true rk ce (putG (rowEq rk) k y es)))) := fun mes' hE' => by
            have E2 := ext_wrote S hg hl (wr mes' mes'.size) hlike
            refine ⟨E2, sim_wrote S hg hl (wr mes' mes'.size) hlike ⟨B, mes', hl, by simp [hlt], EntAll.mono (EntRep.mono (E2.frozen S)) hE'⟩⟩
          rcases find_okR A hi hrep hag es mes.toList 0 0 hE with ⟨g1, g2, g3⟩ | ⟨j, e0, y0, g1, g2, g3, g4, g5, g6⟩
          · rw [← run_findKey_eq m.w A.wide ui mes.toList] at g1
            have hp' : EntAll (EntRep m.w m.good true rk ce) (putG (rowEq rk) k y es) (mes.push ⟨ui, uv, mes.size⟩).toList 0 := by
              simpa using g3 y uv hrv
            obtain ⟨E2, S2⟩ := done _ hp'
            refine ⟨_, ?_, E2, S2⟩
            rw [Array.size_push]
            simp [Instr.mapUpdate, run_underlying hm, MapKept.run_getObj_map hb, hck, g1, hsob, Result.andThen]
          · rw [← run_findKey_eq m.w A.wide ui mes.toList] at g1
            have hp' : EntAll (EntRep m.w m.good true rk ce) (putG (rowEq rk) k y es) (mes.modify j fun e => { e with key := ui, val := uv }).toList 0 := by
              simpa using g6 y uv hrv
            obtain ⟨E2, S2⟩ := done _ hp'
            refine ⟨_, ?_, E2, S2⟩
            rw [Array.size_modify]
            have hj : mes[j]? = some e0 := by simpa using g2
            rw [Nat.zero_add] at g1
            simp [Instr.mapUpdate, run_underlying hm, MapKept.run_getObj_map hb, hck, g1, hj, g3, hst, hsob, Result.andThen]
        · cases e
      · cases e
    · cases e
  · cases e

theorem lookupA_ok {P : Program} {E : Env} (hT : TabOk P E.tab) (hK : KarrOk P E) {h : Heap} {t : TypeId} {x i v : AV} {ok : Bool} (e : lookupA E h t x i ok = some v) (m : Mem) (S : Sim m h) {u ui : Value} (q : Rel m h x u) (qi : Rel m h i ui) :
    ∃ cv, (Instr.lookup t u ui ok).run P m.w = .ok cv m.w ∧ Rel m h v cv := by
  unfold lookupA at e
  cases hr : isRmap h x with
  | true => rw [hr] at e; exact lookupR_ok hT hK e m S q qi
  | false => rw [hr] at e; exact lookupA0_ok hT e m S q qi
theorem insertA_ok {P : Program} {E : Env} (hT : TabOk P E.tab) (hK : KarrOk P E) {h h' : Heap} {t : TypeId} {x i v : AV} (e : insertA E h t x i v = some h') (m : Mem) (S : Sim m h) {u ui uv : Value} (q : Rel m h x u) (qi : Rel m h i ui) (qv : Rel m h v uv) :
    ∃ m', (Instr.mapUpdate t u ui uv).run P m.w = .ok () m'.w ∧ Ext m h m' h' ∧ Sim m' h' := by
  unfold insertA at e
  cases hr : isRmap h x with
  | true => rw [hr] at e; exact insertR_ok hT hK e m S q qi qv
  | false => rw [hr] at e; exact insertA0_ok hT e m S q qi qv

theorem EntAll.len {α : Type} {p : α → MapEntry → Prop} : {l : List α} → {es : List MapEntry} → {n : Nat} → EntAll p l es n → es.length = l.length
  | [], _, _, k => by simp only [EntAll] at k; subst k; rfl
  | x :: l, es, n, k => by
    obtain ⟨e, rest, rfl, h2, h3, h4⟩ := k
    simp [EntAll.len h4]
theorem mapLen_ok {m : Mem} {h : Heap} (S : Sim m h) {x : AV} {n : Nat} (e : mapLen h x = some n) {u : Value} (q : Rel m h x u) : ∃ B mes, u = .map (some B) ∧ m.w.heap[B]? = some (.map mes mes.size) ∧ mes.size = n := by
  unfold mapLen at e
  split at e
  · split at e
    · rename_i es hg
      injection e with e; subst e
      obtain ⟨B, mes, hl, rfl, hb, hE⟩ := q.mapv_at S hg
      exact ⟨B, mes, rfl, hb, by simpa using hE.len⟩
    · cases e
  · cases e
theorem makeMapA_shape {E : Env} {h : Heap} {t : TypeId} {rr : AV × Heap} (e : makeMapA E h t = some rr) : ∃ b, rr.2 = h ++ [some b] := by
  unfold makeMapA at e
  split at e
  · split at e
    · split at e
      · obtain ⟨_, e⟩ := cond_none e
        injection e with e; subst e; exact ⟨_, rfl⟩
      · obtain ⟨_, e⟩ := cond_none e
        obtain ⟨_, e⟩ := cond_some e
        injection e with e; subst e; exact ⟨_, rfl⟩
      · cases e
    · cases e
  · cases e
theorem makeMapA_ok {P : Program} {E : Env} (hT : TabOk P E.tab) {h : Heap} {t : TypeId} {rr : AV × Heap} (e : makeMapA E h t = some rr) (m : Mem) (S : Sim m h) :
    (∃ b, rr.2 = h ++ [some b]) ∧ ∃ cv m', (Instr.makeMap t none).run P m.w = .ok cv m'.w ∧ Ext m h m' rr.2 ∧ Sim m' rr.2 ∧ Rel m' rr.2 rr.1 cv := by
  unfold makeMapA at e
  split at e
  · rename_i kt et hmt
    split at e
    · rename_i tk te htk hte
      split at e
      · rename_i ck ce hrk hre
        obtain ⟨_, e⟩ := cond_none e
        injection e with e; subst e
        refine ⟨⟨_, rfl⟩, .map (some m.w.heap.size), m.push (m.w.alloc (.map #[] 0)) h.length 0, ?_, ?_, ?_, ?_⟩
        · simp [Instr.makeMap, Mem.push]
        · exact ext_push S (Pushed.alloc _ _) _ _
        · exact sim_push S (Pushed.alloc _ _) _ _ ⟨m.w.heap.size, #[], upd_same _ _ _, (Pushed.alloc m.w _).new, rfl⟩
        · simp only [Rel]
          refine ⟨⟨by simp, rfl⟩, fun ka rk c es e => ⟨m.w.heap.size, upd_same _ _ _, rfl⟩⟩
      · rename_i ck rk ce hrk hre
        obtain ⟨_, e⟩ := cond_none e
        obtain ⟨_, e⟩ := cond_some e
        injection e with e; subst e
        refine ⟨⟨_, rfl⟩, .map (some m.w.heap.size), m.push (m.w.alloc (.map #[] 0)) h.length 0, ?_, ?_, ?_, ?_⟩
        · simp [Instr.makeMap, Mem.push]
        · exact ext_push S (Pushed.alloc _ _) _ _
        · exact sim_push S (Pushed.alloc _ _) _ _ ⟨m.w.heap.size, #[], upd_same _ _ _, (Pushed.alloc m.w _).new, rfl⟩
        · simp only [Rel]
          refine ⟨⟨by simp, rfl⟩, fun ka rk c es e => ⟨m.w.heap.size, upd_same _ _ _, rfl⟩⟩
      · cases e
    · cases e
  · cases e

theorem rangeA_ok {P : Program} {E : Env} (hT : TabOk P E.tab) {h : Heap} {t : TypeId} {x : AV} {rr : AV × Heap} (e : rangeA E h t x = some rr) (m : Mem) (S : Sim m h) {u : Value} (q : Rel m h x u) :
    ∃ cv m', (Instr.range t u).run P m.w = .ok cv m'.w ∧ Ext m h m' rr.2 ∧ Sim m' rr.2 ∧ Rel m' rr.2 rr.1 cv := by
  unfold rangeA at e
  split at e
  · rename_i id
    split at e
    · rename_i ka rk ce es pp hg hmt
      obtain ⟨kt, et⟩ := pp
      injection e with e; subst e
      have hm := mapTy_ok hT hmt
      obtain ⟨B, mes, hl, rfl, hb, hE⟩ := q.mapv_at S hg
      have hlen : mes.size = es.length := by simpa using hE.len
      have hid := hget_lt hg
      refine ⟨.pointer (some ⟨m.w.heap.size, 0, none⟩), m.push (m.w.alloc (.mapIter (some B) mes.size #[] mes.size)) h.length 0, run_range_map m.w t kt et B mes mes.size hm hb, ?_, ?_, ?_⟩
      · exact ext_push S (Pushed.alloc _ _) _ _
      · refine sim_push S (Pushed.alloc _ _) _ _ ⟨m.w.heap.size, B, upd_same _ _ _, ?_, by simp; omega, fun b eb => ?_⟩
        · rw [← hlen]; exact (Pushed.alloc m.w _).new
        · show upd m.loc h.length _ id = _
          rw [upd_ne _ _ (by omega)]; exact hl
      · simp only [Rel]
        refine ⟨⟨by simp, rfl⟩, fun b eb hb => ⟨m.w.heap.size, upd_same _ _ _, rfl⟩⟩
    · cases e
  · cases e

end Go.Proofs.YtohlmkcljoakfaaDoorAbs

/- One operation: what the abstract step says holds of the model. -/
namespace Go.Proofs.YtohlmkcljoakfaaDoorAbs
set_option linter.unusedVariables false
set_option linter.unusedSimpArgs false
open Go
variable {R : Type}

def CallRuns (P : Program) (f : FuncId) (args : List AV) (h : Heap) (v : AV) (h' : Heap) : Prop :=
  ∀ (m : Mem) (us : List Value), Sim m h → RelL m h false args us →
    Calls P f us.toArray m.w fun e w' => ∃ m' cv, m'.w = w' ∧ e = .returned cv ∧ Ext m h m' h' ∧ Sim m' h' ∧ Rel m' h' v cv
def FnOk (P : Program) (f : FuncId) : Prop := ∃ fn, P.funcs[f]? = some fn ∧ fn.body.isSome = true ∧ (fn.name == "runtime.NumGoroutine") = false
def CallOk (P : Program) (call : CallF R) : Prop :=
  ∀ f args h K res, call f args h K = some res → ∃ v h', K v h' = some res ∧ FnOk P f ∧ CallRuns P f args h v h'

def OpSem (P : Program) (o : Oper) (T : List AV) (h : Heap) (v : AV) (h' : Heap) : Prop :=
  ∀ (m : Mem) (a : Act), Sim m h → (∀ x ∈ o.op.operands.toList, Rel m h (ev T x) (a.eval x)) → ∀ (next : Act → World → Prop) (Q : Exit → Act → World → Prop),
    (∀ m' cv, Ext m h m' h' → Sim m' h' → Rel m' h' v cv → next (a.put o.dst cv) m'.w) → o.wp P a m.w next Q

theorem opsem_val {P : Program} {o : Oper} {T : List AV} {h h' : Heap} {v : AV}
    (k : ∀ (m : Mem) (a : Act), Sim m h → (∀ x ∈ o.op.operands.toList, Rel m h (ev T x) (a.eval x)) → ∃ cv m', (execOp a.eval o).run P m.w = .ok (.value cv) m'.w ∧ Ext m h m' h' ∧ Sim m' h' ∧ Rel m' h' v cv) : OpSem P o T h v h' := by
  intro m a S q next Q hn
  obtain ⟨cv, m', h1, h2, h3, h4⟩ := k m a S q
  unfold Oper.wp
  rw [h1, Oper.upon_value]
  exact hn m' cv h2 h3 h4
theorem opsem_same {P : Program} {o : Oper} {T : List AV} {h : Heap} {v : AV}
    (k : ∀ (m : Mem) (a : Act), Sim m h → (∀ x ∈ o.op.operands.toList, Rel m h (ev T x) (a.eval x)) → ∃ cv, (execOp a.eval o).run P m.w = .ok (.value cv) m.w ∧ Rel m h v cv) : OpSem P o T h v h :=
  opsem_val fun m a S q => by
    obtain ⟨cv, h1, h2⟩ := k m a S q
    exact ⟨cv, m, h1, Ext.refl m h, S, h2⟩

theorem optK_ok {α : Type} {x : Option α} {K : α → Option R} {res : R} (e : optK x K = some res) : ∃ y, x = some y ∧ K y = some res := by
  cases x with
  | none => simp [optK] at e
  | some y => exact ⟨y, rfl, e⟩

theorem bndIs {m : Mem} {h : Heap} {T : List AV} {a : Act} {lo : Option Operand} {x : Option Int} (e : optI T lo = some x) (q : ∀ y, lo = some y → Rel m h (ev T y) (a.eval y)) : BndIs x (lo.map a.eval) := by
  cases lo with
  | none => simp only [optI] at e; injection e with e; subst e; exact .inl ⟨rfl, rfl⟩
  | some y =>
    simp only [optI] at e
    split at e
    · rename_i k n hk
      injection e with e; subst e
      have := q y rfl
      rw [hk] at this
      exact .inr ⟨k, n, rfl, by simp [this.1]⟩
    · cases e

theorem arr_map {α β : Type} (f : α → β) (l : Array α) : l.map f = (l.toList.map f).toArray := by apply Array.ext'; simp
theorem part_ok {P : Program} {t : TypeId} {tu : TI} (k : TI.ok P t tu) {m : Mem} {h : Heap} {cs c : List AV} {vs : List Value} {v : AV} {off : Nat} (q : RelL m h true cs vs) (hcut : cut cs off tu.size = some c) (hv : mkVal tu.isAgg c = some v) :
    ∃ cv, (part t vs.toArray off).run P m.w = .ok cv m.w ∧ Rel m h v cv := by
  obtain ⟨h1, h2⟩ := RelL.cut q hcut
  unfold mkVal at hv
  cases ha : tu.isAgg with
  | true =>
    rw [ha] at hv; simp only [cond_true] at hv; injection hv with hv; subst hv
    refine ⟨.agg ((vs.drop off).take tu.size).toArray, ?_, _, rfl, h1⟩
    simp only [part, Sem.run_bind, k.isAgg_run, ha, Result.andThen_ok, if_true, k.size_run, Sem.run_pure]
    congr 2
    apply Array.ext'
    simp [List.extract_eq_take_drop]
  | false =>
    rw [ha] at hv; simp only [cond_false] at hv
    split at hv
    · rename_i a
      injection hv with hv; subst hv
      simp only [RelL] at h1
      obtain ⟨u, rest, h3, h4, _, h5⟩ := h1
      subst h5
      refine ⟨u, ?_, h4⟩
      have e1 : vs[off]? = some u := by
        have e2 : (vs.drop off)[0]? = some u := by
          have : ((vs.drop off).take tu.size)[0]? = some u := by rw [h3]; rfl
          rw [List.getElem?_take] at this
          split at this
          · exact this
          · cases this
        simpa using e2
      simp [part, k.isAgg_run, ha, e1]
    · cases hv

theorem fillParts_mono {place place' : Nat → Option (Nat × Nat)} (hp : ∀ i p, place i = some p → place' i = some p) : (ps : List (Nat × AV)) → {cs ws : List AV} → fillParts place cs ps = some ws → fillParts place' cs ps = some ws
  | [], cs, ws, e => e
  | (i, v) :: ps, cs, ws, e => by
    simp only [fillParts] at e ⊢
    split at e
    · rename_i off size vs h1 h2
      rw [hp i _ h1, h2]
      simp only
      cases hb : Nat.beq vs.length size with
      | false => simp only [hb, cond_false] at e; cases e
      | true =>
        simp only [hb, cond_true] at e ⊢
        split at e
        · rename_i cs' hf; exact fillParts_mono hp ps e
        · cases e
    · cases e
theorem fill_ok' {m : Mem} {h : Heap} {place : Nat → Option (Nat × Nat)} {places : Array (Nat × Nat)} (hp : ∀ i p, place i = some p → places[i]? = some p) (ps : List (Nat × AV)) {cs ws : List AV} {us : List (Nat × Value)} {c : Array Value} (e : fillParts place cs ps = some ws) (q : PartsRel m h ps us) (qc : RelL m h true cs c.toList) :
    ∃ d, Instr.fill (places[·]?) c us = some d ∧ RelL m h true ws d.toList := fill_ok ps (fillParts_mono hp ps e) q qc

theorem mapM_sizes {P : Program} {w : World} : (gs : List Field) → (∀ g ∈ gs, ∃ n, (sizeOf g.type).run P w = .ok n w) → ∃ l : List (Nat × Nat), (gs.mapM fun f => do pure (f.offset, ← sizeOf f.type) : Sem (List (Nat × Nat))).run P w = .ok l w ∧ ∀ (i : Nat) (g : Field) (n : Nat), gs[i]? = some g → (sizeOf g.type).run P w = .ok n w → l[i]? = some (g.offset, n)
  | [], _ => ⟨[], by simp, by simp⟩
  | g :: gs, hq => by
    obtain ⟨n, hn⟩ := hq g (by simp)
    obtain ⟨l, h1, h2⟩ := mapM_sizes gs fun x hx => hq x (by simp [hx])
    refine ⟨(g.offset, n) :: l, by simp only [List.mapM_cons, Sem.run_bind, hn, Result.andThen_ok, Sem.run_pure, h1], fun i g' n' hi hs => ?_⟩
    cases i with
    | zero =>
      simp only [List.getElem?_cons_zero] at hi ⊢
      injection hi with hi; subst hi
      rw [hn] at hs; injection hs with hs; subst hs; rfl
    | succ i => simp only [List.getElem?_cons_succ] at hi ⊢; exact h2 i g' n' hi hs

theorem RelL.one1 {m : Mem} {h : Heap} {a : AV} {us : List Value} (q : RelL m h false [a] us) : ∃ u, us = [u] ∧ Rel m h a u := by
  simp only [RelL] at q
  obtain ⟨u, rest, rfl, h1, _, rfl⟩ := q
  exact ⟨u, rfl, h1⟩

theorem builtinA_ok {P : Program} {E : Env} (hT : TabOk P E.tab) {h : Heap} {b : Builtin} {ts : Array TypeId} {args : List AV} {K : AV → Heap → Option R} {res : R} (e : builtinA E h b ts.toList args K = some res) :
    ∃ v h', K v h' = some res ∧ ((b = .len ∨ b = .min ∨ b = .max ∨ b = .unsafeSliceData) → h' = h) ∧ ∀ (ty : TypeId) (cs : Array Bool) (m : Mem) (us : List Value), Sim m h → RelL m h false args us → ∃ cv m', (builtin b ts ty cs us.toArray).run P m.w = .ok (.value cv) m'.w ∧ Ext m h m' h' ∧ Sim m' h' ∧ Rel m' h' v cv := by
  unfold builtinA at e
  split at e
  · rename_i t x hts
    have ht : ts = #[t] := by cases ts; simp at hts; subst hts; rfl
    subst ht
    have gi : ∀ (m : Mem) (n : Nat), Rel m h (.int .i64 (n : Int)) (.int .i64 (n : Int)) := fun m n => ⟨rfl, rfl⟩
    split at e
    · rename_i n el hk
      obtain ⟨ti, _, d, hd1, hd2⟩ := tyKind_ok hT.ti hk
      cases d <;> simp [kindOk] at hd2
      obtain ⟨rfl, rfl⟩ := hd2
      refine ⟨_, h, e, fun _ => rfl, fun ty cs m us S q => ?_⟩
      obtain ⟨u, hu, q1⟩ := RelL.one1 q; subst hu
      exact ⟨_, m, by simp [builtin, Builtin.len_, run_underlying hd1, goInt], Ext.refl m h, S, gi m n⟩
    · rename_i el hk
      split at e
      · rename_i n el2 hk2
        obtain ⟨ti, _, d, hd1, hd2⟩ := tyKind_ok hT.ti hk
        obtain ⟨ti2, _, d2, hd3, hd4⟩ := tyKind_ok hT.ti hk2
        cases d <;> simp [kindOk] at hd2
        cases d2 <;> simp [kindOk] at hd4
        obtain ⟨rfl, rfl⟩ := hd4
        subst hd2
        refine ⟨_, h, e, fun _ => rfl, fun ty cs m us S q => ?_⟩
        obtain ⟨u, hu, q1⟩ := RelL.one1 q; subst hu
        exact ⟨_, m, by simp [builtin, Builtin.len_, run_underlying hd1, run_underlying hd3, goInt], Ext.refl m h, S, gi m n⟩
      · cases e
    · rename_i hk
      split at e
      · rename_i l
        obtain ⟨ti, _, d, hd1, hd2⟩ := tyKind_ok hT.ti hk
        cases d <;> simp [kindOk] at hd2
        refine ⟨_, h, e, fun _ => rfl, fun ty cs m us S q => ?_⟩
        obtain ⟨u, hu, q1⟩ := RelL.one1 q
        obtain ⟨s, hs1, hs2⟩ := str_rel q1
        subst hu; subst hs1; subst hs2
        rw [bytesOf_length]
        exact ⟨_, m, by simp [builtin, Builtin.len_, run_underlying hd1, goInt], Ext.refl m h, S, gi m _⟩
      · cases e
    · rename_i kt et hk
      obtain ⟨n, hn, e⟩ := optK_ok e
      obtain ⟨ti, _, d, hd1, hd2⟩ := tyKind_ok hT.ti hk
      cases d <;> simp [kindOk] at hd2
      obtain ⟨rfl, rfl⟩ := hd2
      refine ⟨_, h, e, fun _ => rfl, fun ty cs m us S q => ?_⟩
      obtain ⟨u, hu, q1⟩ := RelL.one1 q
      subst hu
      obtain ⟨B, mes, rfl, hb, hn2⟩ := mapLen_ok S hn q1
      refine ⟨_, m, ?_, Ext.refl m h, S, gi m n⟩
      simp [builtin, Builtin.len_, run_underlying hd1, MapKept.run_getObj_map hb, goInt, hn2, Result.andThen]
    · rename_i el hk
      split at e
      · cases e
      · rename_i hns
        obtain ⟨n, hn, e⟩ := optK_ok e
        obtain ⟨ti, _, d, hd1, hd2⟩ := tyKind_ok hT.ti hk
        cases d <;> simp [kindOk] at hd2
        refine ⟨_, h, e, fun _ => rfl, fun ty cs m us S q => ?_⟩
        obtain ⟨u, hu, q1⟩ := RelL.one1 q
        subst hu
        rcases lenOf_ok (P := P) hn q1 with ⟨a, c, rfl⟩ | ⟨s, rfl, _, l, hl⟩
        · exact ⟨_, m, by simp [builtin, Builtin.len_, run_underlying hd1, goInt], Ext.refl m h, S, gi m n⟩
        · exact absurd hl (hns l)
    · cases e
  · rename_i t x hts
    have ht : ts = #[t] := by cases ts; simp at hts; subst hts; rfl
    subst ht
    split at e
    · rename_i el hk
      obtain ⟨ti, _, d, hd1, hd2⟩ := tyKind_ok hT.ti hk
      cases d <;> simp [kindOk] at hd2
      refine ⟨_, h, e, fun _ => rfl, fun ty cs m us S q => ?_⟩
      obtain ⟨u, hu, q1⟩ := RelL.one1 q; subst hu
      simp only [Rel] at q1; subst q1
      exact ⟨_, m, by simp [builtin, Builtin.cap_, run_underlying hd1, goInt], Ext.refl m h, S, rfl, rfl⟩
    · rename_i el hk
      obtain ⟨ti, _, d, hd1, hd2⟩ := tyKind_ok hT.ti hk
      cases d <;> simp [kindOk] at hd2
      refine ⟨_, h, e, fun _ => rfl, fun ty cs m us S q => ?_⟩
      obtain ⟨u, hu, q1⟩ := RelL.one1 q; subst hu
      simp only [Rel] at q1; obtain ⟨a, rfl⟩ := q1
      exact ⟨_, m, by simp [builtin, Builtin.cap_, run_underlying hd1, goInt], Ext.refl m h, S, rfl, rfl⟩
    · cases e
  · rename_i ts' x xs
    obtain ⟨v, hv, e⟩ := optK_ok e
    refine ⟨v, h, e, fun _ => rfl, fun ty cs m us S q => ?_⟩
    simp only [RelL] at q
    obtain ⟨u, rest, rfl, q1, _, q2⟩ := q
    obtain ⟨cv, g1, g2⟩ := minA_ok xs hv q1 q2
    exact ⟨cv, m, by simp [builtin, Builtin.min_, g1], Ext.refl m h, S, g2⟩
  · rename_i ts' x xs
    obtain ⟨v, hv, e⟩ := optK_ok e
    refine ⟨v, h, e, fun _ => rfl, fun ty cs m us S q => ?_⟩
    simp only [RelL] at q
    obtain ⟨u, rest, rfl, q1, _, q2⟩ := q
    obtain ⟨cv, g1, g2⟩ := maxA_ok xs hv q1 q2
    exact ⟨cv, m, by simp [builtin, Builtin.max_, g1], Ext.refl m h, S, g2⟩
  · rename_i t u s x hts
    have ht : ts = #[t, u] := by cases ts; simp at hts; subst hts; rfl
    subst ht
    have fin : (P.underlying u = some .string ∨ ∃ e, P.underlying u = some (.slice e)) → appendA E h t s x K = some res → ∃ v h', K v h' = some res ∧ (((Builtin.append : Builtin) = .len ∨ (Builtin.append : Builtin) = .min ∨ (Builtin.append : Builtin) = .max ∨ (Builtin.append : Builtin) = .unsafeSliceData) → h' = h) ∧ ∀ (ty : TypeId) (cs : Array Bool) (m : Mem) (us : List Value), Sim m h → RelL m h false [s, x] us → ∃ cv m', (builtin .append #[t, u] ty cs us.toArray).run P m.w = .ok (.value cv) m'.w ∧ Ext m h m' h' ∧ Sim m' h' ∧ Rel m' h' v cv := fun hx e => by
      obtain ⟨v, h', e, k⟩ := appendA_ok hT.ti hx e
      refine ⟨v, h', e, (by rintro (q | q | q | q) <;> cases q), fun ty cs m us S q => ?_⟩
      obtain ⟨cv, m', g1, g2, g3, g4⟩ := k ty m us S q
      exact ⟨cv, m', by simp [builtin, g1], g2, g3, g4⟩
    split at e
    · rename_i el hk
      obtain ⟨ti, _, d, hd1, hd2⟩ := tyKind_ok hT.ti hk
      cases d <;> simp [kindOk] at hd2
      exact fin (.inr ⟨_, hd1⟩) e
    · rename_i hk
      obtain ⟨ti, _, d, hd1, hd2⟩ := tyKind_ok hT.ti hk
      cases d <;> simp [kindOk] at hd2
      exact fin (.inl hd1) e
    · rename_i kx hk
      obtain ⟨ti, _, d, hd1, hd2⟩ := tyKind_ok hT.ti hk
      cases d <;> simp [kindOk] at hd2
      have finz : ∀ (n : Int), (∀ (m : Mem) (us : List Value), RelL m h false [s, x] us → ∃ base k, us = [.slice base 0 0, .int k n]) → appendZ E h t n K = some res → ∃ v h', K v h' = some res ∧ (((Builtin.append : Builtin) = .len ∨ (Builtin.append : Builtin) = .min ∨ (Builtin.append : Builtin) = .max ∨ (Builtin.append : Builtin) = .unsafeSliceData) → h' = h) ∧ ∀ (ty : TypeId) (cs : Array Bool) (m : Mem) (us : List Value), Sim m h → RelL m h false [s, x] us → ∃ cv m', (builtin .append #[t, u] ty cs us.toArray).run P m.w = .ok (.value cv) m'.w ∧ Ext m h m' h' ∧ Sim m' h' ∧ Rel m' h' v cv := fun n hus e => by
        obtain ⟨v, h', e, k⟩ := appendZ_ok hT.ti hd1 e
        refine ⟨v, h', e, (by rintro (q | q | q | q) <;> cases q), fun ty cs m us S q => ?_⟩
        obtain ⟨base, kk, rfl⟩ := hus m us q
        obtain ⟨cv, m', g1, g2, g3, g4⟩ := k m kk base ty S
        exact ⟨cv, m', by simp [builtin, g1], g2, g3, g4⟩
      split at e
      · refine finz _ (fun m us q => ?_) e
        obtain ⟨a, b, rfl, q1, q2⟩ := RelL.two q
        simp only [Rel] at q1 q2
        exact ⟨none, _, by rw [q1, q2.1]⟩
      · refine finz _ (fun m us q => ?_) e
        obtain ⟨a, b, rfl, q1, q2⟩ := RelL.two q
        simp only [Rel] at q1 q2
        obtain ⟨base, q1⟩ := q1
        exact ⟨base, _, by rw [q1, q2.1]⟩
      · cases e
    · cases e
  · rename_i t x hts
    split at e
    · refine ⟨_, h, e, (fun _ => rfl), fun ty cs m us S q => ?_⟩
      obtain ⟨u, hu, q1⟩ := RelL.one1 q; subst hu
      simp only [Rel] at q1; subst q1
      exact ⟨_, m, by simp [builtin, Lib.run_unsafeSliceData_nil], Ext.refl m h, S, rfl⟩
    · rename_i id
      split at e
      · rename_i et r l0 hg
        obtain ⟨hne, e⟩ := cond_some e
        obtain ⟨y, l, rfl⟩ : ∃ y l, l0 = y :: l := by
          cases l0 with
          | nil => cases hne
          | cons y l => exact ⟨y, l, rfl⟩
        refine ⟨_, h, e, (fun _ => rfl), fun ty cs m us S q => ?_⟩
        obtain ⟨u, hu, q1⟩ := RelL.one1 q; subst hu
        obtain ⟨cv, g1, g2⟩ := sliceData_own (P := P) (ts := ts) (ty := ty) hg q1
        exact ⟨cv, m, by simp [builtin, g1], Ext.refl m h, S, g2⟩
      · cases e
    · cases e
  · rename_i p it x n hts
    have ht : ts = #[p, it] := by cases ts; simp at hts; subst hts; rfl
    subst ht
    split at e
    · obtain ⟨hb, e⟩ := cond_some e
      have hb := of_decide_eq_true hb
      subst hb
      refine ⟨_, h, e, (by rintro (q | q | q | q) <;> cases q), fun ty cs m us S q => ?_⟩
      obtain ⟨a, b, rfl, q1, q2⟩ := RelL.two q
      simp only [Rel] at q1; subst q1
      rw [q2.1]
      exact ⟨.string .empty, m, by simp [builtin, Lib.run_unsafeString_none], Ext.refl m h, S, .empty, rfl, rfl⟩
    · rename_i id ix j n
      split at e
      · rename_i et r l el hg hk
        split at e
        · rename_i te hte
          split at e
          · rename_i hq
            obtain ⟨hb, e9⟩ := cond_some e
            simp only [Bool.and_eq_true, Nat.blt_eq, decide_eq_true_eq] at hb
            obtain ⟨b1, b2, b3, b4, b5, b6, b7⟩ := hb
            have b1 := Nat.eq_of_beq_eq_true b1; have b2 := Nat.eq_of_beq_eq_true b2; have b3 := Nat.eq_of_beq_eq_true b3; have b4 := Nat.eq_of_beq_eq_true b4; have b7 := Nat.le_of_ble_eq_true b7
            subst b1; subst b2; subst b3
            have hr := Row.same_eq r _ hq
            subst hr
            rw [castList_id] at e9
            subst b5
            obtain ⟨ti, _, d, hd1, hd2⟩ := tyKind_ok hT.ti hk
            cases d <;> simp [kindOk] at hd2
            subst hd2
            refine ⟨_, _, e9, (by rintro (q | q | q | q) <;> cases q), fun ty cs m us S q => ?_⟩
            obtain ⟨a, b, rfl, q1, q2⟩ := RelL.two q
            rw [q2.1]
            obtain ⟨cv, m', g1, g2, g3, g4⟩ := unsafeString_own (it := it) (ty := ty) hT.ti hd1 hte b4 S hg b6 b7 q1
            exact ⟨cv, m', by simp [builtin]; erw [g1]; rfl, g2, g3, g4⟩
          · cases e
        · cases e
      · cases e
    · cases e
  · rename_i t u d x hts
    have ht : ts = #[t, u] := by cases ts; simp at hts; subst hts; rfl
    subst ht
    obtain ⟨v, h', e, k⟩ := copyA_ok hT.ti (xt := u) e
    refine ⟨v, h', e, (by rintro (q | q | q | q) <;> cases q), fun ty cs m us S q => ?_⟩
    obtain ⟨cv, m', g1, g2, g3, g4⟩ := k ty m us S q
    exact ⟨cv, m', by simp [builtin, g1], g2, g3, g4⟩
  · cases e

def Keep (h h' : Heap) : Prop := ∀ id, id < h.length → hget h' id = hget h id
theorem Keep.push (h : Heap) (b : Option Blk) : Keep h (h ++ [b]) := fun id hid => hget_push_ne (by omega)
theorem Keep.append (h : Heap) : (l : List (Option Blk)) → Keep h (h ++ l)
  | [] => fun id _ => by rw [List.append_nil]
  | b :: l => fun id hid => by
    have e : h ++ b :: l = (h ++ [b]) ++ l := by simp
    rw [e, Keep.append (h ++ [b]) l id (by simp; omega), hget_push_ne (by omega)]
theorem Keep.rfl' (h : Heap) : Keep h h := fun _ _ => rfl

def ExtOk (P : Program) (E : Env) : Prop := (∀ f, E.ext f = true → ∀ (x : Value) (w : World), (callFunc f #[x]).run P w = .ok (.value x) w) ∧ KarrOk P E
def PureOk (P : Program) (E : Env) : Prop := ExtOk P E ∧ ∀ f H, E.sum f = some H → ∀ (R : Type) args h K (res : R), H R args h K = some res → ∃ v nb, K v nb = some res ∧ FnOk P f ∧ CallRuns P f args h v (h ++ nb)

theorem step_ok {P : Program} {E : Env} (hT : TabOk P E.tab) (hP : PureOk P E) {call : CallF R} (hc : CallOk P call) {f : FuncId} {T : List AV} {h : Heap} {o : Oper} {K : AV → Heap → Option R} {res : R}
    (e : step E f call T h o K = some res) : ∃ v h', K v h' = some res ∧ (keeps E T o.op = true → Keep h h') ∧ OpSem P o T h v h' := by
  rw [step_eq] at e
  unfold stepS at e
  split at e
  · rename_i x ho
    exact ⟨_, _, e, (fun _ => Keep.rfl' _), opsem_same fun m a S q => ⟨a.eval x, by simp [execOp, ho], q x (by simp [ho, Op.operands])⟩⟩
  · rename_i x ho
    exact ⟨_, _, e, (fun _ => Keep.rfl' _), opsem_same fun m a S q => ⟨a.eval x, by simp [execOp, ho], q x (by simp [ho, Op.operands])⟩⟩
  · rename_i c x y ho
    split at e
    · rename_i b hb
      have hq : ∀ (m : Mem) (a : Act), (∀ x ∈ o.op.operands.toList, Rel m h (ev T x) (a.eval x)) → a.eval c = .bool b := fun m a q => by
        have := q c (by simp [ho, Op.operands])
        rw [hb] at this; exact this
      cases b with
      | true => exact ⟨_, _, e, (fun _ => Keep.rfl' _), opsem_same fun m a S q => ⟨a.eval x, by simp [execOp, ho, hq m a q, asBool], q x (by simp [ho, Op.operands])⟩⟩
      | false => exact ⟨_, _, e, (fun _ => Keep.rfl' _), opsem_same fun m a S q => ⟨a.eval y, by simp [execOp, ho, hq m a q, asBool], q y (by simp [ho, Op.operands])⟩⟩
    · cases e
  · rename_i t ho
    obtain ⟨ti, hti, e⟩ := optK_ok e
    refine ⟨_, _, e, (fun _ => Keep.push _ _), opsem_val fun m a S q => ?_⟩
    obtain ⟨z, hz, hzc⟩ := (hT.ti _ _ hti).zero_run m.w
    have p : Pushed m.w (m.w.alloc (.cells z.cells t)) (.cells z.cells t) := Pushed.alloc _ _
    have E1 := ext_push S p (.var t ti.zero) 0
    refine ⟨.pointer (some ⟨m.w.heap.size, 0, none⟩), _, ?_, E1, sim_push S p _ 0 ⟨m.w.heap.size, z.cells, by simp [Mem.push, upd_same], p.new, zero_rel _ _ hzc⟩, ?_⟩
    · simp [execOp, ho, Instr.alloc, hz, newVar, newRow, Mem.push]
    · simp only [Rel]; exact ⟨⟨by simp, rfl⟩, fun _ cs _ => ⟨m.w.heap.size, by simp [Mem.push, upd_same], rfl⟩⟩
  · rename_i t x ho
    obtain ⟨cs, hcs, e⟩ := optK_ok e
    refine ⟨_, _, e, (fun _ => Keep.push _ _), opsem_val fun m a S q => ?_⟩
    have hr := cells_rel hcs (q x (by simp [ho, Op.operands]))
    have p : Pushed m.w (m.w.alloc (.cells (a.eval x).cells t)) (.cells (a.eval x).cells t) := Pushed.alloc _ _
    have E1 := ext_push S p (.var t cs) 0
    refine ⟨.pointer (some ⟨m.w.heap.size, 0, none⟩), _, ?_, E1, sim_push S p _ 0 ⟨m.w.heap.size, _, by simp [Mem.push, upd_same], p.new, RelL.mono S E1 true _ _ hr⟩, ?_⟩
    · simp [execOp, ho, Instr.box, newVar, newRow, Mem.push]
    · simp only [Rel]; exact ⟨⟨by simp, rfl⟩, fun _ cs _ => ⟨m.w.heap.size, by simp [Mem.push, upd_same], rfl⟩⟩
  · rename_i t ps ho
    split at e
    · cases e
    · rename_i ti hti
      have hpr : ∀ (m : Mem) (a : Act), (∀ x ∈ o.op.operands.toList, Rel m h (ev T x) (a.eval x)) → PartsRel m h (partsOf T ps) (ps.map fun p => (p.1, a.eval p.2)).toList := fun m a q => by
        have := partsOf_rel (m := m) (h := h) (T := T) (f := a.eval) ps.toList (fun x hx => q x (by simpa [ho, Op.operands] using hx))
        simpa [partsOf] using this
      obtain ⟨d, hd1, hd2⟩ := (hT.ti _ _ hti).desc
      split at e
      · rename_i fs hk
        obtain ⟨hall, e⟩ := cond_some e
        obtain ⟨cs, hcs, e⟩ := optK_ok e
        refine ⟨_, h, e, (fun _ => Keep.rfl' _), opsem_same fun m a S q => ?_⟩
        obtain ⟨z, hz, hzc⟩ := (hT.ti _ _ hti).zero_run m.w
        rw [hk] at hd2
        cases d <;> simp [kindOk] at hd2
        rename_i gs
        have hps := pairsEq_get _ _ hd2
        have hplaces : ∃ places : Array (Nat × Nat), (gs.mapM fun f => do pure (f.offset, ← sizeOf f.type) : Sem (Array (Nat × Nat))).run P m.w = .ok places m.w ∧ ∀ i p, fieldPlace E fs i = some p → places[i]? = some p := by
          subst hps
          have hin : ∀ g ∈ gs.toList, ∃ tu, tyFind E.tab g.type = some tu := fun g hg => by
            have := List.all_eq_true.1 hall (g.offset, g.type) (List.mem_map.2 ⟨g, hg, rfl⟩)
            exact Option.isSome_iff_exists.1 this
          obtain ⟨l, h1, h2⟩ := mapM_sizes (P := P) (w := m.w) gs.toList fun g hg => by
            obtain ⟨tu, htu⟩ := hin g hg
            exact ⟨tu.size, (hT.ti _ _ htu).size_run m.w⟩
          refine ⟨l.toArray, ?_, fun i p hp => ?_⟩
          · rw [Array.mapM_eq_mapM_toList, map_eq_pure_bind]
            simp only [Sem.run_bind, h1, Result.andThen_ok, Sem.run_pure]
          · unfold Go.Proofs.YtohlmkcljoakfaaDoorAbs.fieldPlace at hp
            split at hp
            · rename_i o u hf
              split at hp
              · rename_i tu htu
                injection hp with hp; subst hp
                simp only [List.getElem?_map, Array.getElem?_toList, Option.map_eq_some_iff] at hf
                obtain ⟨fd, k1, k2⟩ := hf
                injection k2 with k2 k3
                subst k2; subst k3
                have := h2 i fd tu.size (by simpa using k1) ((hT.ti _ _ htu).size_run m.w)
                simpa using this
              · cases hp
            · cases hp
        obtain ⟨places, hp1, hp2⟩ := hplaces
        obtain ⟨dd, g1, g2⟩ := fill_ok' hp2 (partsOf T ps) hcs (hpr m a q) (zero_rel ti.zero z.cells.toList hzc)
        refine ⟨.agg dd, ?_, dd.toList, by simp, by simpa using g2⟩
        simp only [execOp, ho, Instr.build, Sem.run_bind, hz, Result.andThen_ok, run_underlying hd1, hp1, g1, Sem.run_pure]
      · rename_i n el hk
        split at e
        · rename_i te hte
          obtain ⟨cs, hcs, e⟩ := optK_ok e
          refine ⟨_, h, e, (fun _ => Keep.rfl' _), opsem_same fun m a S q => ?_⟩
          obtain ⟨z, hz, hzc⟩ := (hT.ti _ _ hti).zero_run m.w
          rw [hk] at hd2
          cases d <;> simp [kindOk] at hd2
          obtain ⟨e1, e2⟩ := hd2
          subst e1; subst e2
          obtain ⟨dd, g1, g2⟩ := fill_ok (partsOf T ps) hcs (hpr m a q) (zero_rel ti.zero z.cells.toList hzc)
          refine ⟨.agg dd, ?_, dd.toList, by simp, by simpa using g2⟩
          have hs := (hT.ti _ _ hte).size_run m.w
          simp only [execOp, ho, Instr.build, Sem.run_bind, hz, Result.andThen_ok, run_underlying hd1, hs, g1, Sem.run_pure]
        · cases e
      · cases e
  · rename_i t len ps ho
    obtain ⟨v, h', e, k⟩ := buildSl_ok hT.ti e
    refine ⟨v, h', e, (by simp [keeps, ho]), opsem_val fun m a S q => ?_⟩
    obtain ⟨cv, m', g1, g2, g3, g4⟩ := k m (ps.map fun p => (p.1, a.eval p.2)) S (by
      have := partsOf_rel (m := m) (h := h) (T := T) (f := a.eval) ps.toList (fun x hx => q x (by simpa [ho, Op.operands] using hx))
      simpa [partsOf] using this)
    exact ⟨cv, m', by simp [execOp, ho, g1], g2, g3, g4⟩
  · rename_i t x ho
    obtain ⟨ti, hti, e⟩ := optK_ok e
    obtain ⟨v, hv, e⟩ := optK_ok e
    refine ⟨v, h, e, (fun _ => Keep.rfl' _), opsem_same fun m a S q => ?_⟩
    obtain ⟨ad, cv, g1, g2, g3⟩ := loadAt_ok (P := P) (hT.ti _ _ hti) S hv (q x (by simp [ho, Op.operands]))
    exact ⟨cv, by simp [execOp, ho, Instr.loadAt, g1, Instr.sureAddr, g2], g3⟩
  · rename_i t x y ho
    obtain ⟨ti, hti, e⟩ := optK_ok e
    obtain ⟨h', hh, e⟩ := optK_ok e
    refine ⟨_, h', e, (by simp [keeps, ho]), fun m a S q next Q hn => ?_⟩
    obtain ⟨ad, m', g1, g2, g3, g4⟩ := storeAt_ok (P := P) (hT.ti _ _ hti) S hh (q x (by simp [ho, Op.operands])) (q y (by simp [ho, Op.operands]))
    have hrun : (execOp a.eval o).run P m.w = .ok .skip m'.w := by simp [execOp, ho, Instr.storeAt, g1, Instr.sureAddr, g2]
    unfold Oper.wp
    rw [hrun, Oper.upon_skip]
    exact hn m' undef g3 g4 ⟨[], rfl, rfl⟩
  · rename_i x ho
    split at e
    · rename_i id off hx
      split at e
      · rename_i cs hg
        refine ⟨_, _, e, (fun _ => Keep.rfl' _), opsem_same fun m a S q => ?_⟩
        have q1 := q x (by simp [ho, Op.operands])
        rw [hx] at q1
        have q2 := q1
        simp only [Rel] at q1
        obtain ⟨B, hl, hv⟩ := q1.2 _ cs hg
        exact ⟨a.eval x, by simp [execOp, ho, hv], q2⟩
      · cases e
    · rename_i id ix j hx
      split at e
      · rename_i r l hg
        refine ⟨_, _, e, (fun _ => Keep.rfl' _), opsem_same fun m a S q => ?_⟩
        have q1 := q x (by simp [ho, Op.operands])
        rw [hx] at q1
        have q2 := q1
        simp only [Rel] at q1
        obtain ⟨B, o', hl, hv, _⟩ := q1.2 _ r l hg
        exact ⟨a.eval x, by simp [execOp, ho, hv], q2⟩
      · cases e
    · rename_i cs hx
      refine ⟨_, _, e, (fun _ => Keep.rfl' _), opsem_same fun m a S q => ?_⟩
      have q1 := q x (by simp [ho, Op.operands])
      rw [hx] at q1
      have q2 := q1
      simp only [Rel] at q1
      obtain ⟨B, o', vs, hv, _⟩ := q1
      exact ⟨a.eval x, by simp [execOp, ho, hv], q2⟩
    · cases e
  · rename_i op t x y yt ho
    obtain ⟨v, e, k⟩ := binOpA_ok hT e
    refine ⟨v, h, e, (fun _ => Keep.rfl' _), opsem_same fun m a S q => ?_⟩
    obtain ⟨cv, g1, g2⟩ := k m (a.eval x) (a.eval y) x y S (q x (by simp [ho, Op.operands])) (q y (by simp [ho, Op.operands]))
    exact ⟨cv, by simp only [execOp, ho, Sem.run_bind, g1, Result.andThen_ok]; simp, g2⟩
  · rename_i op t x ho
    split at e
    · rename_i b hb
      refine ⟨_, h, e, (fun _ => Keep.rfl' _), opsem_same fun m a S q => ?_⟩
      have q1 := q x (by simp [ho, Op.operands])
      rw [hb] at q1
      simp only [Rel] at q1
      exact ⟨.bool (!b), by simp [execOp, ho, q1, Op.unary], rfl⟩
    · rename_i k n hb
      refine ⟨_, h, e, (fun _ => Keep.rfl' _), opsem_same fun m a S q => ?_⟩
      have q1 := q x (by simp [ho, Op.operands])
      rw [hb] at q1
      exact ⟨.int k (k.wrap (0 - n)), by simp [execOp, ho, q1.1, Op.unary, Op.intArith], rfl, u8_wrap _ _⟩
    · rename_i k n hb
      refine ⟨_, h, e, (fun _ => Keep.rfl' _), opsem_same fun m a S q => ?_⟩
      have q1 := q x (by simp [ho, Op.operands])
      rw [hb] at q1
      exact ⟨.int k (bitsOp .xor k (if k.signed then -1 else k.max) n), by simp [execOp, ho, q1.1, Op.unary, Op.intBits, bitsOp], rfl, u8_wrap _ _⟩
    · cases e
  · rename_i s d x ho
    split at e
    · rename_i r hr
      have hkd : keeps E T o.op = true → Keep h r.2 := fun k => by
        have : Nat.beq s d = true := convS_beq hr
        rw [ho] at k; simp only [keeps, this] at k; cases k
      refine ⟨r.1, r.2, e, hkd, opsem_val fun m a S q => ?_⟩
      obtain ⟨_, cv, m', g1, g2, g3, g4⟩ := convS_ok hT hr m (a.eval x) S (q x (by simp [ho, Op.operands]))
      exact ⟨cv, m', by simp [execOp, ho, g1], g2, g3, g4⟩
    · obtain ⟨v, hv, e⟩ := optK_ok e
      refine ⟨v, h, e, (fun _ => Keep.rfl' _), opsem_val fun m a S q => ?_⟩
      obtain ⟨cv, m', g1, g2, g3, g4⟩ := convA_ok hT hv m (a.eval x) S (q x (by simp [ho, Op.operands]))
      exact ⟨cv, m', by simp [execOp, ho, g1], g2, g3, g4⟩
  · rename_i t x ho
    split at e
    · cases e
    · cases e
    · rename_i k hk1 hk2 hk
      refine ⟨_, h, e, (fun _ => Keep.rfl' _), opsem_same fun m a S q => ?_⟩
      obtain ⟨ti, _, d, hd1, hd2⟩ := tyKind_ok hT.ti hk
      refine ⟨.iface t (a.eval x), ?_, trivial⟩
      have : P.concrete t = true := by
        unfold Program.concrete
        rw [hd1]
        cases d <;> first | rfl | (cases k <;> simp_all [kindOk])
      simp [execOp, ho, run_makeInterface m.w t (a.eval x) this]
    · cases e
  · rename_i fn first cap ho
    split at e
    · rename_i g hfirst
      refine ⟨_, h, e, (fun _ => Keep.rfl' _), opsem_same fun m a S q => ?_⟩
      have hf0 : first = #[] := by cases first; simp at hfirst; subst hfirst; rfl
      subst hf0
      refine ⟨.func (.func g) #[] (cap.map a.eval), by simp [execOp, ho, Instr.makeFunc], (cap.toList.map a.eval), by rw [arr_map], ?_⟩
      have key : ∀ (l : List Operand), (∀ x ∈ l, Rel m h (ev T x) (a.eval x)) → RelL m h false (l.map (ev T)) (l.map a.eval) := fun l => by
        induction l with
        | nil => intro _; rfl
        | cons x l ih => intro hq; exact ⟨_, _, rfl, hq x (by simp), (fun q => by cases q), ih fun y hy => hq y (by simp [hy])⟩
      exact key cap.toList fun x hx => q x (by simpa [ho, Op.operands] using hx)
    · cases e
  · rename_i t l c ho
    obtain ⟨n, hn, e⟩ := optK_ok e
    obtain ⟨c', hc', e⟩ := optK_ok e
    obtain ⟨v, h', e, k⟩ := makeA_ok hT.ti e
    refine ⟨v, h', e, (by simp [keeps, ho]), opsem_val fun m a S q => ?_⟩
    have q1 := q l (by simp [ho, Op.operands])
    have q2 := q c (by simp [ho, Op.operands])
    unfold asI at hn hc'
    split at hn
    · rename_i k1 n1 h1
      injection hn with hn; subst hn
      split at hc'
      · rename_i k2 n2 h2
        injection hc' with hc'; subst hc'
        rw [h1] at q1; rw [h2] at q2
        obtain ⟨cv, m', g1, g2, g3, g4⟩ := k m k1 k2 S
        exact ⟨cv, m', by simp [execOp, ho, q1.1, q2.1, g1], g2, g3, g4⟩
      · cases hc'
    · cases hn
  · rename_i t x lo hi mx ho
    split at e
    · obtain ⟨lo', hlo, e⟩ := optK_ok e
      obtain ⟨hi', hhi, e⟩ := optK_ok e
      have ql : ∀ (m : Mem) (a : Act), (∀ x ∈ o.op.operands.toList, Rel m h (ev T x) (a.eval x)) → BndIs lo' (lo.map a.eval) := fun m a q => bndIs hlo fun y hy => q y (by subst hy; simp [ho, Op.operands])
      have qh : ∀ (m : Mem) (a : Act), (∀ x ∈ o.op.operands.toList, Rel m h (ev T x) (a.eval x)) → BndIs hi' (hi.map a.eval) := fun m a q => bndIs hhi fun y hy => q y (by subst hy; simp [ho, Op.operands])
      split at e
      · rename_i hk
        obtain ⟨ti, _, d, hd1, hd2⟩ := tyKind_ok hT.ti hk
        cases d <;> simp [kindOk] at hd2
        split at e
        · rename_i l hx
          unfold sliceS at e
          obtain ⟨hb, e⟩ := cond_some e
          refine ⟨_, h, e, (fun _ => Keep.rfl' _), opsem_same fun m a S q => ?_⟩
          have q1 := q x (by simp [ho, Op.operands])
          rw [hx] at q1
          obtain ⟨s, hs, rfl⟩ := str_rel q1
          rw [bytesOf_length] at hb
          have hrun := (bounds_run (P := P) (w := m.w) (b := false) hb (Nat.le_refl _) (ql m a q) (qh m a q)).1
          refine ⟨.string (s.extract (lo'.getD 0).toNat (hi'.getD s.size).toNat), ?_, _, rfl, ?_⟩
          · simp [execOp, ho, hs, Instr.sliceAt, run_underlying hd1, Instr.slice, hrun]
          · rw [cutList_eq, bytesOf_length]
            unfold bytesOf
            rw [ByteArray.data_extract]
            simp only [Array.toList_extract, List.extract_eq_take_drop, List.map_take, List.map_drop, List.take_drop]
            rcases Nat.le_total (lo'.getD 0).toNat (hi'.getD s.size).toNat with hle | hle
            · rw [Nat.add_sub_cancel' hle]
            · rw [Nat.sub_eq_zero_of_le hle, Nat.add_zero, List.drop_eq_nil_of_le (List.length_take_le _ _), List.drop_eq_nil_of_le (Nat.le_trans (List.length_take_le _ _) hle)]
        · cases e
      · rename_i el hk
        obtain ⟨sz, hsz, e⟩ := optK_ok e
        obtain ⟨hu, hs⟩ := elemSize_slice hT.ti hk hsz
        obtain ⟨v, e, k⟩ := sliceA_ok hu hs e
        refine ⟨v, h, e, (fun _ => Keep.rfl' _), opsem_same fun m a S q => ?_⟩
        obtain ⟨cv, g1, g2⟩ := k m (a.eval x) _ _ S (q x (by simp [ho, Op.operands])) (ql m a q) (qh m a q)
        exact ⟨cv, by simp [execOp, ho, g1], g2⟩
      · obtain ⟨n, hn, e⟩ := optK_ok e
        obtain ⟨el', ha, hs⟩ := arrU8_ok hT.ti hn
        obtain ⟨v, e, k⟩ := sliceV_ok ha hs e
        refine ⟨v, h, e, (fun _ => Keep.rfl' _), opsem_same fun m a S q => ?_⟩
        obtain ⟨cv, g1, g2⟩ := k m (a.eval x) _ _ S (q x (by simp [ho, Op.operands])) (ql m a q) (qh m a q)
        exact ⟨cv, by simp [execOp, ho, g1], g2⟩
      · cases e
    · rename_i mx
      split at e
      · rename_i h0 k0 m0 el r l nn hhi hm hk hx
        obtain ⟨sz, hsz, e⟩ := optK_ok e
        obtain ⟨hb, e⟩ := cond_some e
        simp only [Bool.and_eq_true, intEqB0, decide_eq_true_eq] at hb
        obtain ⟨rfl, rfl⟩ := hb
        obtain ⟨hu, hs⟩ := elemSize_slice hT.ti hk hsz
        refine ⟨_, h, e, (fun _ => Keep.rfl' _), opsem_same fun m a S q => ?_⟩
        have q1 := q x (by simp [ho, Op.operands])
        have q2 := q mx (by simp [ho, Op.operands])
        have q3 := bndIs hhi (a := a) fun y hy => q y (by subst hy; simp [ho, Op.operands])
        rw [hx] at q1; rw [hm] at q2
        obtain ⟨b, n, cap, hv, rfl, hcap, hz, hh⟩ := q1.1
        rcases q3 with ⟨k1, _⟩ | ⟨k3, y, k1, k2⟩
        · cases k1
        · injection k1 with k1; subst k1
          refine ⟨.slice b 0 0, ?_, b, rfl⟩
          simp [execOp, ho, hv, q2.1, k2, Instr.sliceAt, run_underlying hu, Instr.slice, Instr.sliceBounds, Instr.sliceBound, asIntOf, hs m.w]
      · cases e
  · rename_i s x i ho
    obtain ⟨v, hv, e⟩ := optK_ok e
    refine ⟨v, h, e, (fun _ => Keep.rfl' _), opsem_same fun m a S q => ?_⟩
    obtain ⟨cv, g1, g2⟩ := fldAddr_ok hT hv S (q x (by simp [ho, Op.operands]))
    exact ⟨cv, by simp [execOp, ho, g1], g2⟩
  · rename_i t x i ho
    split at e
    · rename_i fs cs hk hx
      obtain ⟨⟨po, pt⟩, hp, e⟩ := optK_ok e
      obtain ⟨tu, htu, e⟩ := optK_ok e
      obtain ⟨c, hcut, e⟩ := optK_ok e
      obtain ⟨v, hv, e⟩ := optK_ok e
      refine ⟨v, h, e, (fun _ => Keep.rfl' _), opsem_same fun m a S q => ?_⟩
      have q1 := q x (by simp [ho, Op.operands])
      rw [hx] at q1
      simp only [Rel] at q1
      obtain ⟨vs, hvs, q1⟩ := q1
      obtain ⟨gs, fd, g1, g2, g3, g4⟩ := field_get hT.ti hk hp
      subst g4
      obtain ⟨cv, k1, k2⟩ := part_ok (P := P) (hT.ti _ _ htu) q1 hcut hv
      refine ⟨cv, ?_, k2⟩
      rw [← g3] at k1
      simp [execOp, ho, hvs, Instr.field, run_underlying g1, g2, asAgg, k1]
    · cases e
  · rename_i t x i ho
    obtain ⟨n, hn, e⟩ := optK_ok e
    obtain ⟨v, e, k⟩ := idxAddr_ok hT e
    refine ⟨v, h, e, (fun _ => Keep.rfl' _), opsem_same fun m a S q => ?_⟩
    unfold asI at hn
    split at hn
    · rename_i k1 n1 h1
      injection hn with hn; subst hn
      have q2 := q i (by simp [ho, Op.operands])
      rw [h1] at q2
      obtain ⟨cv, g1, g2⟩ := k m (a.eval x) k1 S (q x (by simp [ho, Op.operands]))
      exact ⟨cv, by simp [execOp, ho, q2.1, g1], g2⟩
    · cases hn
  · rename_i t x i ho
    split at e
    · rename_i l k n hk hx hi
      obtain ⟨hb, e⟩ := cond_some e
      simp only [Bool.and_eq_true, decide_eq_true_eq] at hb
      refine ⟨_, h, e, (fun _ => Keep.rfl' _), opsem_same fun m a S q => ?_⟩
      obtain ⟨ti, _, d, hd1, hd2⟩ := tyKind_ok hT.ti hk
      cases d <;> simp [kindOk] at hd2
      have q1 := q x (by simp [ho, Op.operands])
      have q2 := q i (by simp [ho, Op.operands])
      rw [hx] at q1; rw [hi] at q2
      obtain ⟨s, hs, rfl⟩ := str_rel q1
      have hlt : n.toNat < s.size := by have := hb.2; rw [bytesOf_length] at this; omega
      refine ⟨.int .u8 ((bytesOf s).getD n.toNat 0), ?_, rfl, ?_⟩
      · have e1 : (bytesOf s).getD n.toNat 0 = (s[n.toNat].toNat : Int) := by
          simp [bytesOf, List.getD, hlt]
          rfl
        have e2 : s[n.toNat]? = some s[n.toNat] := by simp [hlt]
        rw [e1]
        simp [execOp, ho, hs, q2.1, Instr.index, asIntOf, run_underlying hd1, hb.1, e2]
      · have e1 : (bytesOf s).getD n.toNat 0 = (s[n.toNat].toNat : Int) := by
          simp [bytesOf, List.getD, hlt]
          rfl
        rw [e1]
        have := s[n.toNat].toNat_lt
        simp [u8ok, kindEq]
        omega
    · rename_i n el cs k j hk hx hi
      obtain ⟨te, hte, e⟩ := optK_ok e
      obtain ⟨jj, _, hj, hij, e2⟩ := pickIx_ok _ _ e
      subst hij
      obtain ⟨c, hcut, e3⟩ := optK_ok e2
      obtain ⟨v, hv, e4⟩ := optK_ok e3
      refine ⟨v, h, e4, (fun _ => Keep.rfl' _), opsem_same fun m a S q => ?_⟩
      obtain ⟨ti, _, d, hd1, hd2⟩ := tyKind_ok hT.ti hk
      cases d <;> simp [kindOk] at hd2
      obtain ⟨e1, e2⟩ := hd2
      subst e1; subst e2
      have q1 := q x (by simp [ho, Op.operands])
      have q2 := q i (by simp [ho, Op.operands])
      rw [hx] at q1; rw [hi] at q2
      simp only [Rel] at q1
      obtain ⟨vs, hvs, q1⟩ := q1
      obtain ⟨cv, k1, k2⟩ := part_ok (P := P) (hT.ti _ _ hte) q1 hcut hv
      refine ⟨cv, ?_, k2⟩
      have h2 : (0 : Int) ≤ (jj : Int) ∧ (jj : Int) < (n : Int) := by omega
      have hs := (hT.ti _ _ hte).size_run m.w
      simp only [execOp, ho, hvs, q2.1, Instr.index, asIntOf, Sem.run_bind, Sem.run_pure, Result.andThen_ok, run_underlying hd1]
      rw [if_pos h2]
      simp [hs, k1]
    · cases e
  · rename_i x i ho
    split at e
    · rename_i vs hx
      obtain ⟨v, hv, e⟩ := optK_ok e
      refine ⟨v, h, e, (fun _ => Keep.rfl' _), opsem_same fun m a S q => ?_⟩
      have q1 := q x (by simp [ho, Op.operands])
      rw [hx] at q1
      simp only [Rel] at q1
      obtain ⟨us, hus, q1⟩ := q1
      have hlt := (List.getElem?_eq_some_iff.1 hv).1
      have hl := RelL.length q1
      have := (RelL.get i q1 hlt (by omega)).1
      have e1 : vs[i] = v := (List.getElem?_eq_some_iff.1 hv).2
      rw [e1] at this
      exact ⟨us[i], by simp [execOp, ho, hus, Instr.extract, show i < us.length by omega], this⟩
    · cases e
  · rename_i t r ho
    split at e
    · obtain ⟨rr, hr, e⟩ := optK_ok e
      have hkp : keeps E T o.op = true → Keep h rr.2 := fun _ => by
        obtain ⟨b, hb⟩ := makeMapA_shape hr
        rw [hb]; exact Keep.push _ _
      refine ⟨rr.1, rr.2, e, hkp, opsem_val fun m a S q => ?_⟩
      obtain ⟨_, cv, m', g1, g2, g3, g4⟩ := makeMapA_ok (P := P) hT hr m S
      exact ⟨cv, m', by simp [execOp, ho, g1], g2, g3, g4⟩
    · cases e
  · rename_i t x ho
    obtain ⟨rr, hr, e⟩ := optK_ok e
    refine ⟨rr.1, rr.2, e, (by simp [keeps, ho]), opsem_val fun m a S q => ?_⟩
    obtain ⟨cv, m', g1, g2, g3, g4⟩ := rangeA_ok (P := P) hT hr m S (q x (by simp [ho, Op.operands]))
    exact ⟨cv, m', by simp [execOp, ho, g1], g2, g3, g4⟩
  · rename_i t x i ok ho
    rw [lookupK_eq] at e
    obtain ⟨v, hv, e⟩ := optK_ok e
    refine ⟨v, h, e, (fun _ => Keep.rfl' _), opsem_same fun m a S q => ?_⟩
    obtain ⟨cv, g1, g2⟩ := lookupA_ok hT hP.1.2 hv m S (q x (by simp [ho, Op.operands])) (q i (by simp [ho, Op.operands]))
    exact ⟨cv, by simp [execOp, ho, g1], g2⟩
  · rename_i t x i v ho
    obtain ⟨h', hv, e⟩ := optK_ok e
    refine ⟨_, h', e, (by simp [keeps, ho]), fun m a S q next Q hn => ?_⟩
    obtain ⟨m', g1, g2, g3⟩ := insertA_ok hT hP.1.2 hv m S (q x (by simp [ho, Op.operands])) (q i (by simp [ho, Op.operands])) (q v (by simp [ho, Op.operands]))
    have hrun : (execOp a.eval o).run P m.w = .ok .skip m'.w := by simp [execOp, ho, g1]
    unfold Oper.wp
    rw [hrun, Oper.upon_skip]
    exact hn m' undef g2 g3 ⟨[], rfl, rfl⟩
  · rename_i t x i v ho
    obtain ⟨h', hv, e⟩ := optK_ok e
    refine ⟨_, h', e, (by simp [keeps, ho]), fun m a S q next Q hn => ?_⟩
    obtain ⟨m', g1, g2, g3⟩ := insertA_ok hT hP.1.2 hv m S (q x (by simp [ho, Op.operands])) (q i (by simp [ho, Op.operands])) (q v (by simp [ho, Op.operands]))
    have hrun : (execOp a.eval o).run P m.w = .ok .skip m'.w := by simp [execOp, ho, g1]
    unfold Oper.wp
    rw [hrun, Oper.upon_skip]
    exact hn m' undef g2 g3 ⟨[], rfl, rfl⟩
  · rename_i c ho
    have hargs : ∀ (m : Mem) (a : Act), (∀ x ∈ o.op.operands.toList, Rel m h (ev T x) (a.eval x)) → RelL m h false (c.args.toList.map (ev T)) (c.args.toList.map a.eval) := fun m a q => by
      have key : ∀ (l : List Operand), (∀ x ∈ l, Rel m h (ev T x) (a.eval x)) → RelL m h false (l.map (ev T)) (l.map a.eval) := fun l => by
        induction l with
        | nil => intro _; rfl
        | cons x l ih => intro hq; exact ⟨_, _, rfl, hq x (by simp), (fun q => by cases q), ih fun y hy => hq y (by simp [hy])⟩
      exact key c.args.toList fun x hx => q x (by simp [ho, Op.operands, Call.operands]; exact .inr (by simpa using hx))
    split at e
    · rename_i b hcb
      obtain ⟨v, h', e, kk, k⟩ := builtinA_ok hT e
      have fin : frzK (isApp b && frzIs E f o.dst) v h' K = some res → ∃ v2 h2, K v2 h2 = some res ∧ (isApp b = false → h2 = h') ∧ ∀ (m' : Mem) cv, Sim m' h' → Rel m' h' v cv → ∃ m2, m2.w = m'.w ∧ Ext m' h' m2 h2 ∧ Sim m2 h2 ∧ Rel m2 h2 v2 cv := by
        intro e
        unfold frzK at e
        cases hbb : isApp b && frzIs E f o.dst with
        | false => rw [hbb] at e; simp only [cond_false] at e; exact ⟨v, h', e, fun _ => rfl, fun m' cv S q => ⟨m', rfl, Ext.refl _ _, S, q⟩⟩
        | true =>
          rw [hbb] at e; simp only [cond_true] at e
          split at e
          · rename_i v2 h2 hf
            refine ⟨v2, h2, e, (fun k => by rw [k] at hbb; cases hbb), fun m' cv S q => ?_⟩
            have q' : RelL m' h' false [v] [cv] := ⟨cv, [], rfl, q, (fun k => by cases k), rfl⟩
            obtain ⟨m2, w2, E2, S2, r2⟩ := freezeL_ok [v] S hf q'
            obtain ⟨u, hu, r3⟩ := RelL.one1 r2
            injection hu with hu; subst hu
            exact ⟨m2, w2, E2, S2, r3⟩
          · cases e
      obtain ⟨v2, h2, e, hsame, kf⟩ := fin e
      refine ⟨v2, h2, e, (fun hk => by
        have h1 : h' = h := kk (by simp only [keeps, ho, hcb] at hk; revert hk; cases b <;> simp)
        have h3 : h2 = h' := hsame (by simp only [keeps, ho, hcb] at hk; revert hk; cases b <;> simp [isApp])
        rw [h3, h1]; exact Keep.rfl' _), opsem_val fun m a S q => ?_⟩
      obtain ⟨cv, m', g1, g2, g3, g4⟩ := k o.type (c.args.map fun | .const _ => true | _ => false) m _ S (hargs m a q)
      obtain ⟨m2, w2, E2, S2, r2⟩ := kf m' cv g3 g4
      refine ⟨cv, m2, ?_, g2.trans E2, S2, r2⟩
      rw [w2]
      rw [← arr_map] at g1
      simp [execOp, ho, resolve, hcb, invoke]
      exact g1
    · rename_i g hcv
      split at e
      · rename_i g' cap hg
        have fin : ∀ {v : AV} {h' : Heap}, FnOk P g' → CallRuns P g' (c.args.toList.map (ev T) ++ cap) h v h' → OpSem P o T h v h' := by
          intro v h' ⟨fn, hf1, hf2, hf3⟩ k m a S q next Q hn
          have q1 := q g (by simp [ho, Op.operands, Call.operands, hcv])
          rw [hg] at q1
          simp only [Rel] at q1
          obtain ⟨us, hus, q1⟩ := q1
          have hk := k m (c.args.toList.map a.eval ++ us) S (RelL.append (hargs m a q) q1)
          have hrun : (execOp a.eval o).run P m.w = .ok (.enter g' (c.args.toList.map a.eval ++ us).toArray) m.w := by
            have hf3' : ¬ fn.name = "runtime.NumGoroutine" := by simpa using hf3
            have hb' : ¬ fn.body = none := by intro hbb; rw [hbb] at hf2; cases hf2
            have e1 : c.args.map a.eval ++ us.toArray = (c.args.toList.map a.eval ++ us).toArray := by rw [arr_map]; simp
            simp [execOp, ho, resolve, hcv, hus, Deferred.ofValue, invoke, callFunc, hf1, hf3', hb', e1]
          unfold Oper.wp
          rw [hrun, Oper.upon_enter]
          refine hk.mono fun e w' hh => ?_
          obtain ⟨m', cv, rfl, rfl, h1, h2, h3⟩ := hh
          exact hn m' cv h1 h2 h3
        cases hx : E.ext g' with
        | true =>
          rw [hx] at e; simp only [cond_true] at e
          split at e
          · rename_i y hy
            refine ⟨_, h, e, (fun _ => Keep.rfl' _), opsem_same fun m a S q => ?_⟩
            have q1 := q g (by simp [ho, Op.operands, Call.operands, hcv])
            rw [hg] at q1
            simp only [Rel] at q1
            obtain ⟨us, hus, q1⟩ := q1
            have q2 := RelL.append (hargs m a q) q1
            rw [hy] at q2
            obtain ⟨z, hz, q3⟩ := RelL.one1 q2
            have e1 : c.args.map a.eval ++ us.toArray = #[z] := by rw [arr_map]; simp only [List.append_toArray, hz]
            refine ⟨z, ?_, q3⟩
            simp [execOp, ho, resolve, hcv, hus, Deferred.ofValue, invoke, e1, hP.1.1 g' hx z m.w]
          · cases e
        | false =>
          rw [hx] at e; simp only [cond_false] at e
          split at e
          · rename_i H hH
            obtain ⟨v, nb, e, hfo, k⟩ := hP.2 g' H hH R _ h _ _ e
            exact ⟨v, _, e, (fun _ => Keep.append _ _), fin hfo k⟩
          · rename_i hH
            obtain ⟨v, h', e, hfo, k⟩ := hc _ _ _ _ _ e
            exact ⟨v, h', e, (by simp [keeps, ho, hcv, hg, hH, hx]), fin hfo k⟩
      · cases e
    · cases e
  · cases e

end Go.Proofs.YtohlmkcljoakfaaDoorAbs

/- Temporaries; the operations of a region in the text's order. -/
namespace Go.Proofs.YtohlmkcljoakfaaDoorAbs
set_option linter.unusedVariables false
set_option linter.unusedSimpArgs false
open Go
variable {R : Type}

theorem ofVal1_rel (m : Mem) (h : Heap) (v : Value) : Rel m h (ofVal1 v) v := by
  unfold ofVal1
  split
  · exact rfl
  · rename_i k n
    cases hu : u8ok k n with
    | true => simp only [cond_true]; exact ⟨rfl, hu⟩
    | false => simp only [cond_false]; trivial
  · simp only [Rel]; exact ⟨_, rfl, rfl⟩
  · exact rfl
  · exact rfl
  · exact ⟨[], rfl, rfl⟩
  · trivial
theorem ofVal1L (m : Mem) (h : Heap) : (cs : List Value) → (∀ c ∈ cs, c.oneCell' = true) → RelL m h true (cs.map ofVal1) cs
  | [], _ => rfl
  | c :: cs, hu => ⟨c, cs, rfl, ofVal1_rel m h c, fun _ => hu c (by simp), ofVal1L m h cs fun x hx => hu x (by simp [hx])⟩
theorem ofVal_rel (m : Mem) (h : Heap) (v : Value) : Rel m h (ofVal v) v := by
  unfold ofVal
  split
  · rename_i cs
    cases hu : cs.all Value.oneCell' with
    | true =>
      simp only [cond_true]
      refine ⟨cs, rfl, ?_⟩
      exact ofVal1L m h cs (List.all_eq_true.1 hu)
    | false => simp only [cond_false]; trivial
  · exact ofVal1_rel m h v

/-- What the temporaries hold. -/
def RelT (m : Mem) (h : Heap) (T : List AV) (a : Act) : Prop := T.length = a.tmps.size ∧ ∀ t, Rel m h (tget T t) (a.tmps.getD t undef)

theorem RelT.ev {m : Mem} {h : Heap} {T : List AV} {a : Act} (q : RelT m h T a) (x : Operand) : Rel m h (ev T x) (a.eval x) := by
  cases x with
  | tmp t => exact q.2 t
  | const v => exact ofVal_rel m h v
  | global _ => trivial
  | func f => exact ⟨[], rfl, rfl⟩
theorem tget_tset (T : List AV) (i j : Nat) (v : AV) : tget (tset T i v) j = if i = j ∧ i < T.length then v else tget T j := by
  induction T generalizing i j with
  | nil => simp [tset, tget]
  | cons a T ih =>
    cases i with
    | zero => cases j <;> simp [tset, tget]
    | succ i => cases j with
      | zero => simp [tset, tget]
      | succ j => simp [tset, tget, ih]
theorem tset_length (T : List AV) (i : Nat) (v : AV) : (tset T i v).length = T.length := by rw [tset_eq]; simp
theorem tset_self {T : List AV} {i : Nat} {v : AV} (e : tget T i = v) : tset T i v = T := by
  induction T generalizing i with
  | nil => rfl
  | cons a T ih => cases i with
    | zero => simp only [tget] at e; subst e; rfl
    | succ i => simp only [tget] at e; simp only [tset, ih e]
theorem RelT.put {m : Mem} {h : Heap} {T : List AV} {a : Act} (q : RelT m h T a) (d : Option Tmp) {v : AV} {cv : Value} (k : Rel m h v cv) : RelT m h (tput T d v) (a.put d cv) := by
  cases d with
  | none => exact q
  | some d =>
    refine ⟨by simp [tput, tset_length, Act.put, q.1], fun t => ?_⟩
    simp only [tput, Act.put, tget_tset]
    by_cases e : d = t ∧ d < T.length
    · rw [if_pos e]
      obtain ⟨rfl, h2⟩ := e
      have : d < a.tmps.size := by rw [← q.1]; exact h2
      simp [this]
      exact k
    · rw [if_neg e]
      have := q.2 t
      have e2 : (a.tmps.setIfInBounds d cv).getD t undef = a.tmps.getD t undef := by
        by_cases hd : d = t
        · subst hd
          have : ¬ d < a.tmps.size := by rw [← q.1]; exact fun k => e ⟨rfl, k⟩
          simp [Array.getElem?_eq_none (Nat.le_of_not_lt this)]
          intro hk
          exact absurd hk this
        · simp [Array.getElem?_setIfInBounds_ne hd]
      rw [e2]; exact this
theorem RelT.mono {m m' : Mem} {h h' : Heap} (S : Sim m h) (E : Ext m h m' h') {T : List AV} {a : Act} (q : RelT m h T a) : RelT m' h' T a :=
  ⟨q.1, fun t => Rel.mono S E _ _ (q.2 t)⟩

theorem put_defers (a : Act) (d : Option Tmp) (v : Value) : (a.put d v).defers = a.defers := by cases d <;> rfl

/-- What holds when the abstract run goes on from s to s'. -/
structure Goes (m : Mem) (h : Heap) (a : Act) (m' : Mem) (s : St) (a' : Act) : Prop where
  ext : Ext m h m' s.h
  sim : Sim m' s.h
  rel : RelT m' s.h s.T a'
  defers : a'.defers = a.defers

theorem Goes.head {m m1 m2 : Mem} {h h1 : Heap} {a a1 a2 : Act} {s : St} (E : Ext m h m1 h1) (hd : a1.defers = a.defers) (g : Goes m1 h1 a1 m2 s a2) : Goes m h a m2 s a2 :=
  ⟨E.trans g.ext, g.sim, g.rel, g.defers.trans hd⟩

theorem yielded_rel {m : Mem} {h : Heap} {T : List AV} {a : Act} {ops : Array Oper} {j : Nat} {oj : Oper} {g : Tmp} (q : RelT m h T a) (h1 : ops.toList[j]? = some oj) (h2 : oj.dst = some g) :
    yielded ops a.tmps j = match a.tmps[g]? with
      | some (.bool b) => some b
      | _ => none := by
  unfold yielded
  have : ops[j]? = some oj := by simpa using h1
  simp [this, h2]
  cases a.tmps[g]? with
  | none => rfl
  | some v => cases v <;> rfl

theorem runOps_ok {P : Program} {E : Env} (hT : TabOk P E.tab) (hP : PureOk P E) {call : CallF R} (hc : CallOk P call) {f : FuncId} {ops : Array Oper} {K : St → Option R} {res : R} :
    (rest : List Oper) → {s : St} → runOps E f call ops.toList rest s K = some res → ∃ s', K s' = some res ∧ ∀ (m : Mem) (a : Act) (Q : Exit → Act → World → Prop), Sim m s.h → RelT m s.h s.T a → (∀ m' a', Goes m s.h a m' s' a' → Q .normal a' m'.w) → wpList P ops Q rest a m.w
  | [], s, e => by
    simp only [runOps, goOn_eq] at e
    exact ⟨s, e, fun m a Q S q hq => hq m a ⟨Ext.refl m s.h, S, q, rfl⟩⟩
  | o :: rest, s, e => by
    have yes : ∀ {T : List AV} (hTT : T = s.T), step E f call T s.h o (fun v h => runOps E f call ops.toList rest ⟨tput T o.dst v, h⟩ K) = some res → ∃ s', K s' = some res ∧ ∀ (m : Mem) (a : Act) (Q : Exit → Act → World → Prop), Sim m s.h → RelT m s.h s.T a → (∀ m' a', Goes m s.h a m' s' a' → Q .normal a' m'.w) → o.wp P a m.w (wpList P ops Q rest) Q := by
      intro T hTT e
      subst hTT
      obtain ⟨v, h', e, _, k⟩ := step_ok hT hP hc e
      obtain ⟨s', e, k2⟩ := runOps_ok hT hP hc rest e
      refine ⟨s', e, fun m a Q S q hq => k m a S (fun x _ => q.ev x) _ Q fun m' cv E1 S1 r1 => ?_⟩
      exact k2 m' (a.put o.dst cv) Q S1 ((RelT.mono S E1 q).put o.dst r1) fun m'' a'' g => hq m'' a'' (g.head E1 (put_defers _ _ _))
    have no : ∀ {T : List AV} (hTT : T = s.T), runOps E f call ops.toList rest ⟨tput T o.dst (.tup []), s.h⟩ K = some res → ∃ s', K s' = some res ∧ ∀ (m : Mem) (a : Act) (Q : Exit → Act → World → Prop), Sim m s.h → RelT m s.h s.T a → (∀ m' a', Goes m s.h a m' s' a' → Q .normal a' m'.w) → wpList P ops Q rest (a.put o.dst undef) m.w := by
      intro T hTT e
      subst hTT
      obtain ⟨s', e, k2⟩ := runOps_ok hT hP hc rest e
      exact ⟨s', e, fun m a Q S q hq => k2 m (a.put o.dst undef) Q S (q.put o.dst ⟨[], rfl, rfl⟩) fun m'' a'' g => hq m'' a'' (g.head (Ext.refl _ _) (put_defers _ _ _))⟩
    simp only [runOps, goOn_eq] at e
    split at e
    · rename_i hg
      obtain ⟨s', e, k⟩ := yes rfl e
      refine ⟨s', e, fun m a Q S q hq => ?_⟩
      unfold wpList
      rw [if_pos (by simp [Region.wanted, hg])]
      exact .inl (k m a Q S q hq)
    · rename_i j want hg
      split at e
      · rename_i oj hoj
        split at e
        · rename_i g hdst
          -- the guard's own value
          have gv : ∀ {m : Mem} {a : Act} {b : Bool}, RelT m s.h s.T a → tget s.T g = .bool b → Region.wanted o (yielded ops a.tmps) = (b == want) := by
            intro m a b q hb
            have hlt : g < s.T.length := by
              rcases Nat.lt_or_ge g s.T.length with k | k
              · exact k
              · rw [tget_ge k] at hb; cases hb
            have h1 := q.2 g
            rw [hb] at h1
            have h2 : a.tmps[g]? = some (.bool b) := by
              have hlt2 : g < a.tmps.size := by rw [← q.1]; exact hlt
              have : a.tmps.getD g undef = .bool b := h1
              simp [hlt2] at this
              simp [hlt2, this]
            unfold Region.wanted
            rw [hg]
            simp only
            rw [yielded_rel q hoj hdst, h2]
            cases b <;> cases want <;> rfl
          have gu : ∀ {m : Mem} {a : Act} {vs : List AV}, RelT m s.h s.T a → tget s.T g = .tup vs → Region.wanted o (yielded ops a.tmps) = false := by
            intro m a vs q hb
            have h1 := q.2 g
            rw [hb] at h1
            simp only [Rel] at h1
            obtain ⟨us, h1, _⟩ := h1
            unfold Region.wanted
            rw [hg]
            simp only
            rw [yielded_rel q hoj hdst]
            cases hx : a.tmps[g]? with
            | none => rfl
            | some v =>
              have : a.tmps.getD g undef = v := by
                obtain ⟨hlt, hv⟩ := Array.getElem?_eq_some_iff.1 hx
                simp [hlt, hv]
              rw [this] at h1
              subst h1
              rfl
          have wrapY : ∀ {b : Bool} (hb : tget s.T g = .bool b) (hw : (b == want) = true), (∃ s', K s' = some res ∧ ∀ (m : Mem) (a : Act) (Q : Exit → Act → World → Prop), Sim m s.h → RelT m s.h s.T a → (∀ m' a', Goes m s.h a m' s' a' → Q .normal a' m'.w) → o.wp P a m.w (wpList P ops Q rest) Q) →
              ∃ s', K s' = some res ∧ ∀ (m : Mem) (a : Act) (Q : Exit → Act → World → Prop), Sim m s.h → RelT m s.h s.T a → (∀ m' a', Goes m s.h a m' s' a' → Q .normal a' m'.w) → wpList P ops Q (o :: rest) a m.w := by
            intro b hb hw ⟨s', e, k⟩
            refine ⟨s', e, fun m a Q S q hq => ?_⟩
            unfold wpList
            rw [if_pos (by rw [gv q hb]; exact hw)]
            exact .inl (k m a Q S q hq)
          have wrapN : (∀ {m : Mem} {a : Act}, RelT m s.h s.T a → Region.wanted o (yielded ops a.tmps) = false) → (∃ s', K s' = some res ∧ ∀ (m : Mem) (a : Act) (Q : Exit → Act → World → Prop), Sim m s.h → RelT m s.h s.T a → (∀ m' a', Goes m s.h a m' s' a' → Q .normal a' m'.w) → wpList P ops Q rest (a.put o.dst undef) m.w) →
              ∃ s', K s' = some res ∧ ∀ (m : Mem) (a : Act) (Q : Exit → Act → World → Prop), Sim m s.h → RelT m s.h s.T a → (∀ m' a', Goes m s.h a m' s' a' → Q .normal a' m'.w) → wpList P ops Q (o :: rest) a m.w := by
            intro hw ⟨s', e, k⟩
            refine ⟨s', e, fun m a Q S q hq => ?_⟩
            unfold wpList
            rw [if_neg (by rw [hw q]; simp)]
            exact k m a Q S q hq
          split at e
          · rename_i b hb
            cases b with
            | true =>
              simp only [cond_true] at e
              cases want with
              | true => simp only [cond_true] at e; exact wrapY hb rfl (yes (tset_self hb) e)
              | false => simp only [cond_false] at e; exact wrapN (fun q => gv q hb) (no (tset_self hb) e)
            | false =>
              simp only [cond_false] at e
              cases want with
              | true => simp only [cond_true] at e; exact wrapN (fun q => gv q hb) (no (tset_self hb) e)
              | false => simp only [cond_false] at e; exact wrapY hb rfl (yes (tset_self hb) e)
          · rename_i vs hb
            exact wrapN (fun q => gu q hb) (no rfl e)
          · cases e
        · cases e
      · cases e

end Go.Proofs.YtohlmkcljoakfaaDoorAbs

/- What a call leaves behind: its blocks that nothing leads to are left, the others move down. -/
namespace Go.Proofs.YtohlmkcljoakfaaDoorAbs
set_option linter.unusedVariables false
set_option linter.unusedSimpArgs false
open Go
variable {R : Type}

theorem renIdK_some {g : Nat → Option Nat} {i : Nat} {K : Nat → Option R} {res : R} (e : renIdK g i K = some res) : ∃ j, g i = some j ∧ K j = some res := by
  unfold renIdK at e
  split at e
  · rename_i j hj; rw [forceNat_eq] at e; exact ⟨j, hj, e⟩
  · cases e
mutual
theorem AV.renK_some {g : Nat → Option Nat} {res : R} : (v : AV) → (K : AV → Option R) → v.renK g K = some res → ∃ v', v.ren g = some v' ∧ K v' = some res
  | .any, K, e | .nils, K, e | .zcap, K, e | .nilptr, K, e => ⟨_, rfl, e⟩
  | .bool _, K, e | .int _ _, K, e | .str _, K, e => ⟨_, rfl, e⟩
  | .list _ _ _, K, e => ⟨_, rfl, e⟩
  | .own i, K, e => by obtain ⟨j, hj, e⟩ := renIdK_some e; exact ⟨_, by simp only [AV.ren, hj], e⟩
  | .msl i o n, K, e => by obtain ⟨j, hj, e⟩ := renIdK_some e; exact ⟨_, by simp only [AV.ren, hj], e⟩
  | .vsl i o n, K, e => by obtain ⟨j, hj, e⟩ := renIdK_some e; exact ⟨_, by simp only [AV.ren, hj], e⟩
  | .ptr i o, K, e => by obtain ⟨j, hj, e⟩ := renIdK_some e; exact ⟨_, by simp only [AV.ren, hj], e⟩
  | .eptr i x o, K, e => by obtain ⟨j, hj, e⟩ := renIdK_some e; exact ⟨_, by simp only [AV.ren, hj], e⟩
  | .iter i, K, e => by obtain ⟨j, hj, e⟩ := renIdK_some e; exact ⟨_, by simp only [AV.ren, hj], e⟩
  | .mapv i, K, e => by obtain ⟨j, hj, e⟩ := renIdK_some e; exact ⟨_, by simp only [AV.ren, hj], e⟩
  | .agg cs, K, e => by obtain ⟨cs', h, e⟩ := renLK_some cs _ e; exact ⟨_, by simp only [AV.ren, h], e⟩
  | .tup cs, K, e => by obtain ⟨cs', h, e⟩ := renLK_some cs _ e; exact ⟨_, by simp only [AV.ren, h], e⟩
  | .rptr cs, K, e => by obtain ⟨cs', h, e⟩ := renLK_some cs _ e; exact ⟨_, by simp only [AV.ren, h], e⟩
  | .fn f cs, K, e => by obtain ⟨cs', h, e⟩ := renLK_some cs _ e; exact ⟨_, by simp only [AV.ren, h], e⟩
theorem renLK_some {g : Nat → Option Nat} {res : R} : (cs : List AV) → (K : List AV → Option R) → renLK g cs K = some res → ∃ cs', renL g cs = some cs' ∧ K cs' = some res
  | [], K, e => ⟨[], rfl, e⟩
  | v :: vs, K, e => by
    obtain ⟨v', h1, e⟩ := AV.renK_some v _ e
    obtain ⟨vs', h2, e⟩ := renLK_some vs _ e
    exact ⟨_, by simp only [renL, h1, h2], e⟩
end

def RenB (g : Nat → Option Nat) : Option Blk → Option Blk → Prop
  | none, none => True
  | some b, some b' => b.ren g = some b'
  | _, _ => False

theorem heapRenK_some {g : Nat → Option Nat} {res : R} : (h : Heap) → (K : Heap → Option R) → heapRenK g h K = some res → ∃ h', K h' = some res ∧ h'.length = h.length ∧ ∀ i, RenB g (hget h i) (hget h' i)
  | [], K, e => ⟨[], e, rfl, fun i => trivial⟩
  | none :: h, K, e => by
    obtain ⟨h', e, hl, k⟩ := heapRenK_some h _ e
    exact ⟨_, e, by simp [hl], fun i => by cases i with
      | zero => exact trivial
      | succ i => exact k i⟩
  | some (.var t cs) :: h, K, e => by
    simp only [heapRenK] at e
    obtain ⟨cs', hc, e⟩ := renLK_some cs _ e
    obtain ⟨h', e, hl, k⟩ := heapRenK_some h _ e
    refine ⟨_, e, by simp [hl], fun i => ?_⟩
    cases i with
      | zero => simp only [hget, RenB, Blk.ren, hc]
      | succ i => exact k i
  | some (.arr t r l) :: h, K, e => by
    obtain ⟨h', e, hl, k⟩ := heapRenK_some h _ e
    exact ⟨_, e, by simp [hl], fun i => by cases i with
      | zero => exact rfl
      | succ i => exact k i⟩
  | some (.miter mid n sn) :: h, K, e => by
    simp only [heapRenK] at e
    obtain ⟨j, hj, e⟩ := renIdK_some e
    obtain ⟨h', e, hl, k⟩ := heapRenK_some h _ e
    refine ⟨_, e, by simp [hl], fun i => ?_⟩
    cases i with
      | zero => simp only [hget, RenB, Blk.ren, hj]
      | succ i => exact k i
  | some (.siter l p) :: h, K, e => by
    obtain ⟨h', e, hl, k⟩ := heapRenK_some h _ e
    exact ⟨_, e, by simp [hl], fun i => by cases i with
      | zero => exact rfl
      | succ i => exact k i⟩
  | some (.map _ _ _ _) :: h, K, e => by
    obtain ⟨h', e, hl, k⟩ := heapRenK_some h _ e
    exact ⟨_, e, by simp [hl], fun i => by cases i with
      | zero => exact rfl
      | succ i => exact k i⟩

theorem Blk.ren_arr {g : Nat → Option Nat} {b : Blk} {t : TypeId} {r : Row} {l : List r.den} (e : b.ren g = some (.arr t r l)) : b = .arr t r l := by
  cases b with
  | var t cs => simp only [Blk.ren] at e; split at e <;> cases e
  | arr _ _ _ => simp only [Blk.ren] at e; injection e
  | siter _ _ => simp only [Blk.ren] at e; cases e
  | miter _ _ _ => simp only [Blk.ren] at e; split at e <;> cases e
  | map _ _ _ _ => simp only [Blk.ren] at e; cases e
theorem Blk.ren_siter {g : Nat → Option Nat} {b : Blk} {l : List Int} {p : Nat} (e : b.ren g = some (.siter l p)) : b = .siter l p := by
  cases b with
  | var t cs => simp only [Blk.ren] at e; split at e <;> cases e
  | arr _ _ _ => simp only [Blk.ren] at e; cases e
  | siter _ _ => simp only [Blk.ren] at e; injection e
  | miter _ _ _ => simp only [Blk.ren] at e; split at e <;> cases e
  | map _ _ _ _ => simp only [Blk.ren] at e; cases e
theorem Blk.ren_map {g : Nat → Option Nat} {b : Blk} {ka : Bool} {rk : Row} {c : CTy} {es : List (rk.den × c.den)} (e : b.ren g = some (.map ka rk c es)) : b = .map ka rk c es := by
  cases b with
  | var t cs => simp only [Blk.ren] at e; split at e <;> cases e
  | arr _ _ _ => simp only [Blk.ren] at e; cases e
  | siter _ _ => simp only [Blk.ren] at e; cases e
  | miter _ _ _ => simp only [Blk.ren] at e; split at e <;> cases e
  | map _ _ _ _ => simp only [Blk.ren] at e; injection e
theorem renL_len {g : Nat → Option Nat} : (cs : List AV) → {ds : List AV} → renL g cs = some ds → ds.length = cs.length
  | [], ds, e => by simp only [renL] at e; injection e with e; subst e; rfl
  | c :: cs, ds, e => by
    simp only [renL] at e
    split at e
    · split at e
      · rename_i vs hv
        injection e with e; subst e
        simp [renL_len cs hv]
      · cases e
    · cases e
theorem Blk.ren_var {g : Nat → Option Nat} {b : Blk} {t : TypeId} {cs : List AV} (e : b.ren g = some (.var t cs)) : ∃ cs0, b = .var t cs0 ∧ renL g cs0 = some cs := by
  cases b with
  | var t0 cs0 =>
    simp only [Blk.ren] at e
    split at e
    · rename_i c hc; injection e with e; injection e with e1 e2; subst e1; subst e2; exact ⟨cs0, rfl, hc⟩
    · cases e
  | arr _ _ _ => simp only [Blk.ren] at e; injection e with e; cases e
  | siter _ _ => simp only [Blk.ren] at e; injection e with e; cases e
  | miter _ _ _ => simp only [Blk.ren] at e; split at e <;> (first | cases e | (injection e with e; cases e))
  | map _ _ _ _ => simp only [Blk.ren] at e; injection e with e; cases e

theorem Blk.ren_isIt {g : Nat → Option Nat} {b b' : Blk} (e : b.ren g = some b') : b'.isIt = b.isIt := by
  cases b with
  | var t cs => simp only [Blk.ren] at e; split at e <;> (first | (cases e; rfl) | cases e)
  | arr _ _ _ => simp only [Blk.ren] at e; injection e with e; subst e; rfl
  | siter _ _ => simp only [Blk.ren] at e; injection e with e; subst e; rfl
  | miter _ _ _ => simp only [Blk.ren] at e; split at e <;> (first | (cases e; rfl) | cases e)
  | map _ _ _ _ => simp only [Blk.ren] at e; injection e with e; subst e; rfl
structure RenOk (m : Mem) (h : Heap) (m2 : Mem) (h2 : Heap) (g : Nat → Option Nat) : Prop where
  w : m2.w = m.w
  gd : m2.good = m.good
  id : ∀ i j, g i = some j → i < h.length → j < h2.length ∧ m2.loc j = m.loc i ∧ RenB g (hget h i) (hget h2 j)

theorem RenB.some_right {g : Nat → Option Nat} {x : Option Blk} {b : Blk} (k : RenB g x (some b)) : ∃ b0, x = some b0 ∧ b0.ren g = some b := by
  cases x with
  | none => exact k.elim
  | some b0 => exact ⟨b0, rfl, k⟩

mutual
theorem Rel.ren {m m2 : Mem} {h h2 : Heap} {g : Nat → Option Nat} (H : RenOk m h m2 h2 g) : (v v' : AV) → (cv : Value) → v.ren g = some v' → Rel m h v cv → Rel m2 h2 v' cv
  | .any, v', cv, e, k => by simp only [AV.ren] at e; injection e with e; subst e; exact k
  | .nils, v', cv, e, k => by simp only [AV.ren] at e; injection e with e; subst e; exact k
  | .zcap, v', cv, e, k => by simp only [AV.ren] at e; injection e with e; subst e; exact k
  | .nilptr, v', cv, e, k => by simp only [AV.ren] at e; injection e with e; subst e; exact k
  | .bool _, v', cv, e, k => by simp only [AV.ren] at e; injection e with e; subst e; exact k
  | .int _ _, v', cv, e, k => by simp only [AV.ren] at e; injection e with e; subst e; exact k
  | .str _, v', cv, e, k => by
    simp only [AV.ren] at e; injection e with e; subst e
    simp only [Rel] at k ⊢; rw [H.w, H.gd]; exact k
  | .list _ _ _, v', cv, e, k => by
    simp only [AV.ren] at e; injection e with e; subst e
    simp only [Rel] at k ⊢; rw [H.w, H.gd]; exact k
  | .own i, v', cv, e, k => by
    simp only [AV.ren] at e
    split at e
    · rename_i j hj
      injection e with e; subst e
      simp only [Rel] at k ⊢
      obtain ⟨h1, h2, h3⟩ := H.id i j hj k.1.1
      refine ⟨⟨h1, k.1.2⟩, fun et r l q => ?_⟩
      rw [q] at h3
      obtain ⟨b0, e0, eb⟩ := h3.some_right
      rw [Blk.ren_arr eb] at e0
      rw [h2, H.w]; exact k.2 et r l e0
    · cases e
  | .msl i o n, v', cv, e, k => by
    simp only [AV.ren] at e
    split at e
    · rename_i j hj
      injection e with e; subst e
      simp only [Rel] at k ⊢
      obtain ⟨h1, h2, h3⟩ := H.id i j hj k.1.1
      refine ⟨⟨h1, k.1.2⟩, fun et r l q => ?_⟩
      rw [q] at h3
      obtain ⟨b0, e0, eb⟩ := h3.some_right
      rw [Blk.ren_arr eb] at e0
      rw [h2]; exact k.2 et r l e0
    · cases e
  | .vsl i o n, v', cv, e, k => by
    simp only [AV.ren] at e
    split at e
    · rename_i j hj
      injection e with e; subst e
      simp only [Rel] at k ⊢
      obtain ⟨h1, h2, h3⟩ := H.id i j hj k.1.1
      refine ⟨⟨h1, k.1.2⟩, fun vt cs q => ?_⟩
      rw [q] at h3
      obtain ⟨b0, e0, eb⟩ := h3.some_right
      obtain ⟨cs0, eb, er⟩ := Blk.ren_var eb
      rw [eb] at e0
      rw [h2, renL_len cs0 er]; exact k.2 vt cs0 e0
    · cases e
  | .ptr i o, v', cv, e, k => by
    simp only [AV.ren] at e
    split at e
    · rename_i j hj
      injection e with e; subst e
      simp only [Rel] at k ⊢
      obtain ⟨h1, h2, h3⟩ := H.id i j hj k.1.1
      refine ⟨⟨h1, k.1.2⟩, fun vt cs q => ?_⟩
      rw [q] at h3
      obtain ⟨b0, e0, eb⟩ := h3.some_right
      obtain ⟨cs0, eb, _⟩ := Blk.ren_var eb
      rw [eb] at e0
      rw [h2]; exact k.2 vt cs0 e0
    · cases e
  | .eptr i x o, v', cv, e, k => by
    simp only [AV.ren] at e
    split at e
    · rename_i j hj
      injection e with e; subst e
      simp only [Rel] at k ⊢
      obtain ⟨h1, h2, h3⟩ := H.id i j hj k.1.1
      refine ⟨⟨h1, k.1.2⟩, fun et r l q => ?_⟩
      rw [q] at h3
      obtain ⟨b0, e0, eb⟩ := h3.some_right
      rw [Blk.ren_arr eb] at e0
      rw [h2]; exact k.2 et r l e0
    · cases e
  | .iter i, v', cv, e, k => by
    simp only [AV.ren] at e
    split at e
    · rename_i j hj
      injection e with e; subst e
      simp only [Rel] at k ⊢
      obtain ⟨h1, h2, h3⟩ := H.id i j hj k.1.1
      refine ⟨⟨h1, k.1.2⟩, fun b q hb => ?_⟩
      rw [q] at h3
      obtain ⟨b0, e0, eb⟩ := h3.some_right
      rw [h2]; exact k.2 b0 e0 (by rw [← Blk.ren_isIt eb]; exact hb)
    · cases e
  | .mapv i, v', cv, e, k => by
    simp only [AV.ren] at e
    split at e
    · rename_i j hj
      injection e with e; subst e
      simp only [Rel] at k ⊢
      obtain ⟨h1, h2, h3⟩ := H.id i j hj k.1.1
      refine ⟨⟨h1, k.1.2⟩, fun ka rk c es q => ?_⟩
      rw [q] at h3
      obtain ⟨b0, e0, eb⟩ := h3.some_right
      rw [Blk.ren_map eb] at e0
      rw [h2]; exact k.2 ka rk c es e0
    · cases e
  | .agg cs, v', cv, e, k => by
    simp only [AV.ren] at e
    split at e
    · rename_i cs' hc
      injection e with e; subst e
      simp only [Rel] at k ⊢
      obtain ⟨vs, h1, h2⟩ := k
      exact ⟨vs, h1, RelL.ren H true cs cs' vs hc h2⟩
    · cases e
  | .tup cs, v', cv, e, k => by
    simp only [AV.ren] at e
    split at e
    · rename_i cs' hc
      injection e with e; subst e
      simp only [Rel] at k ⊢
      obtain ⟨vs, h1, h2⟩ := k
      exact ⟨vs, h1, RelL.ren H false cs cs' vs hc h2⟩
    · cases e
  | .rptr cs, v', cv, e, k => by
    simp only [AV.ren] at e
    split at e
    · rename_i cs' hc
      injection e with e; subst e
      simp only [Rel] at k ⊢
      obtain ⟨B, o, vs, h1, h2, h3, h4⟩ := k
      exact ⟨B, o, vs, h1, by rw [H.gd]; exact h2, RelL.ren H true cs cs' vs hc h3, by rw [H.w]; exact h4⟩
    · cases e
  | .fn f cs, v', cv, e, k => by
    simp only [AV.ren] at e
    split at e
    · rename_i cs' hc
      injection e with e; subst e
      simp only [Rel] at k ⊢
      obtain ⟨vs, h1, h2⟩ := k
      exact ⟨vs, h1, RelL.ren H false cs cs' vs hc h2⟩
    · cases e
theorem RelL.ren {m m2 : Mem} {h h2 : Heap} {g : Nat → Option Nat} (H : RenOk m h m2 h2 g) (one : Bool) : (cs cs' : List AV) → (vs : List Value) → renL g cs = some cs' → RelL m h one cs vs → RelL m2 h2 one cs' vs
  | [], cs', vs, e, k => by simp only [renL] at e; injection e with e; subst e; exact k
  | c :: cs, cs', vs, e, k => by
    simp only [renL] at e
    split at e
    · rename_i c' hc
      split at e
      · rename_i cs2 hcs
        injection e with e; subst e
        simp only [RelL] at k ⊢
        obtain ⟨v, rest, h1, h2, h3, h4⟩ := k
        exact ⟨v, rest, h1, Rel.ren H c c' v hc h2, h3, RelL.ren H one cs cs2 rest hcs h4⟩
      · cases e
    · cases e
end

theorem renL_length {g : Nat → Option Nat} : (cs cs' : List AV) → renL g cs = some cs' → cs'.length = cs.length
  | [], cs', e => by simp only [renL] at e; injection e with e; subst e; rfl
  | c :: cs, cs', e => by
    simp only [renL] at e
    split at e
    · split at e
      · rename_i cs2 hcs
        injection e with e; subst e
        simp [renL_length cs cs2 hcs]
      · cases e
    · cases e
theorem Blk.like_ren {g : Nat → Option Nat} {b b' : Blk} (e : b.ren g = some b') : b.like b' := by
  cases b with
  | var t cs =>
    simp only [Blk.ren] at e
    split at e
    · rename_i c hc; injection e with e; subst e; exact ⟨rfl, (renL_length _ _ hc).symm⟩
    · cases e
  | arr t r l => simp only [Blk.ren] at e; injection e with e; subst e; exact Blk.like_refl _
  | siter l p => simp only [Blk.ren] at e; injection e with e; subst e; exact Blk.like_refl _
  | miter mid n sn => simp only [Blk.ren] at e; split at e <;> (first | (cases e; exact (rfl : n = n)) | cases e)
  | map _ _ _ _ => simp only [Blk.ren] at e; injection e with e; subst e; exact Blk.like_refl _

theorem BlkRel.ren {m m2 : Mem} {h h2 : Heap} {g : Nat → Option Nat} (H : RenOk m h m2 h2 g) {i j : Nat} (hl : m2.loc j = m.loc i) {b b' : Blk} (e : b.ren g = some b') (k : BlkRel m h i b) : BlkRel m2 h2 j b' := by
  cases b with
  | var t cs =>
    simp only [Blk.ren] at e
    split at e
    · rename_i c hc
      injection e with e; subst e
      obtain ⟨B, ca, h1, h2, h3⟩ := k
      exact ⟨B, ca, by rw [hl]; exact h1, by rw [H.w]; exact h2, RelL.ren H true cs c _ hc h3⟩
    · cases e
  | arr t r l =>
    simp only [Blk.ren] at e; injection e with e; subst e
    simp only [BlkRel] at k ⊢
    rw [hl, H.w, H.gd]; exact k
  | siter l p =>
    simp only [Blk.ren] at e; injection e with e; subst e
    simp only [BlkRel] at k ⊢
    rw [hl, H.w]; exact k
  | miter mid n sn =>
    simp only [Blk.ren] at e
    split at e
    · rename_i j' hj
      injection e with e; subst e
      obtain ⟨B, bm, h1, h2, h3, h4⟩ := k
      obtain ⟨g1, g2, g3⟩ := H.id mid j' hj h3
      refine ⟨B, bm, by rw [hl]; exact h1, by rw [H.w]; exact h2, g1, fun b q => ?_⟩
      rw [q] at g3
      obtain ⟨b0, e0, eb⟩ := g3.some_right
      rw [g2]; exact h4 b0 e0
    · cases e
  | map _ _ _ _ =>
    simp only [Blk.ren] at e; injection e with e; subst e
    simp only [BlkRel] at k ⊢
    rw [hl, H.w, H.gd]; exact k

/-! ### which places -/
theorem selIds_mem {ids : List Nat} : (n k : Nat) → ∀ x ∈ selIds ids n k, n ≤ x ∧ x < n + k
  | n, 0, x, hx => by cases hx
  | n, k + 1, x, hx => by
    have rest : x ∈ selIds ids (n + 1) k → n ≤ x ∧ x < n + (k + 1) := fun q => by have := selIds_mem (n + 1) k x q; omega
    simp only [selIds] at hx
    cases hm : mem n ids with
    | true =>
      simp only [hm, cond_true, List.mem_cons] at hx
      rcases hx with rfl | hx
      · omega
      · exact rest hx
    | false => simp only [hm, cond_false] at hx; exact rest hx
theorem selIds_nodup {ids : List Nat} : (n k : Nat) → (selIds ids n k).Nodup
  | n, 0 => List.nodup_nil
  | n, k + 1 => by
    simp only [selIds]
    cases hm : mem n ids with
    | true =>
      simp only [cond_true, List.nodup_cons]
      exact ⟨fun q => by have := selIds_mem (n + 1) k n q; omega, selIds_nodup (n + 1) k⟩
    | false => simp only [cond_false]; exact selIds_nodup (n + 1) k
theorem posOf_some : (ks : List Nat) → (n i j : Nat) → posOf ks n i = some j → ∃ p, j = n + p ∧ ks[p]? = some i
  | [], n, i, j, e => by cases e
  | k :: ks, n, i, j, e => by
    simp only [posOf] at e
    cases hb : Nat.beq k i with
    | true =>
      rw [hb] at e; simp only [cond_true] at e; injection e with e
      have : k = i := Nat.eq_of_beq_eq_true hb
      exact ⟨0, by omega, by simp [this]⟩
    | false =>
      rw [hb] at e; simp only [cond_false] at e
      obtain ⟨p, h1, h2⟩ := posOf_some ks (n + 1) i j e
      exact ⟨p + 1, by omega, by simpa using h2⟩
theorem hget_join (h : Heap) (i : Nat) : hget h i = (h[i]?).join := by
  induction h generalizing i with
  | nil => rfl
  | cons a h ih => cases i with
    | zero => rfl
    | succ i => simp only [hget, List.getElem?_cons_succ]; exact ih i

/-- Where a place came from. -/
def oldOf (L : Nat) (ks : List Nat) (j : Nat) : Nat := if j < L then j else ks.getD (j - L) 0

theorem hget_comp {h : Heap} {L : Nat} {ks : List Nat} (hL : L ≤ h.length) (j : Nat) : hget (h.take L ++ ks.map (hget h)) j = if j < L + ks.length then hget h (oldOf L ks j) else none := by
  rw [hget_join]
  unfold oldOf
  have hlen : (h.take L).length = L := by simp; omega
  by_cases hj : j < L
  · rw [if_pos (by omega), if_pos hj, List.getElem?_append_left (by omega), List.getElem?_take, if_pos hj, ← hget_join]
  · rw [if_neg hj, List.getElem?_append_right (by omega), hlen]
    by_cases hk : j < L + ks.length
    · rw [if_pos hk, List.getElem?_map]
      have hk2 : j - L < ks.length := by omega
      rw [List.getElem?_eq_getElem hk2, List.getD_eq_getElem?_getD, List.getElem?_eq_getElem hk2]
      rfl
    · rw [if_neg hk]
      rw [List.getElem?_eq_none (by simp; omega)]
      rfl

theorem gcK_some {L : Nat} {v : AV} {h : Heap} {K : AV → Heap → Option R} {res : R} (e : gcK L v h K = some res) :
    ∃ v' h', K v' h' = some res ∧ ∀ (m0 m1 : Mem) (h0 : Heap) (cv : Value), h0.length = L → Ext m0 h0 m1 h → Sim m1 h → Rel m1 h v cv → ∃ m2, m2.w = m1.w ∧ Ext m0 h0 m2 h' ∧ Sim m2 h' ∧ Rel m2 h' v' cv := by
  unfold gcK at e
  cases hb : Nat.ble h.length L with
  | true =>
    rw [hb] at e; simp only [cond_true] at e
    exact ⟨v, h, e, fun m0 m1 h0 cv _ E S k => ⟨m1, rfl, E, S, k⟩⟩
  | false =>
    rw [hb] at e; simp only [cond_false] at e
    rw [forceLs_eq forceNat_eq] at e
    generalize hks : selIds (reach L h v) L (h.length - L) = ks at e
    have hkm : ∀ x ∈ ks, L ≤ x ∧ x < h.length := by
      intro x hx
      have hle : ¬ h.length ≤ L := fun q => by rw [Nat.ble_eq_true_of_le q] at hb; cases hb
      rw [← hks] at hx
      have := selIds_mem L _ x hx
      omega
    have hnd : ks.Nodup := by rw [← hks]; exact selIds_nodup _ _
    have hL : L ≤ h.length := by
      have hle : ¬ h.length ≤ L := fun q => by rw [Nat.ble_eq_true_of_le q] at hb; cases hb
      omega
    obtain ⟨v', hv, e⟩ := AV.renK_some v _ e
    obtain ⟨h', e, hl, hh⟩ := heapRenK_some _ _ e
    have hlen : h'.length = L + ks.length := by rw [hl]; simp; omega
    refine ⟨v', h', e, fun m0 m1 h0 cv h0L E S k => ?_⟩
    have hat : ∀ j, j < L + ks.length → RenB (rho L ks) (hget h (oldOf L ks j)) (hget h' j) := by
      intro j hj
      have := hh j
      rwa [hget_comp hL, if_pos hj] at this
    have hout : ∀ j b, hget h' j = some b → j < L + ks.length := fun j b q => by have := hget_lt q; omega
    have hold : ∀ j, j < L + ks.length → ¬ j < L → ∃ p, ks[j - L]? = some p ∧ oldOf L ks j = p ∧ L ≤ p := by
      intro j hj hn
      have hk2 : j - L < ks.length := by omega
      refine ⟨ks[j - L], List.getElem?_eq_getElem hk2, ?_, (hkm _ (List.getElem_mem hk2)).1⟩
      unfold oldOf
      rw [if_neg hn, List.getD_eq_getElem?_getD, List.getElem?_eq_getElem hk2]
      rfl
    have hinj : ∀ i j, i < L + ks.length → j < L + ks.length → oldOf L ks i = oldOf L ks j → i = j := by
      intro i j hi hj q
      by_cases a : i < L
      · by_cases b : j < L
        · unfold oldOf at q; rw [if_pos a, if_pos b] at q; exact q
        · obtain ⟨p, _, h2, h3⟩ := hold j hj b
          rw [h2] at q
          unfold oldOf at q; rw [if_pos a] at q; omega
      · obtain ⟨p, h1, h2, h3⟩ := hold i hi a
        by_cases b : j < L
        · rw [h2] at q
          unfold oldOf at q; rw [if_pos b] at q; omega
        · obtain ⟨p', h1', h2', _⟩ := hold j hj b
          rw [h2, h2'] at q
          subst q
          have hi2 : i - L < ks.length := by omega
          have hj2 : j - L < ks.length := by omega
          rw [List.getElem?_eq_getElem hi2] at h1
          rw [List.getElem?_eq_getElem hj2] at h1'
          have : ks[i - L] = ks[j - L] := by injection h1 with h1; injection h1' with h1'; rw [h1, h1']
          have := (List.getElem_inj hnd).1 this
          omega
    let m2 : Mem := ⟨m1.w, fun j => if j < L + ks.length then m1.loc (oldOf L ks j) else none, m1.good⟩
    have hloc : ∀ j, j < L + ks.length → m2.loc j = m1.loc (oldOf L ks j) := fun j hj => if_pos hj
    have H : RenOk m1 h m2 h' (rho L ks) := by
      refine ⟨rfl, rfl, fun i j hij hi => ?_⟩
      have key : j < L + ks.length ∧ oldOf L ks j = i := by
        unfold rho at hij
        cases hlt : Nat.blt i L with
        | true =>
          rw [hlt] at hij; simp only [cond_true] at hij; injection hij with hij; subst hij
          have : i < L := Nat.le_of_ble_eq_true hlt
          exact ⟨by omega, by unfold oldOf; rw [if_pos this]⟩
        | false =>
          rw [hlt] at hij; simp only [cond_false] at hij
          obtain ⟨p, h1, h2⟩ := posOf_some ks L i j hij
          have hp : p < ks.length := by
            rcases Nat.lt_or_ge p ks.length with q | q
            · exact q
            · rw [List.getElem?_eq_none q] at h2; cases h2
          refine ⟨by omega, ?_⟩
          unfold oldOf
          rw [if_neg (by omega), List.getD_eq_getElem?_getD, h1, Nat.add_sub_cancel_left, h2]; rfl
      obtain ⟨k1, k2⟩ := key
      refine ⟨by omega, by rw [hloc j k1, k2], ?_⟩
      have := hat j k1
      rwa [k2] at this
    have hownd : ∀ B, Owned m2 h' B → Owned m1 h B := by
      rintro B ⟨j, b, o, e1, e2⟩
      have hj := hout j b e1
      have q := hat j hj
      rw [e1] at q
      obtain ⟨b0, e0, _⟩ := q.some_right
      rw [hloc j hj] at e2
      exact ⟨_, b0, o, e0, e2⟩
    have hlow : ∀ j, j < L → oldOf L ks j = j := fun j hj => by unfold oldOf; rw [if_pos hj]
    refine ⟨m2, rfl, ?_, ?_, Rel.ren H v v' cv hv k⟩
    · refine ⟨E.os, E.tape, E.output, E.size, fun B hB hn => ⟨(E.keep B hB hn).1, fun q => (E.keep B hB hn).2 (hownd B q)⟩, E.good, E.back, by omega, ?_, ?_⟩
      · intro id hid q
        rw [h0L] at hid
        have a := hat id (by omega)
        rw [hlow id hid, E.dead id (by omega) q] at a
        cases hq : hget h' id with
        | none => rfl
        | some b => rw [hq] at a; exact a.elim
      · intro id b b' q q'
        have hid : id < L := by rw [← h0L]; exact hget_lt q
        have a := hat id (by omega)
        rw [hlow id hid, q'] at a
        obtain ⟨b1, e1, eb⟩ := a.some_right
        obtain ⟨c1, c2, c3⟩ := E.live id b b1 q e1
        refine ⟨?_, Blk.like_trans c2 (Blk.like_ren eb), c3⟩
        rw [hloc id (by omega), hlow id hid]; exact c1
    · refine ⟨?_, ?_, ?_, S.lt⟩
      · intro id b' q
        have hj := hout id b' q
        have a := hat id hj
        rw [q] at a
        obtain ⟨b, e0, eb⟩ := a.some_right
        exact BlkRel.ren H (hloc id hj) eb (S.blk _ b e0)
      · intro i j b b' B o o' q q' l l'
        have hi := hout i b q
        have hj := hout j b' q'
        have a := hat i hi
        rw [q] at a
        obtain ⟨bi, ei, _⟩ := a.some_right
        have a' := hat j hj
        rw [q'] at a'
        obtain ⟨bj, ej, _⟩ := a'.some_right
        rw [hloc i hi] at l
        rw [hloc j hj] at l'
        exact hinj i j hi hj (S.inj _ _ bi bj B o o' ei ej l l')
      · intro i b B o q l
        have hi := hout i b q
        have a := hat i hi
        rw [q] at a
        obtain ⟨bi, ei, _⟩ := a.some_right
        rw [hloc i hi] at l
        exact S.sep _ bi B o ei l

end Go.Proofs.YtohlmkcljoakfaaDoorAbs

/- Code and calls: the abstract run holds of the model. -/
namespace Go.Proofs.YtohlmkcljoakfaaDoorAbs
set_option linter.unusedVariables false
set_option linter.unusedSimpArgs false
open Go
variable {R : Type}

def Ex.out : Ex → Exit
  | .normal => .normal
  | .exit id => .exit id
  | .ret => .ret

/-- What stays, seen from a base: of the blocks below it nothing is lost; the others may be named anew. -/
structure ExtB (L : Nat) (m : Mem) (h : Heap) (m' : Mem) (h' : Heap) : Prop where
  os : m'.w.os = m.w.os
  tape : m'.w.tape = m.w.tape
  output : m'.w.output = m.w.output
  size : m.w.heap.size ≤ m'.w.heap.size
  keep : ∀ B, B < m.w.heap.size → ¬ Owned m h B → m'.w.heap[B]? = m.w.heap[B]? ∧ ¬ Owned m' h' B
  good : ∀ B, m.good B → m'.good B
  back : ∀ B, m'.good B → m.good B ∨ Owned m h B ∨ m.w.heap.size ≤ B
  len : L ≤ h'.length
  dead : ∀ id, id < L → hget h id = none → hget h' id = none
  live : ∀ id b b', id < L → hget h id = some b → hget h' id = some b' → m'.loc id = m.loc id ∧ b.like b' ∧ ∀ B o, m.loc id = some (B, o) → m'.w.shape? B = m.w.shape? B
theorem Ext.base {L : Nat} {m m' : Mem} {h h' : Heap} (E : Ext m h m' h') (hL : L ≤ h.length) : ExtB L m h m' h' :=
  ⟨E.os, E.tape, E.output, E.size, E.keep, E.good, E.back, Nat.le_trans hL E.len, fun id hi => E.dead id (by omega), fun id b b' _ => E.live id b b'⟩
theorem ExtB.whole {L : Nat} {m m' : Mem} {h h' : Heap} (E : ExtB L m h m' h') (hL : h.length = L) : Ext m h m' h' :=
  ⟨E.os, E.tape, E.output, E.size, E.keep, E.good, E.back, by rw [hL]; exact E.len, fun id hi => E.dead id (by omega), fun id b b' e => E.live id b b' (by have := hget_lt e; omega) e⟩
theorem ExtB.trans {L : Nat} {m m' m'' : Mem} {h h' h'' : Heap} (E : ExtB L m h m' h') (F : ExtB L m' h' m'' h'') : ExtB L m h m'' h'' where
  os := F.os.trans E.os
  tape := F.tape.trans E.tape
  output := F.output.trans E.output
  size := Nat.le_trans E.size F.size
  keep := fun B hB hn => by
    have a := E.keep B hB hn
    have b := F.keep B (Nat.lt_of_lt_of_le hB E.size) a.2
    exact ⟨b.1.trans a.1, b.2⟩
  good := fun B k => F.good B (E.good B k)
  back := fun B k => by
    by_cases hs : m.w.heap.size ≤ B
    · exact .inr (.inr hs)
    by_cases ho : Owned m h B
    · exact .inr (.inl ho)
    rcases F.back B k with k | k | k
    · exact E.back B k
    · exact absurd k (E.keep B (by omega) ho).2
    · exact .inr (.inr (Nat.le_trans E.size k))
  len := F.len
  dead := fun id hi e => F.dead id hi (E.dead id hi e)
  live := fun id b b'' hi e e'' => by
    have hm : ∃ b', hget h' id = some b' := by
      cases q : hget h' id with
      | some b => exact ⟨b, rfl⟩
      | none => have := F.dead id hi q; rw [this] at e''; cases e''
    obtain ⟨b', e'⟩ := hm
    obtain ⟨a1, a2, a3⟩ := E.live id b b' hi e e'
    obtain ⟨c1, c2, c3⟩ := F.live id b' b'' hi e' e''
    exact ⟨c1.trans a1, Blk.like_trans a2 c2, fun B o k => (c3 B o (a1.trans k)).trans (a3 B o k)⟩

structure GoesB (L : Nat) (m : Mem) (h : Heap) (a : Act) (m' : Mem) (s : St) (a' : Act) : Prop where
  ext : ExtB L m h m' s.h
  sim : Sim m' s.h
  rel : RelT m' s.h s.T a'
  defers : a'.defers = a.defers
theorem Goes.base {L : Nat} {m m1 : Mem} {h : Heap} {a a1 : Act} {s1 : St} (g : Goes m h a m1 s1 a1) (hL : L ≤ h.length) : GoesB L m h a m1 s1 a1 :=
  ⟨g.ext.base hL, g.sim, g.rel, g.defers⟩
theorem GoesB.trans {L : Nat} {m m1 m2 : Mem} {h : Heap} {a a1 a2 : Act} {s1 s2 : St} (g : GoesB L m h a m1 s1 a1) (k : GoesB L m1 s1.h a1 m2 s2 a2) : GoesB L m h a m2 s2 a2 :=
  ⟨g.ext.trans k.ext, k.sim, k.rel, k.defers.trans g.defers⟩
theorem GoesB.here {L : Nat} {m : Mem} {s : St} {a : Act} (hL : L ≤ s.h.length) (S : Sim m s.h) (q : RelT m s.h s.T a) : GoesB L m s.h a m s a := ⟨(Ext.refl _ _).base hL, S, q, rfl⟩

def SoundD (P : Program) (c : Code) (s : St) (K : Ex → St → Option R) (res : R) : Prop :=
  ∃ e' s', K e' s' = some res ∧ ∀ (m : Mem) (a : Act) (Q : Exit → Act → World → Prop), Sim m s.h → RelT m s.h s.T a → (∀ m' a', Goes m s.h a m' s' a' → Q e'.out a' m'.w) → c.wp P Q a m.w
def Sound (P : Program) (L : Nat) (c : Code) (s : St) (K : Ex → St → Option R) (res : R) : Prop :=
  ∃ e' s', K e' s' = some res ∧ ∀ (m : Mem) (a : Act) (Q : Exit → Act → World → Prop), L ≤ s.h.length → Sim m s.h → RelT m s.h s.T a → (∀ m' a', GoesB L m s.h a m' s' a' → Q e'.out a' m'.w) → c.wp P Q a m.w

def loops : Code → List Code
  | .seq a b => loops a ++ loops b
  | .cond _ a b => loops a ++ loops b
  | .block _ a => loops a
  | .loop a => a :: loops a
  | .scope a => loops a
  | _ => []

def LoopSound (P : Program) (E : Env) (R : Type) (f : FuncId) (a : Code) : Prop :=
  ∀ n H L s (K : Ex → St → Option R) res, firstRegion a = some n → E.loop R f n = some H → H L s K = some res → Sound P L (.loop a) s K res

/-- What stands behind something. -/
def tails : Code → List Code
  | .seq a b => tails a ++ (b :: tails b)
  | .cond _ a b => tails a ++ tails b
  | .block _ a => tails a
  | .loop a => tails a
  | .scope a => tails a
  | _ => []
def CutSound (P : Program) (E : Env) (R : Type) (f : FuncId) (b : Code) : Prop :=
  ∀ n H L s (K : Ex → St → Option R) res, firstRegion b = some n → E.cut R f n = some H → H L s K = some res → Sound P L b s K res

/-- A drawn region: any order of it. -/
def DrawSound (P : Program) (E : Env) (f : FuncId) (call : CallF R) : Prop :=
  E.drawn = true → ∀ (id : Nat) (ops : Array Oper) (s : St) (K : Ex → St → Option R) (res : R), backB ops.toList 0 = true → runDrawn E f call ops.toList (ancs ops.toList []) 0 ops.toList s [] (K .normal) = some res → SoundD P (.region id ops true) s K res

theorem refine_self {T : List AV} {c : Operand} {b : Bool} (e : Go.Proofs.YtohlmkcljoakfaaDoorAbs.ev T c = .bool b) : refine T c b = T := by
  cases c with
  | tmp t => exact tset_self e
  | _ => rfl

theorem exec_ok {P : Program} {E : Env} (hT : TabOk P E.tab) (hP : PureOk P E) {call : CallF R} (hc : CallOk P call) {f : FuncId} (hd : DrawSound P E f call) {L : Nat} :
    (c : Code) → (∀ a ∈ loops c, LoopSound P E R f a) → (∀ a ∈ tails c, CutSound P E R f a) → {s : St} → {K : Ex → St → Option R} → {res : R} → exec E f call L c s K = some res → Sound P L c s K res
  | .skip, hl, ht, s, K, res, e => ⟨.normal, s, e, fun m a Q hL S q hq => wp_skip (hq m a (.here hL S q))⟩
  | .region id ops false, hl, ht, s, K, res, e => by
    simp only [exec, cond_false] at e
    obtain ⟨s', e, k⟩ := runOps_ok hT hP hc ops.toList e
    exact ⟨.normal, s', e, fun m a Q hL S q hq => wp_region_list (k m a Q S q fun m1 a1 g1 => hq m1 a1 (g1.base hL))⟩
  | .region id ops true, hl, ht, s, K, res, e => by
    simp only [exec, cond_true] at e
    obtain ⟨hdr, e⟩ := cond_some e
    simp only [Bool.and_eq_true] at hdr
    obtain ⟨e1, s1, e2, k⟩ := hd hdr.1 id ops s K res hdr.2 e
    exact ⟨e1, s1, e2, fun m a Q hL S q hq => k m a Q S q fun m1 a1 g1 => hq m1 a1 (g1.base hL)⟩
  | .seq x y, hl, ht, s, K, res, e => by
    simp only [exec] at e
    obtain ⟨e1, s1, e, k1⟩ := exec_ok hT hP hc hd x (fun a ha => hl a (by simp [loops, ha])) (fun a ha => ht a (by simp [tails, ha])) e
    cases e1 with
    | normal =>
      have hy : Sound P L y s1 K res := by
        simp only at e
        split at e
        · rename_i H hH
          split at hH
          · rename_i n hn
            exact ht y (by simp [tails]) n H L s1 K res hn hH e
          · cases hH
        · exact exec_ok hT hP hc hd y (fun a ha => hl a (by simp [loops, ha])) (fun a ha => ht a (by simp [tails, ha])) e
      obtain ⟨e2, s2, e, k2⟩ := hy
      refine ⟨e2, s2, e, fun m a Q hL S q hq => wp_seq (k1 m a _ hL S q fun m1 a1 g1 => ?_)⟩
      exact k2 m1 a1 Q g1.ext.len g1.sim g1.rel fun m2 a2 g2 => hq m2 a2 (g1.trans g2)
    | exit id => exact ⟨_, s1, e, fun m a Q hL S q hq => wp_seq (k1 m a _ hL S q fun m1 a1 g1 => hq m1 a1 g1)⟩
    | ret => exact ⟨_, s1, e, fun m a Q hL S q hq => wp_seq (k1 m a _ hL S q fun m1 a1 g1 => hq m1 a1 g1)⟩
  | .cond c x y, hl, ht, s, K, res, e => by
    simp only [exec] at e
    split at e
    · rename_i b hb
      cases b with
      | true =>
        simp only [cond_true, refine_self hb] at e
        obtain ⟨e1, s1, e, k1⟩ := exec_ok hT hP hc hd x (fun a ha => hl a (by simp [loops, ha])) (fun a ha => ht a (by simp [tails, ha])) e
        refine ⟨e1, s1, e, fun m a Q hL S q hq => wp_cond_true ?_ (k1 m a Q hL S q hq)⟩
        have := q.ev c; rw [hb] at this; exact this
      | false =>
        simp only [cond_false, refine_self hb] at e
        obtain ⟨e1, s1, e, k1⟩ := exec_ok hT hP hc hd y (fun a ha => hl a (by simp [loops, ha])) (fun a ha => ht a (by simp [tails, ha])) e
        refine ⟨e1, s1, e, fun m a Q hL S q hq => wp_cond_false ?_ (k1 m a Q hL S q hq)⟩
        have := q.ev c; rw [hb] at this; exact this
    · cases e
  | .block id x, hl, ht, s, K, res, e => by
    simp only [exec] at e
    obtain ⟨e1, s1, e, k1⟩ := exec_ok hT hP hc hd x (fun a ha => hl a (by simp [loops, ha])) (fun a ha => ht a (by simp [tails, ha])) e
    cases e1 with
    | normal => exact ⟨.normal, s1, e, fun m a Q hL S q hq => wp_block (k1 m a _ hL S q fun m1 a1 g1 => hq m1 a1 g1)⟩
    | ret => exact ⟨.ret, s1, e, fun m a Q hL S q hq => wp_block (k1 m a _ hL S q fun m1 a1 g1 => hq m1 a1 g1)⟩
    | exit j =>
      simp only at e
      cases hj : Nat.beq j id with
      | true =>
        have : j = id := Nat.eq_of_beq_eq_true hj
        have e9 : K .normal s1 = some res := by simpa only [hj, cond_true] using e
        subst this
        exact ⟨.normal, s1, e9, fun m a Q hL S q hq => wp_block (k1 m a _ hL S q fun m1 a1 g1 => by simpa [Ex.out, Exit.inBlock] using hq m1 a1 g1)⟩
      | false =>
        simp only [hj, cond_false] at e
        have : ¬ j = id := Nat.ne_of_beq_eq_false hj
        exact ⟨.exit j, s1, e, fun m a Q hL S q hq => wp_block (k1 m a _ hL S q fun m1 a1 g1 => by simpa [Ex.out, Exit.inBlock, this] using hq m1 a1 g1)⟩
  | .loop x, hl, ht, s, K, res, e => by
    simp only [exec] at e
    split at e
    · rename_i H hH
      split at hH
      · rename_i n hn
        exact hl x (by simp [loops]) n H L s K res hn hH e
      · cases hH
    · have key : ∀ (n : Nat) (s : St), iter (exec E f call L x) K n s = some res → ∃ e' s', K e' s' = some res ∧ ∀ (m : Mem) (a : Act) (Q : Exit → Act → World → Prop), L ≤ s.h.length → Sim m s.h → RelT m s.h s.T a → (∀ m' a', GoesB L m s.h a m' s' a' → Q e'.out a' m'.w) → Code.rounds P x Q n a m.w := by
        intro n
        induction n with
        | zero => intro s e; cases e
        | succ n ih =>
          intro s e
          simp only [iter] at e
          obtain ⟨e1, s1, e, k1⟩ := exec_ok hT hP hc hd x (fun a ha => hl a (by simp [loops, ha])) (fun a ha => ht a (by simp [tails, ha])) e
          cases e1 with
          | normal =>
            obtain ⟨e2, s2, e, k2⟩ := ih s1 e
            exact ⟨e2, s2, e, fun m a Q hL S q hq => k1 m a _ hL S q fun m1 a1 g1 => k2 m1 a1 Q g1.ext.len g1.sim g1.rel fun m2 a2 g2 => hq m2 a2 (g1.trans g2)⟩
          | exit id => exact ⟨_, s1, e, fun m a Q hL S q hq => k1 m a _ hL S q fun m1 a1 g1 => hq m1 a1 g1⟩
          | ret => exact ⟨_, s1, e, fun m a Q hL S q hq => k1 m a _ hL S q fun m1 a1 g1 => hq m1 a1 g1⟩
      obtain ⟨e', s', e, k⟩ := key E.fuel s e
      exact ⟨e', s', e, fun m a Q hL S q hq => wp_loop_rounds E.fuel (k m a Q hL S q hq)⟩
  | .exit id, hl, ht, s, K, res, e => ⟨.exit id, s, e, fun m a Q hL S q hq => wp_exit (hq m a (.here hL S q))⟩
  | .label l, hl, ht, s, K, res, e => ⟨.normal, s, e, fun m a Q hL S q hq => wp_label (hq m a (.here hL S q))⟩
  | .ret, hl, ht, s, K, res, e => ⟨.ret, s, e, fun m a Q hL S q hq => wp_ret (hq m a (.here hL S q))⟩
  | .rangeFunc .., hl, ht, s, K, res, e => by simp [exec] at e
  | .scope .., hl, ht, s, K, res, e => by simp [exec] at e
  | .goto .., hl, ht, s, K, res, e => by simp [exec] at e
  | .refuse .., hl, ht, s, K, res, e => by simp [exec] at e

theorem outOf_ok {P : Program} {E : Env} (hT : TabOk P E.tab) {m : Mem} {s : St} {a : Act} (S : Sim m s.h) (q : RelT m s.h s.T a) :
    (rs : List ResultVar) → {vs : List AV} → outOf E s rs = some vs → ∃ us, (rs.mapM fun
      | .tmp t => pure (a.tmps.getD t undef)
      | .cell c t => do loadVar t (← asAddr (a.tmps.getD c undef)) : Sem (List Value)).run P m.w = .ok us m.w ∧ RelL m s.h false vs us
  | [], vs, e => by
    simp only [outOf] at e; injection e with e; subst e
    exact ⟨[], by simp, rfl⟩
  | .tmp t :: rs, vs, e => by
    simp only [outOf] at e
    split at e
    · rename_i vs' hv
      injection e with e; subst e
      obtain ⟨us, h1, h2⟩ := outOf_ok hT S q rs hv
      refine ⟨a.tmps.getD t undef :: us, ?_, _, _, rfl, q.2 t, (fun k => by cases k), h2⟩
      rw [List.mapM_cons]
      simp only [Sem.run_bind, Sem.run_pure, Result.andThen_ok]
      rw [h1]
      simp only [Result.andThen_ok]
    · cases e
  | .cell c t :: rs, vs, e => by
    simp only [outOf] at e
    split at e
    · rename_i ti hti
      split at e
      · rename_i v vs' hv hvs
        injection e with e; subst e
        obtain ⟨us, h1, h2⟩ := outOf_ok hT S q rs hvs
        obtain ⟨ad, x, g1, g2, g3⟩ := loadAt_ok (P := P) (hT.ti _ _ hti) S hv (q.2 c)
        refine ⟨x :: us, ?_, _, _, rfl, g3, (fun k => by cases k), h2⟩
        rw [List.mapM_cons]
        have ha : (asAddr (a.tmps.getD c undef)).run P m.w = .ok ad m.w := by rw [g1]; simp [asAddr]
        simp only [Sem.run_bind, ha, Sem.run_pure, Result.andThen_ok, g2]
        rw [h1]
        simp only [Result.andThen_ok]
      · cases e
    · cases e

theorem results_ok {P : Program} {E : Env} (hT : TabOk P E.tab) {m : Mem} {s : St} {a : Act} (S : Sim m s.h) (q : RelT m s.h s.T a) {fn : Func} {vs : List AV} (e : outOf E s fn.results.toList = some vs) :
    ∃ v, (results fn a.tmps).run P m.w = .ok v m.w ∧ Rel m s.h (resultA vs) v := by
  obtain ⟨us, h1, h2⟩ := outOf_ok hT S q _ e
  have hr : (results fn a.tmps).run P m.w = .ok (if h : us.toArray.size = 1 then us.toArray[0] else .tuple us.toArray) m.w := by
    unfold results
    rw [Array.mapM_eq_mapM_toList, map_eq_pure_bind]
    simp only [Sem.run_bind]
    erw [h1]
    simp only [Result.andThen_ok, Sem.run_pure]
  refine ⟨_, hr, ?_⟩
  unfold resultA
  split
  · rename_i v
    simp only [RelL] at h2
    obtain ⟨u, rest, rfl, h3, _, rfl⟩ := h2
    simpa using h3
  · rename_i hne
    have hl := RelL.length h2
    have : ¬ us.length = 1 := by
      intro k
      rw [k] at hl
      obtain ⟨x, hx⟩ := List.length_eq_one_iff.1 hl
      exact hne x hx
    rw [dif_neg (by simpa using this)]
    exact ⟨us, rfl, h2⟩

structure EnvOk (P : Program) (E : Env) : Prop where
  tab : TabOk P E.tab
  pure : PureOk P E
  fn : ∀ f fn, E.fn f = some fn → P.funcs[f]? = some fn ∧ (fn.name == "runtime.NumGoroutine") = false
  call : ∀ (R : Type) f H, E.call R f = some H → ∀ args h K (res : R), H args h K = some res → ∃ v h', K v h' = some res ∧ FnOk P f ∧ CallRuns P f args h v h'
  loop : ∀ (R : Type) f fn c a, E.fn f = some fn → fn.body = some c → a ∈ loops c → LoopSound P E R f a
  cut : ∀ (R : Type) f fn c a, E.fn f = some fn → fn.body = some c → a ∈ tails c → CutSound P E R f a
  draw : ∀ (R : Type) f (call : CallF R), CallOk P call → DrawSound P E f call

theorem RelL.rep {m : Mem} {h : Heap} : (args : List AV) → {us : List Value} → (n : Nat) → RelL m h false args us → RelT m h (args ++ List.replicate (n - args.length) .any) { tmps := us.toArray ++ Array.replicate (n - us.toArray.size) undef, defers := [] } := by
  intro args us n q
  have hl := RelL.length q
  refine ⟨by simp [hl], fun t => ?_⟩
  rcases Nat.lt_or_ge t args.length with k | k
  · have := (RelL.get t q k (by omega)).1
    have e1 : tget (args ++ List.replicate (n - args.length) .any) t = args[t] := by
      rw [tget_eq (by simp; omega)]; simp [k]
    have e2 : (us.toArray ++ Array.replicate (n - us.toArray.size) undef).getD t undef = us[t] := by
      have : t < us.length := by omega
      have e3 : (us.toArray ++ Array.replicate (n - us.toArray.size) undef)[t]? = some us[t] := by
        rw [Array.getElem?_append_left (by simpa using this)]
        simp [this]
      rw [Array.getD_eq_getD_getElem?, e3]; rfl
    rw [e1]; simp only; rw [e2]; exact this
  · have e1 : tget (args ++ List.replicate (n - args.length) .any) t = .any := by
      rcases Nat.lt_or_ge t (args ++ List.replicate (n - args.length) AV.any).length with k2 | k2
      · rw [tget_eq k2, List.getElem_append_right k]; simp
      · exact tget_ge k2
    rw [e1]; trivial

theorem acall_ok {P : Program} {E : Env} (hE : EnvOk P E) : (n : Nat) → CallOk (R := R) P (acall E n)
  | 0 => fun f args h K res e => by cases e
  | n + 1 => fun f args h K res e => by
    simp only [acall, frcAV_eq, frcAVs_eq] at e
    split at e
    · rename_i H hH
      exact hE.call R f H hH args h K res e
    · split at e
      · cases e
      · rename_i fn hfn
        split at e
        · cases e
        · rename_i c hb
          obtain ⟨hf, hname⟩ := hE.fn f fn hfn
          obtain ⟨e1, s1, e, k⟩ := exec_ok hE.tab hE.pure (acall_ok hE n) (hE.draw R f _ (acall_ok hE n)) c (fun a ha => hE.loop R f fn c a hfn hb ha) (fun a ha => hE.cut R f fn c a hfn hb ha) e
          have fin : ∀ {vs : List AV}, (e1 = .normal ∨ e1 = .ret) → outOf E s1 fn.results.toList = some vs → gcK h.length (resultA vs) s1.h K = some res → ∃ v' h', K v' h' = some res ∧ CallRuns P f args h v' h' := by
            intro vs he1 hvs eg
            obtain ⟨v', h', e', kk⟩ := gcK_some eg
            refine ⟨v', h', e', fun m us S q => ?_⟩
            refine calls_of_wp hf hb ?_
            refine k m _ _ (Nat.le_refl _) S (RelL.rep args fn.ntmps q) fun m1 a1 g => ?_
            obtain ⟨v, h1, h2⟩ := results_ok hE.tab g.sim g.rel hvs
            obtain ⟨m2, hw, E2, S2, R2⟩ := kk m m1 h v rfl (g.ext.whole rfl) g.sim h2
            rcases he1 with rfl | rfl
            · exact ⟨g.defers, v, h1, m2, v, hw, rfl, E2, S2, R2⟩
            · exact ⟨g.defers, v, h1, m2, v, hw, rfl, E2, S2, R2⟩
          have hfo : FnOk P f := ⟨fn, hf, by rw [hb]; rfl, hname⟩
          cases e1 with
          | exit id => cases e
          | normal =>
            simp only at e
            split at e
            · rename_i vs hvs
              obtain ⟨v', h', e', cr⟩ := fin (.inl rfl) hvs e
              exact ⟨v', h', e', hfo, cr⟩
            · cases e
          | ret =>
            simp only at e
            split at e
            · rename_i vs hvs
              obtain ⟨v', h', e', cr⟩ := fin (.inr rfl) hvs e
              exact ⟨v', h', e', hfo, cr⟩
            · cases e

end Go.Proofs.YtohlmkcljoakfaaDoorAbs

/- Values carried over from memory to memory; a run on a part of the heap, seen in the whole. -/
namespace Go.Proofs.YtohlmkcljoakfaaDoorAbs
set_option linter.unusedVariables false
set_option linter.unusedSimpArgs false
open Go

structure Carry (m : Mem) (h : Heap) (m' : Mem) (h' : Heap) (ok : Nat → Prop) : Prop where
  frozen : ∀ B, m.good B → m'.good B ∧ m'.w.heap[B]? = m.w.heap[B]?
  len : ∀ id, ok id → id < h.length → id < h'.length
  back : ∀ id b', ok id → id < h.length → hget h' id = some b' → ∃ b, hget h id = some b ∧ m'.loc id = m.loc id ∧ b.like b' ∧ ∀ B o, m.loc id = some (B, o) → m'.w.shape? B = m.w.shape? B

theorem Carry.arr {m m' : Mem} {h h' : Heap} {ok : Nat → Prop} (E : Carry m h m' h' ok) {id : Nat} (hk : ok id) (hi : id < h.length) {et : TypeId} {r : Row} {l : List r.den} (e : hget h' id = some (.arr et r l)) :
    ∃ l0 : List r.den, hget h id = some (.arr et r l0) ∧ l0.length = l.length ∧ m'.loc id = m.loc id ∧ ∀ B o, m.loc id = some (B, o) → m'.w.shape? B = m.w.shape? B := by
  obtain ⟨b, eb, h1, h2, h3⟩ := E.back id _ hk hi e
  cases b with
  | var vt cs => exact h2.elim
  | siter _ _ => exact h2.elim
  | miter _ _ _ => exact h2.elim
  | map _ _ _ _ => exact h2.elim
  | arr et0 s l0 =>
    obtain ⟨rfl, rfl, h2⟩ := h2
    exact ⟨l0, eb, h2, h1, h3⟩

mutual
theorem Rel.carry {m m' : Mem} {h h' : Heap} {ok : Nat → Prop} (E : Carry m h m' h' ok) : (a : AV) → (v : Value) → (∀ id ∈ a.refs, ok id) → Rel m h a v → Rel m' h' a v
  | .any, v, _, k => trivial
  | .bool b, v, _, k => k
  | .int _ n, v, _, k => k
  | .str l, v, _, k => k
  | .list r l nn, v, _, k => ⟨CTy.rep_mono E.frozen (.slice r) l v k.1, k.2⟩
  | .nils, v, _, k => k
  | .zcap, v, _, k => k
  | .own id, v, hk, k => by
    simp only [Rel] at k ⊢
    have ho := hk id (by simp [AV.refs])
    refine ⟨⟨E.len id ho k.1.1, k.1.2⟩, fun et r l e => ?_⟩
    obtain ⟨l0, e0, hl, hloc, hsh⟩ := E.arr ho k.1.1 e
    rcases k.2 _ r l0 e0 with ⟨h1, h2, h3⟩ | ⟨B, o, cap, h1, h2, h3, e', n, h4, h5⟩
    · subst h1; exact .inl ⟨List.eq_nil_of_length_eq_zero hl.symm, by rw [hloc]; exact h2, h3⟩
    · exact .inr ⟨B, o, cap, by rw [hloc]; exact h1, by rw [← hl]; exact h2, by rw [← hl]; exact h3, e', n, by rw [hsh B o h1]; exact h4, h5⟩
  | .msl id off len, v, hk, k => by
    simp only [Rel] at k ⊢
    have ho := hk id (by simp [AV.refs])
    refine ⟨⟨E.len id ho k.1.1, k.1.2⟩, fun et r l e => ?_⟩
    obtain ⟨l0, e0, hl, hloc, hsh⟩ := E.arr ho k.1.1 e
    obtain ⟨a, cap, h1, h2, h3, h5, h4⟩ := k.2 _ r l0 e0
    refine ⟨a, cap, h1, h2, by rw [← hl]; exact h3, by rw [← hl]; exact h5, ?_⟩
    rw [hloc]; exact h4
  | .vsl id off len, v, hk, k => by
    simp only [Rel] at k ⊢
    have ho := hk id (by simp [AV.refs])
    refine ⟨⟨E.len id ho k.1.1, k.1.2⟩, fun vt cs e => ?_⟩
    obtain ⟨b, eb, h1, h2, h3⟩ := E.back id _ ho k.1.1 e
    cases b with
    | arr _ _ _ => exact h2.elim
    | siter _ _ => exact h2.elim
    | miter _ _ _ => exact h2.elim
    | map _ _ _ _ => exact h2.elim
    | var vt0 cs0 => rw [h1, ← h2.2]; exact k.2 _ cs0 eb
  | .nilptr, v, _, k => k
  | .ptr id off, v, hk, k => by
    simp only [Rel] at k ⊢
    have ho := hk id (by simp [AV.refs])
    refine ⟨⟨E.len id ho k.1.1, k.1.2⟩, fun vt cs e => ?_⟩
    obtain ⟨b, eb, h1, h2, h3⟩ := E.back id _ ho k.1.1 e
    cases b with
    | arr _ _ _ => exact h2.elim
    | siter _ _ => exact h2.elim
    | miter _ _ _ => exact h2.elim
    | map _ _ _ _ => exact h2.elim
    | var vt0 cs0 => rw [h1]; have := h2.1; exact k.2 _ cs0 eb
  | .eptr id ix j, v, hk, k => by
    simp only [Rel] at k ⊢
    have ho := hk id (by simp [AV.refs])
    refine ⟨⟨E.len id ho k.1.1, k.1.2⟩, fun et r l e => ?_⟩
    obtain ⟨l0, e0, hl, hloc, hsh⟩ := E.arr ho k.1.1 e
    rw [hloc, ← hl]; exact k.2 _ r l0 e0
  | .rptr cs, v, hk, k => by
    simp only [Rel] at k ⊢
    obtain ⟨B, o, vs, h1, h2, h3, c, e, fr, t, h4, h5⟩ := k
    have q := E.frozen B h2
    exact ⟨B, o, vs, h1, q.1, RelL.carry E true cs vs (fun id hid => hk id (by simpa [AV.refs] using hid)) h3, c, e, fr, t, by rw [q.2]; exact h4, h5⟩
  | .fn f cs, v, hk, k => by
    simp only [Rel] at k ⊢
    obtain ⟨vs, h1, h2⟩ := k
    exact ⟨vs, h1, RelL.carry E false cs vs (fun id hid => hk id (by simpa [AV.refs] using hid)) h2⟩
  | .iter id, v, hk, k => by
    simp only [Rel] at k ⊢
    have ho := hk id (by simp [AV.refs])
    refine ⟨⟨E.len id ho k.1.1, k.1.2⟩, fun b' e hb => ?_⟩
    obtain ⟨b, eb, h1, h2, h3⟩ := E.back id _ ho k.1.1 e
    rw [h1]; exact k.2 b eb (by rw [← Blk.like_isIt h2]; exact hb)
  | .mapv id, v, hk, k => by
    simp only [Rel] at k ⊢
    have ho := hk id (by simp [AV.refs])
    refine ⟨⟨E.len id ho k.1.1, k.1.2⟩, fun ka rk c es e => ?_⟩
    obtain ⟨b, eb, h1, h2, h3⟩ := E.back id _ ho k.1.1 e
    cases b with
    | arr _ _ _ => exact h2.elim
    | var _ _ => exact h2.elim
    | siter _ _ => exact h2.elim
    | miter _ _ _ => exact h2.elim
    | map ka0 rk0 c0 es0 => rw [h1]; exact k.2 ka0 rk0 c0 es0 eb
  | .agg cs, v, hk, k => by
    simp only [Rel] at k ⊢
    obtain ⟨vs, h1, h2⟩ := k
    exact ⟨vs, h1, RelL.carry E true cs vs (fun id hid => hk id (by simpa [AV.refs] using hid)) h2⟩
  | .tup cs, v, hk, k => by
    simp only [Rel] at k ⊢
    obtain ⟨vs, h1, h2⟩ := k
    exact ⟨vs, h1, RelL.carry E false cs vs (fun id hid => hk id (by simpa [AV.refs] using hid)) h2⟩
theorem RelL.carry {m m' : Mem} {h h' : Heap} {ok : Nat → Prop} (E : Carry m h m' h' ok) (one : Bool) : (cs : List AV) → (vs : List Value) → (∀ id ∈ refsL cs, ok id) → RelL m h one cs vs → RelL m' h' one cs vs
  | [], vs, _, k => k
  | c :: cs, vs, hk, k => by
    simp only [RelL] at k ⊢
    obtain ⟨v, rest, h1, h2, h3, h4⟩ := k
    exact ⟨v, rest, h1, Rel.carry E c v (fun id hid => hk id (by simp [refsL, hid])) h2, h3, RelL.carry E one cs rest (fun id hid => hk id (by simp [refsL, hid])) h4⟩
end

theorem BlkRel.carry {m m' : Mem} {h h' : Heap} {ok : Nat → Prop} (E : Carry m h m' h' ok) {id : Nat} {b : Blk} (hk : ∀ r ∈ b.refs, ok r) (k : BlkRel m h id b) (hl : m'.loc id = m.loc id)
    (hw : ∀ B o, m.loc id = some (B, o) → m'.w.heap[B]? = m.w.heap[B]?) : BlkRel m' h' id b := by
  cases b with
  | var vt cs =>
    obtain ⟨B, c, h1, h2, h3⟩ := k
    exact ⟨B, c, by rw [hl]; exact h1, by rw [hw B _ h1]; exact h2, RelL.carry E true cs _ (fun id hid => hk id hid) h3⟩
  | arr et r l =>
    rcases k with ⟨h1, h2⟩ | ⟨B, o, c, vs, t, h1, h2, h3, h4, h5⟩
    · exact .inl ⟨h1, by rw [hl]; exact h2⟩
    · exact .inr ⟨B, o, c, vs, t, by rw [hl]; exact h1, by rw [hw B _ h1]; exact h2, h3, h4, RepAll.mono (fun x cs => Row.rep_mono E.frozen r x cs) h5⟩
  | siter l pos =>
    obtain ⟨B, s, h1, h2, h3⟩ := k
    exact ⟨B, s, by rw [hl]; exact h1, by rw [hw B _ h1]; exact h2, h3⟩
  | miter mid n seen =>
    obtain ⟨B, bm, h1, h2, h3, h4⟩ := k
    have ho := hk mid (by simp [Blk.refs])
    refine ⟨B, bm, by rw [hl]; exact h1, by rw [hw B _ h1]; exact h2, E.len mid ho h3, fun b' e => ?_⟩
    obtain ⟨b, eb, g1, _⟩ := E.back mid _ ho h3 e
    rw [g1]; exact h4 b eb
  | map ka rk c es =>
    obtain ⟨B, mes, h1, h2, h3⟩ := k
    exact ⟨B, mes, by rw [hl]; exact h1, by rw [hw B _ h1]; exact h2, EntAll.mono (EntRep.mono E.frozen) h3⟩

/-- A part of the heap. -/
structure Part (M G : Heap) (p : Nat → Prop) : Prop where
  sub : ∀ id b, hget M id = some b → hget G id = some b ∧ p id
  refs : ∀ id b, hget M id = some b → ∀ r ∈ b.refs, p r
  len : ∀ id, p id → id < M.length

theorem Part.carry {m : Mem} {M G : Heap} {p : Nat → Prop} (q : Part M G p) : Carry m G m M p :=
  ⟨fun B k => ⟨k, rfl⟩, fun id k _ => q.len id k, fun id b k _ e => ⟨b, (q.sub id b e).1, rfl, Blk.like_refl b, fun _ _ _ => rfl⟩⟩
theorem Part.sim {m : Mem} {M G : Heap} {p : Nat → Prop} (q : Part M G p) (S : Sim m G) : Sim m M where
  blk := fun id b e => BlkRel.carry q.carry (q.refs id b e) (S.blk id b (q.sub id b e).1) rfl fun _ _ _ => rfl
  inj := fun i j b b' B o o' e e' => S.inj i j b b' B o o' (q.sub i b e).1 (q.sub j b' e').1
  sep := fun i b B o e => S.sep i b B o (q.sub i b e).1
  lt := S.lt

/-- What a change in the whole is, when blocks are born at places kept free for them. -/
structure ExtN (m : Mem) (h : Heap) (m' : Mem) (h' : Heap) (new : Nat → Prop) : Prop where
  os : m'.w.os = m.w.os
  tape : m'.w.tape = m.w.tape
  output : m'.w.output = m.w.output
  size : m.w.heap.size ≤ m'.w.heap.size
  keep : ∀ B, B < m.w.heap.size → ¬ Owned m h B → m'.w.heap[B]? = m.w.heap[B]? ∧ ¬ Owned m' h' B
  good : ∀ B, m.good B → m'.good B
  back : ∀ B, m'.good B → m.good B ∨ Owned m h B ∨ m.w.heap.size ≤ B
  len : h.length ≤ h'.length
  dead : ∀ id, id < h.length → ¬ new id → hget h id = none → hget h' id = none
  live : ∀ id b b', hget h id = some b → hget h' id = some b' → m'.loc id = m.loc id ∧ b.like b' ∧ ∀ B o, m.loc id = some (B, o) → m'.w.shape? B = m.w.shape? B

theorem Ext.transN {m m' m'' : Mem} {h h' h'' : Heap} {new : Nat → Prop} (E : Ext m h m' h') (F : ExtN m' h' m'' h'' new) (hn : ∀ id, new id → h.length ≤ id) : Ext m h m'' h'' where
  os := F.os.trans E.os
  tape := F.tape.trans E.tape
  output := F.output.trans E.output
  size := Nat.le_trans E.size F.size
  keep := fun B hB hn => by
    have a := E.keep B hB hn
    have b := F.keep B (Nat.lt_of_lt_of_le hB E.size) a.2
    exact ⟨b.1.trans a.1, b.2⟩
  good := fun B k => F.good B (E.good B k)
  back := fun B k => by
    by_cases hs : m.w.heap.size ≤ B
    · exact .inr (.inr hs)
    by_cases ho : Owned m h B
    · exact .inr (.inl ho)
    rcases F.back B k with k | k | k
    · exact E.back B k
    · exact absurd k (E.keep B (by omega) ho).2
    · exact .inr (.inr (Nat.le_trans E.size k))
  len := Nat.le_trans E.len F.len
  dead := fun id hi e => F.dead id (Nat.lt_of_lt_of_le hi E.len) (fun k => by have := hn id k; omega) (E.dead id hi e)
  live := fun id b b'' e e'' => by
    have hi := hget_lt e
    cases e' : hget h' id with
    | none =>
      have := F.dead id (Nat.lt_of_lt_of_le hi E.len) (fun k => by have := hn id k; omega) e'
      rw [this] at e''; cases e''
    | some b' =>
      obtain ⟨a1, a2, a3⟩ := E.live id b b' e e'
      obtain ⟨c1, c2, c3⟩ := F.live id b' b'' e' e''
      exact ⟨c1.trans a1, Blk.like_trans a2 c2, fun B o k => (c3 B o (a1.trans k)).trans (a3 B o k)⟩

/-- A run on the part M of the heap G, births at [L, L') : seen in the whole. -/
theorem frame {m m1 : Mem} {G M M' G' : Heap} {L L' : Nat} {p : Nat → Prop} (S : Sim m G) (hL : M.length = L) (hL' : M'.length = L') (hLL : L ≤ L') (hLn : L' ≤ G.length) (hlen : G'.length = G.length)
    (q : Part M G p) (hM : ∀ id b, p id → hget G id = some b → hget M id = some b) (hnew : ∀ id, L ≤ id → id < L' → hget G id = none)
    (g1 : ∀ id, (p id ∨ (L ≤ id ∧ id < L')) → hget G' id = hget M' id) (g2 : ∀ id, ¬ (p id ∨ (L ≤ id ∧ id < L')) → hget G' id = hget G id)
    (E : Ext m M m1 M') (S1 : Sim m1 M') (hc : ∀ id b, hget M' id = some b → ∀ r ∈ b.refs, p r ∨ (L ≤ r ∧ r < L')) (ha : ∀ id b, hget G id = some b → ∀ r ∈ b.refs, ¬ (L ≤ r ∧ r < L')) :
    ∃ m', m'.w = m1.w ∧ Sim m' G' ∧ Carry m1 M' m' G' (fun id => p id ∨ (L ≤ id ∧ id < L')) ∧ Carry m G m' G' (fun id => ¬ (L ≤ id ∧ id < L')) ∧ ExtN m G m' G' (fun id => L ≤ id ∧ id < L') := by
  classical
  let Q : Nat → Prop := fun id => p id ∨ (L ≤ id ∧ id < L')
  let m' : Mem := ⟨m1.w, fun id => if Q id then m1.loc id else m.loc id, m1.good⟩
  have SM : Sim m M := q.sim S
  have locQ : ∀ id, Q id → m'.loc id = m1.loc id := fun id k => by show (if Q id then _ else _) = _; rw [if_pos k]
  have locN : ∀ id, ¬ Q id → m'.loc id = m.loc id := fun id k => by show (if Q id then _ else _) = _; rw [if_neg k]
  -- what lives in M' lies inside
  have inQ : ∀ id b, hget M' id = some b → Q id := fun id b e => by
    rcases Nat.lt_or_ge id L with hi | hi
    · obtain ⟨b0, e0⟩ := E.mid (by rw [hL]; exact hi) e
      exact .inl (q.sub id b0 e0).2
    · exact .inr ⟨hi, by rw [← hL']; exact hget_lt e⟩
  -- blocks outside are owned by nobody inside
  have outOwn : ∀ id b B o, ¬ Q id → hget G id = some b → m.loc id = some (B, o) → ¬ Owned m M B := fun id b B o hn e l ⟨j, b', o', ej, lj⟩ => by
    have := S.inj id j b b' B o o' e (q.sub j b' ej).1 l lj
    subst this
    exact hn (.inl (q.sub id b' ej).2)
  have outKeep : ∀ id b B o, ¬ Q id → hget G id = some b → m.loc id = some (B, o) → m1.w.heap[B]? = m.w.heap[B]? ∧ ¬ Owned m1 M' B := fun id b B o hn e l =>
    E.keep B ((S.blk id b e).lt l) (outOwn id b B o hn e l)
  have C1 : Carry m1 M' m' G' Q := ⟨fun B k => ⟨k, rfl⟩, fun id k hi => by rw [hlen]; omega, fun id b' k hi e => ⟨b', by rw [← g1 id k]; exact e, locQ id k, Blk.like_refl b', fun _ _ _ => rfl⟩⟩
  have live : ∀ id b b', hget G id = some b → hget G' id = some b' → m'.loc id = m.loc id ∧ b.like b' ∧ ∀ B o, m.loc id = some (B, o) → m'.w.shape? B = m.w.shape? B := fun id b b' e e' => by
    by_cases hq : Q id
    · rw [g1 id hq] at e'
      rcases hq with hp | hn
      · obtain ⟨a1, a2, a3⟩ := E.live id b b' (hM id b hp e) e'
        exact ⟨(locQ id (.inl hp)).trans a1, a2, a3⟩
      · rw [hnew id hn.1 hn.2] at e; cases e
    · rw [g2 id hq] at e'
      rw [e] at e'; injection e' with e'; subst e'
      refine ⟨locN id hq, Blk.like_refl b, fun B o l => ?_⟩
      have := (outKeep id b B o hq e l).1
      show m1.w.shape? B = m.w.shape? B
      simp only [World.shape?, this]
  have dead : ∀ id, ¬ (L ≤ id ∧ id < L') → hget G id = none → hget G' id = none := fun id hn e => by
    by_cases hq : Q id
    · rw [g1 id hq]
      rcases hq with hp | hn'
      · have : hget M id = none := by
          cases eM : hget M id with
          | none => rfl
          | some b => rw [(q.sub id b eM).1] at e; cases e
        exact E.dead id (q.len id hp) this
      · exact absurd hn' hn
    · rw [g2 id hq]; exact e
  have C2 : Carry m G m' G' (fun id => ¬ (L ≤ id ∧ id < L')) := ⟨fun B k => Ext.frozen SM E B k, fun id k hi => by rw [hlen]; exact hi, fun id b' k hi e => by
    cases eg : hget G id with
    | none => rw [dead id k eg] at e; cases e
    | some b =>
      obtain ⟨a1, a2, a3⟩ := live id b b' eg e
      exact ⟨b, rfl, a1, a2, a3⟩⟩
  refine ⟨m', rfl, ⟨fun id b e => ?_, fun i j b b' B o o' e e' l l' => ?_, fun i b B o e l => ?_, fun B k => S1.lt B k⟩, C1, C2, ⟨E.os, E.tape, E.output, E.size, fun B hB hn => ?_, E.good, fun B k => ?_, Nat.le_of_eq hlen.symm, fun id _ k e => dead id k e, live⟩⟩
  · by_cases hq : Q id
    · have e1 := e
      rw [g1 id hq] at e1
      exact BlkRel.carry C1 (hc id b e1) (S1.blk id b e1) (locQ id hq) fun _ _ _ => rfl
    · have e1 := e
      rw [g2 id hq] at e1
      exact BlkRel.carry C2 (ha id b e1) (S.blk id b e1) (locN id hq) fun B o l => (outKeep id b B o hq e1 l).1
  · by_cases hi : Q i
    · rw [g1 i hi] at e; rw [locQ i hi] at l
      by_cases hj : Q j
      · rw [g1 j hj] at e'; rw [locQ j hj] at l'
        exact S1.inj i j b b' B o o' e e' l l'
      · rw [g2 j hj] at e'; rw [locN j hj] at l'
        exact absurd ⟨i, b, o, e, l⟩ (outKeep j b' B o' hj e' l').2
    · rw [g2 i hi] at e; rw [locN i hi] at l
      by_cases hj : Q j
      · rw [g1 j hj] at e'; rw [locQ j hj] at l'
        exact absurd ⟨j, b', o', e', l'⟩ (outKeep i b B o hi e l).2
      · rw [g2 j hj] at e'; rw [locN j hj] at l'
        exact S.inj i j b b' B o o' e e' l l'
  · by_cases hi : Q i
    · rw [g1 i hi] at e; rw [locQ i hi] at l
      exact S1.sep i b B o e l
    · rw [g2 i hi] at e; rw [locN i hi] at l
      intro k
      rcases E.back B k with k | k | k
      · exact S.sep i b B o e l k
      · exact outOwn i b B o hi e l k
      · have := (S.blk i b e).lt l; omega
  · have hM1 : ¬ Owned m M B := fun ⟨j, b', o', ej, lj⟩ => hn ⟨j, b', o', (q.sub j b' ej).1, lj⟩
    have k := E.keep B hB hM1
    refine ⟨k.1, fun ⟨j, b', o', ej, lj⟩ => ?_⟩
    by_cases hj : Q j
    · rw [g1 j hj] at ej; rw [locQ j hj] at lj
      exact k.2 ⟨j, b', o', ej, lj⟩
    · rw [g2 j hj] at ej; rw [locN j hj] at lj
      exact hn ⟨j, b', o', ej, lj⟩
  · rcases E.back B k with k | ⟨j, b', o', ej, lj⟩ | k
    · exact .inl k
    · exact .inr (.inl ⟨j, b', o', (q.sub j b' ej).1, lj⟩)
    · exact .inr (.inr k)

end Go.Proofs.YtohlmkcljoakfaaDoorAbs

/- A drawn region: whatever order is drawn, what the text's order was found to do holds. First: effects of operations, and folds over them. -/
namespace Go.Proofs.YtohlmkcljoakfaaDoorAbs
set_option linter.unusedVariables false
set_option linter.unusedSimpArgs false
open Go
variable {R : Type}

/-! ### masks -/
theorem mem_iff {x : Nat} {l : List Nat} : mem x l = true ↔ x ∈ l := by
  induction l with
  | nil => simp [mem]
  | cons y l ih => simp [mem, ih]
theorem hget_maskFrom (ids : List Nat) (n : Nat) (h : Heap) (id : Nat) : hget (maskFrom ids n h) id = bif mem (n + id) ids then hget h id else none := by
  induction h generalizing n id with
  | nil => simp [maskFrom, hget]
  | cons b h ih => cases id with
    | zero => simp [maskFrom, hget]
    | succ id => simp only [maskFrom, hget, ih]; rw [show n + 1 + id = n + (id + 1) by omega]
theorem hget_mask (ids : List Nat) (h : Heap) (id : Nat) : hget (mask ids h) id = bif mem id ids then hget h id else none := by
  unfold mask; rw [hget_maskFrom]; simp
theorem maskFrom_length (ids : List Nat) (n : Nat) (h : Heap) : (maskFrom ids n h).length = h.length := by
  induction h generalizing n with
  | nil => rfl
  | cons b h ih => simp [maskFrom, ih]
theorem mask_length (ids : List Nat) (h : Heap) : (mask ids h).length = h.length := maskFrom_length ids 0 h
theorem mergeFrom_spec (ids : List Nat) (n : Nat) (h h' : Heap) (hl : h.length ≤ h'.length) : (mergeFrom ids n h h').length = h'.length ∧ ∀ id, hget (mergeFrom ids n h h') id = if id < h.length then (bif mem (n + id) ids then hget h' id else hget h id) else hget h' id := by
  induction h generalizing n h' with
  | nil => simp [mergeFrom]
  | cons b h ih => cases h' with
    | nil => simp at hl
    | cons c h' =>
      obtain ⟨h1, h2⟩ := ih (n + 1) h' (by simpa using hl)
      refine ⟨by simp [mergeFrom, h1], fun id => ?_⟩
      cases id with
      | zero => simp [mergeFrom, hget]
      | succ id => simp only [mergeFrom, hget, h2]; rw [show n + 1 + id = n + (id + 1) by omega]; simp
theorem merge_spec (ids : List Nat) (h h' : Heap) (hl : h.length ≤ h'.length) : (merge ids h h').length = h'.length ∧ ∀ id, hget (merge ids h h') id = if id < h.length then (bif mem id ids then hget h' id else hget h id) else hget h' id := by
  have := mergeFrom_spec ids 0 h h' hl
  simpa [merge] using this
theorem grown_spec (h h' : Heap) (hl : h.length ≤ h'.length) : (h ++ h'.drop h.length).length = h'.length ∧ ∀ id, hget (h ++ h'.drop h.length) id = if id < h.length then hget h id else hget h' id := by
  refine ⟨by simp; omega, fun id => ?_⟩
  induction h generalizing h' id with
  | nil => simp [hget]
  | cons b h ih => cases h' with
    | nil => simp at hl
    | cons c h' => cases id with
      | zero => simp [hget]
      | succ id => simp only [List.cons_append, hget, List.length_cons, List.drop_succ_cons]; rw [ih h' (by simpa using hl)]; simp
def heapOf (n : Nat) (g : Nat → Option Blk) : Heap := (List.range n).map g
theorem heapOf_length (n : Nat) (g : Nat → Option Blk) : (heapOf n g).length = n := by simp [heapOf]
theorem hget_eq (h : Heap) (id : Nat) : hget h id = (h[id]?).getD none := by
  induction h generalizing id with
  | nil => simp [hget]
  | cons b h ih => cases id with
    | zero => simp [hget]
    | succ id => simp [hget, ih]
theorem hget_heapOf (n : Nat) (g : Nat → Option Blk) (id : Nat) : hget (heapOf n g) id = if id < n then g id else none := by
  rw [hget_eq]
  unfold heapOf
  by_cases h : id < n
  · simp [h]
  · simp [h]
theorem heap_ext {h h' : Heap} (hl : h.length = h'.length) (hg : ∀ id, hget h id = hget h' id) : h = h' := by
  apply List.ext_getElem? 
  intro id
  have := hg id
  rw [hget_eq, hget_eq] at this
  rcases Nat.lt_or_ge id h.length with k | k
  · have k' : id < h'.length := by omega
    simp [k, k'] at this ⊢; exact this
  · have k' : h'.length ≤ id := by omega
    rw [List.getElem?_eq_none k, List.getElem?_eq_none k']
theorem listEqK_some {R : Type} {res : R} {α : Type} {p : α → α → Option R → Option R} (hp : ∀ x y K, p x y K = some res → x = y ∧ K = some res) : (l k : List α) → (K : Option R) → listEqK p l k K = some res → l = k ∧ K = some res
  | [], [], K, e => ⟨rfl, e⟩
  | [], _ :: _, K, e => by cases e
  | _ :: _, [], K, e => by cases e
  | x :: l, y :: k, K, e => by
    obtain ⟨h1, e⟩ := hp x y _ e
    obtain ⟨h2, e⟩ := listEqK_some hp l k K e
    exact ⟨by rw [h1, h2], e⟩
theorem intEqK_some {R : Type} {res : R} (a b : Int) (K : Option R) (e : intEqK a b K = some res) : a = b ∧ K = some res := by
  obtain ⟨h, e⟩ := cond_some e
  exact ⟨of_decide_eq_true h, e⟩
mutual
theorem CTy.eqK_some {R : Type} {res : R} : (c : CTy) → (a b : c.den) → (K : Option R) → CTy.eqK c a b K = some res → a = b ∧ K = some res
  | .int _, a, b, K, e => intEqK_some a b K e
  | .bool, a, b, K, e => by obtain ⟨h, e⟩ := cond_some e; exact ⟨boolEqB_eq h, e⟩
  | .str, a, b, K, e => listEqK_some (intEqK_some) a b K e
  | .slice r, a, b, K, e => listEqK_some (fun x y k => Row.eqK_some r x y k) a b K e
theorem Row.eqK_some {R : Type} {res : R} : (r : Row) → (a b : r.den) → (K : Option R) → Row.eqK r a b K = some res → a = b ∧ K = some res
  | .one c, a, b, K, e => CTy.eqK_some c a b K e
  | .cons c r, (a, x), (b, y), K, e => by
    obtain ⟨h1, e⟩ := CTy.eqK_some c a b _ e
    obtain ⟨h2, e⟩ := Row.eqK_some r x y K e
    exact ⟨by rw [h1, h2], e⟩
end
theorem AV.eqK_some {R : Type} {res : R} (a b : AV) (K : Option R) (e : AV.eqK a b K = some res) : a = b ∧ K = some res := by
  unfold AV.eqK at e
  split at e
  · exact ⟨rfl, e⟩
  · obtain ⟨h, e⟩ := cond_some e; exact ⟨by rw [boolEqB_eq h], e⟩
  · obtain ⟨h, e⟩ := cond_some e; obtain ⟨h2, e⟩ := intEqK_some _ _ _ e; exact ⟨by rw [kindEq_eq h, h2], e⟩
  · obtain ⟨h, e⟩ := listEqK_some intEqK_some _ _ _ e; exact ⟨by rw [h], e⟩
  · obtain ⟨h, e⟩ := cond_some e; exact ⟨by rw [Nat.eq_of_beq_eq_true h], e⟩
  · obtain ⟨h, e⟩ := cond_some e
    simp only [Bool.and_eq_true] at h
    exact ⟨by rw [Nat.eq_of_beq_eq_true h.1, Nat.eq_of_beq_eq_true h.2.1, Nat.eq_of_beq_eq_true h.2.2], e⟩
  · obtain ⟨h, e⟩ := cond_some e
    simp only [Bool.and_eq_true] at h
    exact ⟨by rw [Nat.eq_of_beq_eq_true h.1, Nat.eq_of_beq_eq_true h.2], e⟩
  · obtain ⟨h, e⟩ := cond_some e; exact ⟨by rw [Nat.eq_of_beq_eq_true h], e⟩
  · exact ⟨rfl, e⟩
  · exact ⟨rfl, e⟩
  · exact ⟨rfl, e⟩
  · rename_i r l n s k m
    split at e
    · rename_i he
      obtain ⟨h, e⟩ := cond_some e
      obtain ⟨h2, eK⟩ := listEqK_some (fun x y k => Row.eqK_some s x y k) _ _ _ e
      have e1 := Row.same_eq r s he
      subst e1
      have e2 : l = k := (eq_of_heq (castList_heq he l)).symm.trans h2
      exact ⟨by rw [e2, boolEqB_eq h], eK⟩
    · cases e
  · cases e
theorem Blk.eqK_some {R : Type} {res : R} (a b : Blk) (K : Option R) (e : Blk.eqK a b K = some res) : a = b ∧ K = some res := by
  unfold Blk.eqK at e
  split at e
  · obtain ⟨h, e⟩ := cond_some e; obtain ⟨h2, e⟩ := listEqK_some AV.eqK_some _ _ _ e; exact ⟨by rw [Nat.eq_of_beq_eq_true h, h2], e⟩
  · rename_i t r l u s k
    split at e
    · rename_i he
      obtain ⟨h, e⟩ := cond_some e
      obtain ⟨h2, eK⟩ := listEqK_some (fun x y k => Row.eqK_some s x y k) _ _ _ e
      have e1 := Row.same_eq r s he
      subst e1
      have e2 : l = k := (eq_of_heq (castList_heq he l)).symm.trans h2
      exact ⟨by rw [e2, Nat.eq_of_beq_eq_true h], eK⟩
    · cases e
  · cases e
theorem allEqK_some {R : Type} {res : R} {h h' : Heap} {K : Option R} : (C : List Nat) → allEqK h h' C K = some res → (∀ id ∈ C, hget h' id = hget h id) ∧ K = some res
  | [], e => ⟨fun id k => (by cases k), e⟩
  | id :: l, e => by
    unfold allEqK optEqK at e
    have key : hget h' id = hget h id ∧ allEqK h h' l K = some res := by
      split at e
      · rename_i h1 h2; exact ⟨by rw [h1, h2], e⟩
      · rename_i a b h1 h2
        obtain ⟨h3, e⟩ := Blk.eqK_some _ _ _ e
        exact ⟨by rw [h1, h2, h3], e⟩
      · cases e
    obtain ⟨k1, k2⟩ := key
    obtain ⟨k3, k4⟩ := allEqK_some l k2
    exact ⟨fun i hi => by rcases List.mem_cons.1 hi with rfl | hi; exact k1; exact k3 i hi, k4⟩
theorem heapRefs_mem {h : Heap} {id : Nat} {b : Blk} (e : hget h id = some b) {r : Nat} (hr : r ∈ b.refs) : r ∈ heapRefs h := by
  induction h generalizing id with
  | nil => simp [hget] at e
  | cons a h ih => cases id with
    | zero => simp only [hget] at e; subst e; simp [heapRefs]; exact .inl hr
    | succ id => simp only [hget] at e; have := ih e; simp [heapRefs] at this ⊢; exact .inr this

/-! ### bounds -/
mutual
theorem Rel.bound {m : Mem} {h : Heap} : (a : AV) → (v : Value) → Rel m h a v → ∀ r ∈ a.refs, r < h.length
  | .any, _, _, r, hr | .bool _, _, _, r, hr | .int _ _, _, _, r, hr | .str _, _, _, r, hr | .list _ _ _, _, _, r, hr | .nils, _, _, r, hr | .zcap, _, _, r, hr | .nilptr, _, _, r, hr => by simp [AV.refs] at hr
  | .own id, v, k, r, hr => by simp [AV.refs] at hr; subst hr; simp only [Rel] at k; exact k.1.1
  | .msl id _ _, v, k, r, hr => by simp [AV.refs] at hr; subst hr; simp only [Rel] at k; exact k.1.1
  | .vsl id _ _, v, k, r, hr => by simp [AV.refs] at hr; subst hr; simp only [Rel] at k; exact k.1.1
  | .ptr id _, v, k, r, hr => by simp [AV.refs] at hr; subst hr; simp only [Rel] at k; exact k.1.1
  | .eptr id _ _, v, k, r, hr => by simp [AV.refs] at hr; subst hr; simp only [Rel] at k; exact k.1.1
  | .iter id, v, k, r, hr => by simp [AV.refs] at hr; subst hr; simp only [Rel] at k; exact k.1.1
  | .mapv id, v, k, r, hr => by simp [AV.refs] at hr; subst hr; simp only [Rel] at k; exact k.1.1
  | .rptr cs, v, k, r, hr => by simp only [AV.refs] at hr; simp only [Rel] at k; obtain ⟨B, o, vs, _, _, q, _⟩ := k; exact RelL.bound cs vs q r hr
  | .fn _ cs, v, k, r, hr => by simp only [AV.refs] at hr; simp only [Rel] at k; obtain ⟨vs, _, q⟩ := k; exact RelL.bound cs vs q r hr
  | .agg cs, v, k, r, hr => by simp only [AV.refs] at hr; simp only [Rel] at k; obtain ⟨vs, _, q⟩ := k; exact RelL.bound cs vs q r hr
  | .tup cs, v, k, r, hr => by simp only [AV.refs] at hr; simp only [Rel] at k; obtain ⟨vs, _, q⟩ := k; exact RelL.bound cs vs q r hr
theorem RelL.bound {m : Mem} {h : Heap} {one : Bool} : (cs : List AV) → (vs : List Value) → RelL m h one cs vs → ∀ r ∈ refsL cs, r < h.length
  | [], _, _, r, hr => by simp [refsL] at hr
  | c :: cs, vs, k, r, hr => by
    simp only [RelL] at k
    obtain ⟨v, rest, rfl, h2, _, h4⟩ := k
    simp only [refsL, List.mem_append] at hr
    rcases hr with hr | hr
    · exact Rel.bound c v h2 r hr
    · exact RelL.bound cs rest h4 r hr
end
theorem Sim.bound {m : Mem} {h : Heap} (S : Sim m h) {id : Nat} {b : Blk} (e : hget h id = some b) : ∀ r ∈ b.refs, r < h.length := by
  have k := S.blk id b e
  cases b with
  | var vt cs => obtain ⟨B, c, _, _, q⟩ := k; exact RelL.bound cs _ q
  | arr _ _ _ => intro r hr; simp [Blk.refs] at hr
  | siter _ _ => intro r hr; simp [Blk.refs] at hr
  | miter mid n s => obtain ⟨B, bm, _, _, h3, _⟩ := k; intro r hr; simp [Blk.refs] at hr; subst hr; exact h3
  | map _ _ _ _ => intro r hr; simp [Blk.refs] at hr

/-! ### the blocks that an operation leaves alone -/
def Butl (W : List Nat) (h h' : Heap) : Prop := ∀ id, id < h.length → id ∉ W → hget h' id = hget h id
open Classical in
/-- The same continuation where all but W is left alone, else none. -/
noncomputable def butK (W : List Nat) (h : Heap) (K : AV → Heap → Option R) (v : AV) (h' : Heap) : Option R := if Butl W h h' then K v h' else none
theorem butK_eq {W : List Nat} {h : Heap} {K : AV → Heap → Option R} {v : AV} {h' : Heap} (q : Butl W h h') : butK W h K v h' = K v h' := if_pos q
theorem butK_some {W : List Nat} {h : Heap} {K : AV → Heap → Option R} {v : AV} {h' : Heap} {res : R} (e : butK W h K v h' = some res) : Butl W h h' ∧ K v h' = some res := by
  unfold butK at e
  split at e
  · rename_i q; exact ⟨q, e⟩
  · cases e
theorem Butl.push (W : List Nat) (h : Heap) (b : Option Blk) : Butl W h (h ++ [b]) := fun id hid _ => hget_push_ne (by omega)
theorem Butl.hset {W : List Nat} {h : Heap} {i : Nat} (hi : i ∈ W) (b : Option Blk) : Butl W h (hset h i b) := fun id _ hn => hget_hset_ne (fun q => hn (q ▸ hi))
theorem Butl.hsetPush {W : List Nat} {h : Heap} {i : Nat} (hi : i ∈ W) (b c : Option Blk) : Butl W h (Go.Proofs.YtohlmkcljoakfaaDoorAbs.hset h i b ++ [c]) := fun id hid hn => by
  rw [hget_push_ne (by rw [hlen_hset]; omega)]
  exact hget_hset_ne (fun q => hn (q ▸ hi))
theorem storeAt_but {h h' : Heap} {ti : TI} {id off : Nat} {v : AV} (e : storeAt h ti (.ptr id off) v = some h') : Butl [id] h h' := by
  unfold storeAt at e
  split at e
  · cases e
  · obtain ⟨_, e⟩ := cond_some e
    simp only at e
    split at e
    · split at e
      · injection e with e; subst e; exact Butl.hset (by simp) _
      · cases e
    · cases e
theorem appendA_but {E : Env} {h : Heap} {t : TypeId} {s x : AV} {K : AV → Heap → Option R} {res : R} (e : appendA E h t s x K = some res) : appendA E h t s x (butK s.refs h K) = some res := by
  unfold appendA at e ⊢
  split at e
  · cases e
  · split at e
    · cases e
    · split at e
      · obtain ⟨c, e⟩ := cond_some e
        simp only [c, cond_true]; rw [butK_eq (Butl.push _ _ _)]; exact e
      · obtain ⟨c, e⟩ := cond_some e
        simp only [c, cond_true]; rw [butK_eq (Butl.push _ _ _)]; exact e
      · split at e
        · rename_i hg
          split at e
          · rename_i q
            obtain ⟨c, e⟩ := cond_some e
            rw [dif_pos q]
            simp only [c, cond_true]
            rw [butK_eq (Butl.hsetPush (by simp [AV.refs]) _ _)]; exact e
          · cases e
        · cases e
      · split at e
        · rename_i hg
          split at e
          · rename_i q
            obtain ⟨c, e⟩ := cond_some e
            rw [dif_pos q]
            simp only [c, cond_true]
            rw [butK_eq (Butl.hset (by simp [AV.refs]) _)]; exact e
          · cases e
        · cases e
      · cases e
theorem appendZ_but {E : Env} {h : Heap} {t : TypeId} {n : Int} {W : List Nat} {K : AV → Heap → Option R} {res : R} (e : appendZ E h t n K = some res) : appendZ E h t n (butK W h K) = some res := by
  unfold appendZ at e ⊢
  split at e
  · cases e
  · split at e
    · cases e
    · obtain ⟨c, e⟩ := cond_some e
      simp only [c, cond_true]; rw [butK_eq (Butl.push _ _ _)]; exact e
theorem copyA_but {E : Env} {h : Heap} {t : TypeId} {d x : AV} {K : AV → Heap → Option R} {res : R} (e : copyA E h t d x K = some res) : copyA E h t d x (butK d.refs h K) = some res := by
  unfold copyA at e ⊢
  split at e
  · cases e
  · split at e
    · cases e
    · split at e
      · split at e
        · rename_i hg
          split at e
          · rename_i q
            rw [dif_pos q, butK_eq (Butl.hset (by simp [AV.refs]) _)]; exact e
          · cases e
        · cases e
      · split at e
        · rename_i hg
          split at e
          · rename_i q
            rw [dif_pos q, butK_eq (Butl.hset (by simp [AV.refs]) _)]; exact e
          · cases e
        · cases e
      · split at e
        · rename_i hg
          split at e
          · rename_i q
            rw [dif_pos q]
            split at e
            · obtain ⟨c, e⟩ := cond_some e
              simp only [c, cond_true]
              rw [butK_eq (Butl.hset (by simp [AV.refs]) _)]; exact e
            · cases e
          · cases e
        · cases e
      · cases e
theorem step_but {E : Env} {call : CallF R} {f : FuncId} {T : List AV} {h : Heap} {o : Oper} {K : AV → Heap → Option R} {res : R} {W : List Nat} (hw : wset E f T o = some W) (e : step E f call T h o K = some res) : step E f call T h o (butK W h K) = some res := by
  unfold wset at hw
  split at hw
  · rename_i t a x ho
    split at hw
    · rename_i id off ha
      injection hw with hw; subst hw
      unfold step at e ⊢
      simp only [ho] at e ⊢
      unfold stStore at e ⊢
      obtain ⟨ti, h1, e⟩ := optK_ok e
      rw [ha] at e ⊢
      obtain ⟨h', h2, e⟩ := optK_ok e
      simp only [h1, h2, optK]
      rw [butK_eq (storeAt_but h2)]; exact e
    · cases hw
  · rename_i c ho
    split at hw
    · rename_i s rest hc ha
      have hf : frzIs E f o.dst = false := by
        cases hf : frzIs E f o.dst with
        | false => rfl
        | true => rw [hf] at hw; cases hw
      rw [hf] at hw
      injection hw with hw; subst hw
      unfold step at e ⊢
      simp only [ho] at e ⊢
      unfold stCall at e ⊢
      simp only [hc, ha, hf, Bool.and_false, frzK, cond_false, List.map_cons] at e ⊢
      unfold builtinA at e ⊢
      split at e <;> first | contradiction | skip
      · rename_i h1 h2 h3
        simp only [List.cons.injEq] at h3
        obtain ⟨h3, _⟩ := h3
        subst h3
        split at e
        · exact appendA_but e
        · exact appendA_but e
        · split at e
          · exact appendZ_but e
          · exact appendZ_but e
          · cases e
        · cases e
    · rename_i d rest hc ha
      injection hw with hw; subst hw
      unfold step at e ⊢
      simp only [ho] at e ⊢
      unfold stCall at e ⊢
      simp only [hc, ha, isApp, Bool.false_and, frzK, cond_false, List.map_cons] at e ⊢
      unfold builtinA at e ⊢
      split at e <;> first | contradiction | skip
      · rename_i h1 h2 h3
        simp only [List.cons.injEq] at h3
        obtain ⟨h3, _⟩ := h3
        subst h3
        exact copyA_but e
    · cases hw
  · cases hw
theorem step_ok2 {P : Program} {E : Env} (hT : TabOk P E.tab) (hP : PureOk P E) {call : CallF R} (hc : CallOk P call) {f : FuncId} {T : List AV} {h : Heap} {o : Oper} {K : AV → Heap → Option R} {res : R}
    (e : step E f call T h o K = some res) : ∃ v h', K v h' = some res ∧ (keeps E T o.op = true → Keep h h') ∧ (∀ W, wset E f T o = some W → Butl W h h') ∧ OpSem P o T h v h' := by
  cases hw : wset E f T o with
  | none =>
    obtain ⟨v, h', e, hk, sem⟩ := step_ok hT hP hc e
    exact ⟨v, h', e, hk, fun W k => (by cases k), sem⟩
  | some W =>
    obtain ⟨v, h', e, hk, sem⟩ := step_ok hT hP hc (step_but hw e)
    obtain ⟨q, e⟩ := butK_some e
    exact ⟨v, h', e, hk, fun W' k => (by injection k with k; subst k; exact q), sem⟩

/-! ### effects -/
structure Eff where
  o : Oper
  r : Rec
  T : List AV
  h : Heap
  v : AV
  M' : Heap
  run : Bool
  lt : Bool

def Eff.hits (e : Eff) (id : Nat) : Prop := (e.r.lo ≤ id ∧ id < e.r.hi) ∨ id ∈ e.r.ws
instance (e : Eff) (id : Nat) : Decidable (e.hits id) := by unfold Eff.hits; infer_instance
def effH (e : Eff) (g : Nat → Option Blk) (id : Nat) : Option Blk := if e.hits id then hget e.M' id else g id

def guardB (all : List Oper) (o : Oper) (T : List AV) : Option Bool :=
  match o.guard with
  | none => some true
  | some (j, want) => match all[j]? with
    | some oj => match oj.dst with
      | some g => match tget T g with
        | .bool b => some (b == want)
        | .tup _ => some false
        | _ => none
      | none => none
    | none => none

/-- The blocks that an operation's operands, or what it looks at, point to. -/
def LRef (e : Eff) (r : Nat) : Prop := (∃ x ∈ e.o.op.operands.toList, r ∈ (ev e.T x).refs) ∨ ∃ id ∈ e.r.ids, ∃ b, hget e.h id = some b ∧ r ∈ b.refs

structure EffOk (P : Program) (all : List Oper) (e : Eff) : Prop where
  dst : e.r.dst = e.o.dst
  names : e.r.names = namesOf all e.o
  lo : e.r.lo = e.h.length
  le : e.r.lo ≤ e.r.hi
  guard : guardB all e.o e.T = some e.run
  no : e.run = false → e.v = .tup [] ∧ e.r.ids = [] ∧ e.r.ws = [] ∧ e.r.hi = e.r.lo
  lt : e.lt = true → e.r.hi = e.r.lo ∧ (∀ r ∈ e.v.refs, LRef e r) ∧ (∀ id ∈ e.r.ws, ∀ b, hget e.M' id = some b → ∀ r ∈ b.refs, LRef e r) ∧
    ∀ H, (∀ id ∈ e.r.ids, hget H id = hget e.h id) → ∃ H', H'.length = H.length ∧ (∀ id, hget H' id = if id ∈ e.r.ws then hget e.M' id else hget H id) ∧ OpSem P e.o e.T H e.v H'
  ids : ∀ id ∈ e.r.ids, id < e.r.lo
  ops : e.run = true → e.lt = false → ∀ x ∈ e.o.op.operands.toList, ∀ r ∈ (ev e.T x).refs, r ∈ e.r.ids
  refs : e.run = true → e.lt = false → ∀ id b, hget (mask e.r.ids e.h) id = some b → ∀ r ∈ b.refs, r ∈ e.r.ids
  sem : e.run = true → e.lt = false → OpSem P e.o e.T (mask e.r.ids e.h) e.v e.M'
  len : e.run = true → e.lt = false → e.M'.length = e.r.hi
  val : e.lt = false → ∀ r ∈ e.v.refs, r ∈ e.r.ids ∨ (e.r.lo ≤ r ∧ r < e.r.hi)
  out : e.run = true → e.lt = false → ∀ id b, hget e.M' id = some b → ∀ r ∈ b.refs, r ∈ e.r.ids ∨ (e.r.lo ≤ r ∧ r < e.r.hi)
  ws : ∀ id ∈ e.r.ws, id ∈ e.r.ids
  keep : e.run = true → e.lt = false → ∀ id ∈ e.r.ids, id ∉ e.r.ws → hget e.M' id = hget (mask e.r.ids e.h) id

def Chain (P : Program) (all : List Oper) : List AV → Heap → List Eff → List AV → Heap → Prop
  | T, h, [], T', h' => T' = T ∧ h' = h
  | T, h, e :: es, T', h' => e.T = T ∧ e.h = h ∧ EffOk P all e ∧ ∃ h1, h1.length = e.r.hi ∧ (∀ id, hget h1 id = effH e (hget h) id) ∧ Chain P all (tput T e.o.dst e.v) h1 es T' h'

theorem inside_iff {C : List Nat} {L L' id : Nat} (h : inside C L L' id = true) : id ∈ C ∨ (L ≤ id ∧ id < L') := by
  simp only [inside, Bool.and_eq_true, Bool.or_eq_true, Nat.blt_eq, Nat.ble_eq, mem_iff] at h
  rcases h.2 with k | k
  · exact .inr ⟨k, h.1⟩
  · exact .inl k

theorem blkRefs_mem {h : Heap} {id r : Nat} (k : r ∈ blkRefs h id) : ∃ b, hget h id = some b ∧ r ∈ b.refs := by
  unfold blkRefs at k
  split at k
  · rename_i b hb; exact ⟨b, hb, k⟩
  · cases k
theorem mem_blkRefs {h : Heap} {id r : Nat} {b : Blk} (hb : hget h id = some b) (k : r ∈ b.refs) : r ∈ blkRefs h id := by
  unfold blkRefs; rw [hb]; exact k
def noCall : CallF (AV × Heap) := fun _ _ _ _ => none
theorem noCall_ok {P : Program} : CallOk P noCall := fun f args h K res e => by cases e
theorem light_sem {P : Program} {E : Env} (hT : TabOk P E.tab) (hP : PureOk P E) {T : List AV} {H H' : Heap} {o : Oper} {v : AV}
    (e : step E 0 noCall T H o (fun v h => some (v, h)) = some (v, H')) : OpSem P o T H v H' := by
  obtain ⟨v1, h1, e1, _, sem⟩ := step_ok hT hP noCall_ok e
  injection e1 with e1; injection e1 with e1 e2; subst e1; subst e2; exact sem
theorem loadAt_congr {h H : Heap} {ti : TI} {id off : Nat} (k : hget H id = hget h id) : loadAt H ti (.ptr id off) = loadAt h ti (.ptr id off) := by
  unfold loadAt
  simp only [k]
theorem lightOp_ok {P : Program} {E : Env} (hT : TabOk P E.tab) (hP : PureOk P E) {T : List AV} {h h' : Heap} {o : Oper} {v : AV} {ids ws : List Nat}
    (e : lightOp E T h o = some (v, h', ids, ws)) : h'.length = h.length ∧ (∀ id ∈ ws, id ∈ ids) ∧ (∀ id, id ∉ ws → hget h' id = hget h id) ∧
    ∀ H, (∀ id ∈ ids, hget H id = hget h id) → ∃ H', H'.length = H.length ∧ (∀ id, hget H' id = if id ∈ ws then hget h' id else hget H id) ∧ OpSem P o T H v H' := by
  unfold lightOp at e
  split at e
  · rename_i x ho
    injection e with e; injection e with e1 e; injection e with e2 e; injection e with e3 e4
    subst e1; subst e2; subst e3; subst e4
    exact ⟨rfl, fun id k => (by cases k), fun id _ => rfl, fun H _ => ⟨H, rfl, fun id => (by rw [if_neg]; simp), light_sem hT hP (by unfold step; rw [ho]; rfl)⟩⟩
  · rename_i x ho
    injection e with e; injection e with e1 e; injection e with e2 e; injection e with e3 e4
    subst e1; subst e2; subst e3; subst e4
    exact ⟨rfl, fun id k => (by cases k), fun id _ => rfl, fun H _ => ⟨H, rfl, fun id => (by rw [if_neg]; simp), light_sem hT hP (by unfold step; rw [ho]; rfl)⟩⟩
  · rename_i t a ho
    split at e
    · rename_i id off ha
      split at e
      · rename_i ti hti
        split at e
        · rename_i w hl
          injection e with e; injection e with e1 e; injection e with e2 e; injection e with e3 e4
          subst e1; subst e2; subst e3; subst e4
          refine ⟨rfl, fun id k => (by cases k), fun id _ => rfl, fun H hH => ⟨H, rfl, fun id => (by rw [if_neg]; simp), light_sem hT hP ?_⟩⟩
          unfold step
          rw [ho]
          simp only
          unfold stLoad
          rw [ha, hti]
          simp only [optK]
          rw [loadAt_congr (hH id (by simp)), hl]
        · cases e
      · cases e
    · cases e
  · rename_i t a x ho
    split at e
    · rename_i id off ha
      split at e
      · rename_i ti hti
        split at e
        · rename_i w hl
          injection e with e; injection e with e1 e; injection e with e2 e; injection e with e3 e4
          subst e1; subst e2; subst e3; subst e4
          have hl0 := hl
          unfold storeAt at hl
          split at hl
          · cases hl
          · rename_i vs hvs
            obtain ⟨hc, hl⟩ := cond_some hl
            simp only at hl
            split at hl
            · rename_i vt cs hid
              split at hl
              · rename_i cs' hcs
                injection hl with hl; subst hl
                have hlt : id < h.length := hget_lt hid
                refine ⟨hlen_hset _ _ _, fun i k => k, fun i k => hget_hset_ne (fun q => k (by simp [q])), fun H hH => ?_⟩
                have hHid : hget H id = some (.var vt cs) := by rw [hH id (by simp)]; exact hid
                refine ⟨hset H id (some (.var vt cs')), hlen_hset _ _ _, fun i => ?_, light_sem hT hP ?_⟩
                · by_cases q : i = id
                  · subst q
                    rw [if_pos (by simp), hget_hset_same (hget_lt hHid), hget_hset_same hlt]
                  · rw [if_neg (by simpa using q), hget_hset_ne (Ne.symm q)]
                · unfold step
                  rw [ho]
                  simp only
                  unfold stStore
                  rw [ha, hti]
                  simp only [optK]
                  unfold storeAt
                  rw [hvs]
                  simp only [hc, cond_true, hHid, hcs]
              · cases hl
            · cases hl
        · cases e
      · cases e
    · cases e
  · cases e

theorem runDrawn_chain {P : Program} {E : Env} (hT : TabOk P E.tab) (hP : PureOk P E) {call : CallF R} (hc : CallOk P call) {f : FuncId} {all : List Oper} {an : List Nat} {K : St → Option R} {res : R} :
    (rest : List Oper) → {n : Nat} → {s : St} → {rs : List Rec} → runDrawn E f call all an n rest s rs K = some res →
    ∃ es s', Chain P all s.T s.h es s'.T s'.h ∧ es.map (·.o) = rest ∧ drawOk an ((es.map (·.r)).reverse ++ rs) = true ∧ K s' = some res ∧ ∀ k e, es[k]? = some e → e.r.j = n + k
  | [], n, s, rs, e => by
    simp only [runDrawn, goOn_eq] at e
    obtain ⟨h1, h2⟩ := cond_some e
    exact ⟨[], s, ⟨rfl, rfl⟩, rfl, by simpa using h1, h2, by simp⟩
  | o :: rest, n, s, rs, e => by
    have go : ∀ {T : List AV} (hTT : T = s.T), guardB all o s.T = some true → drawnStep E f call (namesOf all o) n T s.h o (closure s.h 3 (opRefs T o)) (fun r v h => runDrawn E f call all an (n + 1) rest ⟨tput T o.dst v, h⟩ (r :: rs) K) = some res →
        ∃ es s', Chain P all s.T s.h es s'.T s'.h ∧ es.map (·.o) = o :: rest ∧ drawOk an ((es.map (·.r)).reverse ++ rs) = true ∧ K s' = some res ∧ ∀ k e, es[k]? = some e → e.r.j = n + k := by
      intro T hTT hg e
      subst hTT
      unfold drawnStep at e
      simp only [forceAt_eq, forceLs_eq forceNat_eq, frcAV_eq] at e
      generalize closure s.h 3 (opRefs s.T o) = C at e
      obtain ⟨hck, e⟩ := cond_some e
      obtain ⟨v, h', e, hk, hbut, sem⟩ := step_ok2 hT hP hc e
      obtain ⟨hck2, e⟩ := cond_some e
      simp only [Bool.and_eq_true, List.all_eq_true, Nat.blt_eq, Nat.ble_eq, mem_iff] at hck hck2
      obtain ⟨⟨c1, c2⟩, c3⟩ := hck
      obtain ⟨⟨d1, d2⟩, d3⟩ := hck2
      have fin : ∀ (W : List Nat), (∀ id ∈ W, id ∈ C) → (∀ id ∈ C, id ∉ W → hget h' id = hget (mask C s.h) id) → runDrawn E f call all an (n + 1) rest ⟨tput s.T o.dst v, merge W s.h h'⟩ (⟨n, namesOf all o, o.dst, C, W, s.h.length, h'.length, []⟩ :: rs) K = some res →
          ∃ es s', Chain P all s.T s.h es s'.T s'.h ∧ es.map (·.o) = o :: rest ∧ drawOk an ((es.map (·.r)).reverse ++ rs) = true ∧ K s' = some res ∧ ∀ k e, es[k]? = some e → e.r.j = n + k := by
        intro W hW hk e
        obtain ⟨es, s', hch, ho, hd, hK, hj⟩ := runDrawn_chain hT hP hc rest e
        let e0 : Eff := ⟨o, ⟨n, namesOf all o, o.dst, C, W, s.h.length, h'.length, []⟩, s.T, s.h, v, h', true, false⟩
        refine ⟨e0 :: es, s', ⟨rfl, rfl, ?_, _, ?_, ?_, hch⟩, by simp [e0, ho], by simpa using hd, hK, fun k e1 he1 => ?_⟩
        · exact { dst := rfl, names := rfl, lo := rfl, le := d1, guard := hg, no := fun k => (by cases k), lt := fun k => (by cases k), ids := fun id hid => c1 id hid, ops := fun _ _ x hx r hr => c2 r (List.mem_flatMap.2 ⟨x, hx, hr⟩), refs := fun _ _ id b eb r hr => c3 r (heapRefs_mem eb hr), sem := fun _ _ => sem, len := fun _ _ => rfl, val := fun _ r hr => inside_iff (d2 r hr), out := fun _ _ id b eb r hr => inside_iff (d3 r (heapRefs_mem eb hr)), ws := hW, keep := fun _ _ => hk }
        · exact (merge_spec W s.h h' d1).1
        · intro id
          simp only [effH]
          rw [(merge_spec W s.h h' d1).2 id]
          by_cases h1 : id < s.h.length
          · rw [if_pos h1]
            cases hm : mem id W with
            | true => rw [if_pos (.inr (mem_iff.1 hm))]; rfl
            | false =>
              rw [if_neg]; · rfl
              rintro (⟨k, _⟩ | k)
              · simp only [e0] at k; omega
              · rw [mem_iff.2 k] at hm; cases hm
          · rw [if_neg h1]
            by_cases h2 : id < h'.length
            · rw [if_pos (.inl ⟨by simp only [e0]; omega, h2⟩)]
            · rw [if_neg, hget_ge (by omega), hget_ge (by omega)]
              rintro (⟨_, k⟩ | k)
              · exact h2 k
              · have := c1 id (hW id k); omega
        · cases k with
          | zero => simp at he1; subst he1; rfl
          | succ k => simp at he1; have := hj k e1 he1; omega
      unfold wrote at e
      cases hkq : keeps E s.T o.op with
      | true =>
        rw [hkq] at e
        exact fin [] (fun id k => by simp at k) (fun id hid _ => hk hkq id (by rw [mask_length]; exact c1 id hid)) e
      | false =>
        rw [hkq] at e
        cases hask : asks E s.T o.op with
        | true =>
          rw [hask] at e
          obtain ⟨hsame, e⟩ := allEqK_some C e
          exact fin [] (fun id k => by simp at k) (fun id hid _ => hsame id hid) e
        | false =>
        rw [hask] at e
        cases hcmp : E.cmp with
        | true =>
          rw [hcmp] at e
          refine fin _ (fun id k => (List.mem_filter.1 k).1) (fun id hid hn => ?_) e
          refine optEqB_eq ?_
          cases hq : optEqB (hget h' id) (hget (mask C s.h) id) with
          | true => rfl
          | false => exact absurd (List.mem_filter.2 ⟨hid, by simp [hq]⟩) hn
        | false =>
          rw [hcmp] at e
          cases hws : wset E f s.T o with
          | none =>
            rw [hws] at e
            exact fin C (fun id k => k) (fun id hid hn => absurd hid hn) e
          | some W =>
            rw [hws] at e
            refine fin _ (fun id k => (List.mem_filter.1 k).1) (fun id hid hn => ?_) e
            exact hbut W hws id (by rw [mask_length]; exact c1 id hid) fun hin => hn (List.mem_filter.2 ⟨hid, mem_iff.2 hin⟩)
    have no : ∀ {T : List AV} (hTT : T = s.T), guardB all o s.T = some false → runDrawn E f call all an (n + 1) rest ⟨tput T o.dst (.tup []), s.h⟩ (⟨n, namesOf all o, o.dst, [], [], s.h.length, s.h.length, []⟩ :: rs) K = some res →
        ∃ es s', Chain P all s.T s.h es s'.T s'.h ∧ es.map (·.o) = o :: rest ∧ drawOk an ((es.map (·.r)).reverse ++ rs) = true ∧ K s' = some res ∧ ∀ k e, es[k]? = some e → e.r.j = n + k := by
      intro T hTT hg e
      subst hTT
      obtain ⟨es, s', hch, ho, hd, hK, hj⟩ := runDrawn_chain hT hP hc rest e
      let e0 : Eff := ⟨o, ⟨n, namesOf all o, o.dst, [], [], s.h.length, s.h.length, []⟩, s.T, s.h, .tup [], [], false, false⟩
      refine ⟨e0 :: es, s', ⟨rfl, rfl, ?_, s.h, rfl, ?_, hch⟩, by simp [e0, ho], by simpa using hd, hK, fun k e1 he1 => ?_⟩
      · exact { dst := rfl, names := rfl, lo := rfl, le := Nat.le_refl _, guard := hg, no := fun _ => ⟨rfl, rfl, rfl, rfl⟩, lt := fun k => (by cases k), ids := fun id hid => (by simp [e0] at hid), ops := fun k => (by cases k), refs := fun k => (by cases k), sem := fun k => (by cases k), len := fun k => (by cases k), val := fun _ r hr => (by simp [e0, AV.refs, refsL] at hr), out := fun k => (by cases k), ws := fun id hid => (by simp [e0] at hid), keep := fun k => (by cases k) }
      · intro id
        simp only [effH]
        rw [if_neg]
        rintro (⟨k1, k2⟩ | k)
        · simp only [e0] at k1 k2; omega
        · simp [e0] at k
      · cases k with
        | zero => simp at he1; subst he1; rfl
        | succ k => simp at he1; have := hj k e1 he1; omega
    have light : ∀ {T : List AV} (hTT : T = s.T) {v : AV} {h' : Heap} {ids ws : List Nat}, lightOp E T s.h o = some (v, h', ids, ws) → lightOk T s.h o v h' ids ws = true → guardB all o s.T = some true → runDrawn E f call all an (n + 1) rest ⟨tput T o.dst v, h'⟩ (⟨n, namesOf all o, o.dst, ids, ws, s.h.length, s.h.length, []⟩ :: rs) K = some res →
        ∃ es s', Chain P all s.T s.h es s'.T s'.h ∧ es.map (·.o) = o :: rest ∧ drawOk an ((es.map (·.r)).reverse ++ rs) = true ∧ K s' = some res ∧ ∀ k e, es[k]? = some e → e.r.j = n + k := by
      intro T hTT v h' ids ws hx hok hg e
      subst hTT
      obtain ⟨es, s', hch, ho, hd, hK, hj⟩ := runDrawn_chain hT hP hc rest e
      obtain ⟨l1, l2, l3, l4⟩ := lightOp_ok hT hP hx
      simp only [lightOk, Bool.and_eq_true, List.all_eq_true, Nat.blt_eq, mem_iff, List.mem_append, List.mem_flatMap] at hok
      obtain ⟨k1, k2⟩ := hok
      let e0 : Eff := ⟨o, ⟨n, namesOf all o, o.dst, ids, ws, s.h.length, s.h.length, []⟩, s.T, s.h, v, h', true, true⟩
      have lr : ∀ r, (r ∈ opRefs s.T o ∨ ∃ a, a ∈ ids ∧ r ∈ blkRefs s.h a) → LRef e0 r := fun r hr => by
        rcases hr with hr | ⟨id, hid, hr⟩
        · obtain ⟨x, hx1, hx2⟩ := List.mem_flatMap.1 hr
          exact .inl ⟨x, hx1, hx2⟩
        · obtain ⟨b, hb, hr⟩ := blkRefs_mem hr
          exact .inr ⟨id, hid, b, hb, hr⟩
      refine ⟨e0 :: es, s', ⟨rfl, rfl, ?_, h', l1, ?_, hch⟩, by simp [e0, ho], by simpa using hd, hK, fun k e1 he1 => ?_⟩
      · exact { dst := rfl, names := rfl, lo := rfl, le := Nat.le_refl _, guard := hg, no := fun k => (by cases k), lt := fun _ => ⟨rfl, fun r hr => lr r (k2 r (.inl hr)), fun id hid b hb r hr => lr r (k2 r (.inr ⟨id, hid, mem_blkRefs hb hr⟩)), l4⟩, ids := fun id hid => k1 id hid, ops := fun _ k => (by cases k), refs := fun _ k => (by cases k), sem := fun _ k => (by cases k), len := fun _ k => (by cases k), val := fun k => (by cases k), out := fun _ k => (by cases k), ws := l2, keep := fun _ k => (by cases k) }
      · intro id
        simp only [effH]
        by_cases hh : id ∈ ws
        · rw [if_pos (.inr hh)]
        · rw [if_neg, l3 id hh]
          rintro (⟨k1, k2⟩ | k)
          · simp only [e0] at k1 k2; omega
          · exact hh k
      · cases k with
        | zero => simp at he1; subst he1; rfl
        | succ k => simp at he1; have := hj k e1 he1; omega
    have go : ∀ {T : List AV} (hTT : T = s.T), guardB all o s.T = some true → (match lightOp E T s.h o with
      | some (v, h', ids, ws) => bif lightOk T s.h o v h' ids ws then runDrawn E f call all an (n + 1) rest ⟨tput T o.dst v, h'⟩ (⟨n, namesOf all o, o.dst, ids, ws, s.h.length, s.h.length, []⟩ :: rs) K else none
      | none => drawnStep E f call (namesOf all o) n T s.h o (closure s.h 3 (opRefs T o)) (fun r v h => runDrawn E f call all an (n + 1) rest ⟨tput T o.dst v, h⟩ (r :: rs) K)) = some res →
        ∃ es s', Chain P all s.T s.h es s'.T s'.h ∧ es.map (·.o) = o :: rest ∧ drawOk an ((es.map (·.r)).reverse ++ rs) = true ∧ K s' = some res ∧ ∀ k e, es[k]? = some e → e.r.j = n + k := by
      intro T hTT hg e
      split at e
      · rename_i v h' ids ws hl
        obtain ⟨hk, e⟩ := cond_some e
        exact light hTT hl hk hg e
      · exact go hTT hg e
    simp only [runDrawn, goOn_eq, forceAt_eq, frcAV_eq] at e
    split at e
    · rename_i hg
      exact go rfl (by simp [guardB, hg]) e
    · rename_i j want hg
      split at e
      · rename_i oj hoj
        split at e
        · rename_i g hdst
          split at e
          · rename_i b hb
            cases b with
            | true =>
              simp only [cond_true] at e
              cases want with
              | true => simp only [cond_true] at e; exact go (tset_self hb) (by simp [guardB, hg, hoj, hdst, hb]) e
              | false => simp only [cond_false] at e; exact no (tset_self hb) (by simp [guardB, hg, hoj, hdst, hb]) e
            | false =>
              simp only [cond_false] at e
              cases want with
              | true => simp only [cond_true] at e; exact no (tset_self hb) (by simp [guardB, hg, hoj, hdst, hb]) e
              | false => simp only [cond_false] at e; exact go (tset_self hb) (by simp [guardB, hg, hoj, hdst, hb]) e
          · rename_i vs hb
            exact no rfl (by simp [guardB, hg, hoj, hdst, hb]) e
          · cases e
        · cases e
      · cases e

end Go.Proofs.YtohlmkcljoakfaaDoorAbs
