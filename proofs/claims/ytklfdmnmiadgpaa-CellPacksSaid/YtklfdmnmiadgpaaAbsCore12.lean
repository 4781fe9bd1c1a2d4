/- Binary operations, conversions, addresses, cuts. -/
import Derived.Test.YtklfdmnmiadgpaaAbsCore11
namespace Go.Proofs.YtklfdmnmiadgpaaAbs
set_option linter.unusedVariables false
set_option linter.unusedSimpArgs false
open Go
variable {R : Type}

def TI.eqCheck (P : Program) (t : TypeId) (ti : TI) : Bool := !ti.eqok || (eqT P 40 t ti.zero && !P.eqGuardType P.depth t)
structure TabOk (P : Program) (tab : List (TypeId × TI)) : Prop where
  ti : ∀ t ti, tyFind tab t = some ti → TI.ok P t ti
  eq : ∀ t ti, tyFind tab t = some ti → ti.eqok = true → eqT P 40 t ti.zero = true ∧ P.eqGuardType P.depth t = false
def eqTabCheck (P : Program) (tab : List (TypeId × TI)) : Bool := tab.all fun p => p.2.eqCheck P p.1
theorem tyFind_mem {tab : List (TypeId × TI)} {t : TypeId} {ti : TI} (e : tyFind tab t = some ti) : (t, ti) ∈ tab := by
  induction tab with
  | nil => simp [tyFind] at e
  | cons p l ih =>
    simp only [tyFind] at e
    cases q : Nat.beq p.1 t with
    | true =>
      rw [q] at e; simp only [cond_true] at e; injection e with e; subst e
      rw [← Nat.eq_of_beq_eq_true q]; exact List.mem_cons_self
    | false => rw [q] at e; exact List.mem_cons_of_mem _ (ih e)
theorem tabOk_of {P : Program} {tab : List (TypeId × TI)} (h1 : tabCheck P tab = true) (h2 : eqTabCheck P tab = true) : TabOk P tab where
  ti := tab_ok h1
  eq := fun t ti e q => by
    have := List.all_eq_true.1 h2 _ (tyFind_mem e)
    unfold TI.eqCheck at this
    simp only [q, Bool.not_true, Bool.false_or, Bool.and_eq_true, Bool.not_eq_true'] at this
    exact this

theorem sizeOf_cells {P : Program} {t : TypeId} {ti : TI} (k : TI.ok P t ti) : P.cellsOf t = ti.size := by
  obtain ⟨i, z, h1, h2, _⟩ := k.info
  simp [Program.cellsOf, h1, h2]

theorem str_rel {m : Mem} {h : Heap} {l : List Int} {u : Value} (q : Rel m h (.str l) u) : ∃ s, u = .string s ∧ bytesOf s = l := q

theorem equal_succ (t : TypeId) (x y : Value) : Op.equal t x y = Op.equalIn (9999 + 1) t x y := rfl
section
variable {P : Program} {w : World} {t : TypeId}
theorem eqn_ptr_nil (d : Nat) {e : TypeId} (hu : P.underlying t = some (.pointer e)) (b : Option Addr) : (Op.equalIn (d + 1) t (.pointer none) (.pointer b)).run P w = .ok b.isNone w := by
  simp [Op.equalIn, run_underlying hu]
theorem eqn_nil_ptr (d : Nat) {e : TypeId} (hu : P.underlying t = some (.pointer e)) (a : Addr) : (Op.equalIn (d + 1) t (.pointer (some a)) (.pointer none)).run P w = .ok false w := by
  simp [Op.equalIn, run_underlying hu]
theorem eqn_ptr_same (d : Nat) {e : TypeId} (hu : P.underlying t = some (.pointer e)) (hi : ∃ i, P.info? e = some i) (hs : P.cellsOf e ≠ 0) (a : Addr) : (Op.equalIn (d + 1) t (.pointer (some a)) (.pointer (some a))).run P w = .ok true w := by
  obtain ⟨i, hi⟩ := hi
  have : (sizeOf e).run P w = .ok (P.cellsOf e) w := run_sizeOf w hi
  simp [Op.equalIn, run_underlying hu, this, hs, sameAddr]
theorem eqn_slice_nil (d : Nat) {e : TypeId} (hu : P.underlying t = some (.slice e)) (b : Option Addr) (m k n c : Nat) : (Op.equalIn (d + 1) t (.slice none m k) (.slice b n c)).run P w = .ok b.isNone w := by
  simp [Op.equalIn, run_underlying hu]
theorem eqn_nil_slice (d : Nat) {e : TypeId} (hu : P.underlying t = some (.slice e)) (a : Addr) (m k n c : Nat) : (Op.equalIn (d + 1) t (.slice (some a) m k) (.slice none n c)).run P w = .ok false w := by
  simp [Op.equalIn, run_underlying hu]
end

/-- Neither operand is a number or a text. -/
structure NoNum (u w : Value) : Prop where
  int : ∀ k a j c, ¬ (u = .int k a ∧ w = .int j c)
  str : ∀ s s', ¬ (u = .string s ∧ w = .string s')
  float : ∀ k a j c, ¬ (u = .float k a ∧ w = .float j c)
  complex : ∀ k a c j d f, ¬ (u = .complex k a c ∧ w = .complex j d f)

theorem eqVal_ok {P : Program} {tab : List (TypeId × TI)} (hT : TabOk P tab) {t : TypeId} {ti : TI} (ht : tyFind tab t = some ti) {h : Heap} {x y : AV} {b : Bool} (e : eqVal tab h ti x y = some b) {m : Mem} (S : Sim m h) {u w : Value} (q : Rel m h x u) (q' : Rel m h y w) (op : BinOp) (ox oy : Operand) :
    (eqGuard op t ox oy u w).run P m.w = .ok () m.w ∧ (Op.equal t u w).run P m.w = .ok b m.w ∧ NoNum u w := by
  obtain ⟨d, hd1, hd2⟩ := (hT.ti t ti ht).desc
  unfold eqVal at e
  rw [equal_succ]
  split at e
  · rename_i hk
    injection e with e; subst e
    simp only [Rel] at q q'; subst q; subst q'
    rw [hk] at hd2
    cases d <;> simp [kindOk] at hd2
    exact ⟨eqGuard_skip (by simp) (by simp), run_equalIn_bool' m.w 9999 t _ _ hd1, by constructor <;> simp⟩
  · rename_i hk
    injection e with e; subst e
    simp only [Rel] at q q'; subst q; subst q'
    rw [hk] at hd2
    cases d <;> simp [kindOk] at hd2
    exact ⟨eqGuard_skip (by simp) (by simp), eqn_ptr_nil 9999 hd1 _, by constructor <;> simp⟩
  · rename_i id off hk
    rw [hk] at hd2
    cases d <;> simp [kindOk] at hd2
    split at e
    · rename_i cs hg
      injection e with e; subst e
      simp only [Rel] at q q'; subst q
      obtain ⟨B, hl, rfl⟩ := q'.2 _ cs hg
      exact ⟨eqGuard_skip (by simp) (by simp), eqn_ptr_nil 9999 hd1 _, by constructor <;> simp⟩
    · cases e
  · rename_i id off hk
    rw [hk] at hd2
    cases d <;> simp [kindOk] at hd2
    split at e
    · rename_i cs hg
      injection e with e; subst e
      simp only [Rel] at q q'; subst q'
      obtain ⟨B, hl, rfl⟩ := q.2 _ cs hg
      exact ⟨eqGuard_skip (by simp) (by simp), eqn_nil_ptr 9999 hd1 _, by constructor <;> simp⟩
    · cases e
  · rename_i el a i b' j hk
    rw [hk] at hd2
    cases d <;> simp [kindOk] at hd2
    split at e
    · rename_i cs te hg hte
      obtain ⟨hb, e⟩ := cond_some e
      injection e with e; subst e
      simp only [Bool.and_eq_true] at hb
      obtain ⟨⟨hb1, hb2⟩, hb3⟩ := hb
      have e1 := Nat.eq_of_beq_eq_true hb1; subst e1
      have e2 := Nat.eq_of_beq_eq_true hb2; subst e2
      simp only [Rel] at q q'
      obtain ⟨B, hl, rfl⟩ := q.2 _ cs hg
      obtain ⟨B', hl', rfl⟩ := q'.2 _ cs hg
      rw [hl] at hl'; injection hl' with hl'; injection hl' with hl'; subst hl'
      obtain ⟨ii, z, j1, j2, _⟩ := (hT.ti _ te hte).info
      have hsz := sizeOf_cells (hT.ti _ te hte)
      subst hd2
      exact ⟨eqGuard_skip (by simp) (by simp), eqn_ptr_same 9999 hd1 ⟨ii, j1⟩ (by rw [hsz]; have hb4 : 1 ≤ te.size := (by simpa [Nat.blt] using hb3); omega) _, by constructor <;> simp⟩
    · cases e
  · rename_i hk
    injection e with e; subst e
    simp only [Rel] at q q'; subst q; subst q'
    rw [hk] at hd2
    cases d <;> simp [kindOk] at hd2
    exact ⟨eqGuard_skip (by simp) (by simp), eqn_slice_nil 9999 hd1 _ _ _ _ _, by constructor <;> simp⟩
  · rename_i r l nn hk
    rw [hk] at hd2
    cases d <;> simp [kindOk] at hd2
    simp only [Rel] at q'; subst q'
    have key : (∃ a n c, u = .slice (some a) n c) → (eqGuard op t ox oy u (.slice none 0 0)).run P m.w = .ok () m.w ∧ (Op.equalIn (9999 + 1) t u (.slice none 0 0)).run P m.w = .ok false m.w ∧ NoNum u (.slice none 0 0) := fun ⟨a, n, c, hu⟩ => by
      subst hu
      exact ⟨eqGuard_skip (by simp) (by simp), eqn_nil_slice 9999 hd1 _ _ _ _ _, by constructor <;> simp⟩
    cases nn with
    | true => simp only [cond_true] at e; injection e with e; subst e; exact key (q.2 rfl)
    | false =>
      simp only [cond_false] at e
      split at e
      · injection e with e; subst e
        obtain ⟨a, n, c, rfl, hn, hc, hh⟩ := q.1
        rcases hh with hh | ⟨B, o, vs, rfl, _⟩
        · cases hh
        · exact key ⟨_, _, _, rfl⟩
      · cases e
  · rename_i id hk
    rw [hk] at hd2
    cases d <;> simp [kindOk] at hd2
    simp only [Rel] at q'; subst q'
    split at e
    · rename_i r x0 l0 hg
      injection e with e; subst e
      simp only [Rel] at q
      rcases q.2 _ r _ hg with ⟨h1, _⟩ | ⟨B, o, cap, g1, rfl, g3, _⟩
      · cases h1
      · exact ⟨eqGuard_skip (by simp) (by simp), eqn_nil_slice 9999 hd1 _ _ _ _ _, by constructor <;> simp⟩
    · cases e
  · rename_i id off len hk
    rw [hk] at hd2
    cases d <;> simp [kindOk] at hd2
    simp only [Rel] at q'; subst q'
    split at e
    · rename_i r l n hg
      injection e with e; subst e
      simp only [Rel] at q
      obtain ⟨a, cap, rfl, g2, g3, g4⟩ := msl_old (q.2 _ r l hg)
      rcases g4 with g4 | ⟨B, o, g4, rfl⟩
      · cases g4
      · exact ⟨eqGuard_skip (by simp) (by simp), eqn_nil_slice 9999 hd1 _ _ _ _ _, by constructor <;> simp⟩
    · cases e
  · rename_i fs xs ys hk
    obtain ⟨hq, e⟩ := cond_some e
    obtain ⟨g1, g2⟩ := hT.eq t ti ht hq
    rw [hk] at hd2
    cases d <;> simp [kindOk] at hd2
    simp only [Rel] at q q'
    obtain ⟨vs, rfl, q⟩ := q
    obtain ⟨us, rfl, q'⟩ := q'
    have hv := eqCells_veq ti.zero xs ys e q q'
    have hl := veq_len ti.zero _ _ hv
    obtain ⟨i, z, j1, j2, j3, j4, j5, j6⟩ := (hT.ti t ti ht).info
    have hc := sizeOf_cells (hT.ti t ti ht)
    have := eqT_run 40 t ti.zero g1 (9999 + 1) (by omega) m.w vs us b (by rw [hl.1, hc, j6]) (by rw [hl.2, hc, j6]) hv
    unfold mkc at this
    rw [hd1] at this
    exact ⟨run_eqGuard_agg m.w op t ox oy _ _ g2, this, by constructor <;> simp⟩
  · rename_i n el xs ys hk
    obtain ⟨hq, e⟩ := cond_some e
    obtain ⟨g1, g2⟩ := hT.eq t ti ht hq
    rw [hk] at hd2
    cases d <;> simp [kindOk] at hd2
    simp only [Rel] at q q'
    obtain ⟨vs, rfl, q⟩ := q
    obtain ⟨us, rfl, q'⟩ := q'
    have hv := eqCells_veq ti.zero xs ys e q q'
    have hl := veq_len ti.zero _ _ hv
    obtain ⟨i, z, j1, j2, j3, j4, j5, j6⟩ := (hT.ti t ti ht).info
    have hc := sizeOf_cells (hT.ti t ti ht)
    have := eqT_run 40 t ti.zero g1 (9999 + 1) (by omega) m.w vs us b (by rw [hl.1, hc, j6]) (by rw [hl.2, hc, j6]) hv
    unfold mkc at this
    rw [hd1] at this
    exact ⟨run_eqGuard_agg m.w op t ox oy _ _ g2, this, by constructor <;> simp⟩
  · cases e

theorem binOp_eql {P : Program} {t : TypeId} {u w : Value} {b : Bool} {wd : World} (k : NoNum u w) (e : (Op.equal t u w).run P wd = .ok b wd) : (Go.binOp .eql t u w).run P wd = .ok (.bool b) wd := by
  have hb : Go.binOp .eql t u w = (do pure (.bool (← Op.equal t u w))) := by
    unfold Go.binOp
    split <;> first | rfl | (exfalso; first | exact k.int _ _ _ _ ⟨rfl, rfl⟩ | exact k.float _ _ _ _ ⟨rfl, rfl⟩ | exact k.complex _ _ _ _ _ _ ⟨rfl, rfl⟩ | exact k.str _ _ ⟨rfl, rfl⟩) | simp_all
  rw [hb]; simp [e]
theorem binOp_neq {P : Program} {t : TypeId} {u w : Value} {b : Bool} {wd : World} (k : NoNum u w) (e : (Op.equal t u w).run P wd = .ok b wd) : (Go.binOp .neq t u w).run P wd = .ok (.bool (!b)) wd := by
  have hb : Go.binOp .neq t u w = (do pure (.bool (!(← Op.equal t u w)))) := by
    unfold Go.binOp
    split <;> first | rfl | (exfalso; first | exact k.int _ _ _ _ ⟨rfl, rfl⟩ | exact k.float _ _ _ _ ⟨rfl, rfl⟩ | exact k.complex _ _ _ _ _ _ ⟨rfl, rfl⟩ | exact k.str _ _ ⟨rfl, rfl⟩) | simp_all
  rw [hb]; simp [e]

theorem str_add {P : Program} {t : TypeId} {a b : ByteArray} {w : World} (h : (bytesOf a).length + (bytesOf b).length ≤ maxAppend) : (Go.binOp .add t (.string a) (.string b)).run P w = .ok (.string (a ++ b)) w := by
  rw [bytesOf_length, bytesOf_length] at h
  unfold maxAppend at h
  simp [Go.binOp, Op.stringOp]
  omega

theorem binOpA_ok {P : Program} {E : Env} (hT : TabOk P E.tab) {h : Heap} {op : BinOp} {t : TypeId} {x y : AV} {K : AV → Option R} {res : R} (e : binOpA E h op t x y K = some res) :
    ∃ v, K v = some res ∧ ∀ (m : Mem) (u w : Value) (ox oy : Operand), Sim m h → Rel m h x u → Rel m h y w →
      ∃ cv, (do eqGuard op t ox oy u w; Go.binOp op t u w : Sem Value).run P m.w = .ok cv m.w ∧ Rel m h v cv := by
  have fin : ∀ {v : AV} {u w : Value} (m : Mem) (ox oy : Operand), (∀ a b, ¬ (u = .agg a ∧ w = .agg b)) → ¬ (u = .nilIface ∧ w = .nilIface) → Gives (Go.binOp op t u w) v → ∃ cv, (do eqGuard op t ox oy u w; Go.binOp op t u w : Sem Value).run P m.w = .ok cv m.w ∧ Rel m h v cv := fun m ox oy h1 h2 g => by
    obtain ⟨cv, g1, g2⟩ := g
    exact ⟨cv, by simp [Sem.run_bind, eqGuard_skip h1 h2, g1], g2 m h⟩
  unfold binOpA at e
  split at e
  · rename_i k a j b
    split at e
    · obtain ⟨v, e, g⟩ := shl_ok (j := j) e
      refine ⟨v, e, fun m u w ox oy S q q' => ?_⟩
      rw [q.1, q'.1]; exact fin m ox oy (by simp) (by simp) (g t)
    · obtain ⟨v, e, g⟩ := shr_ok (j := j) e
      refine ⟨v, e, fun m u w ox oy S q q' => ?_⟩
      rw [q.1, q'.1]; exact fin m ox oy (by simp) (by simp) (g t)
    · rename_i h1 h2
      obtain ⟨hk, e1⟩ := cond_some e
      have hkj := kindEq_eq hk; subst hkj
      obtain ⟨v, e2, g⟩ := intOp_ok e1 (fun q => h1 q) (fun q => h2 q)
      refine ⟨v, e2, fun m u w ox oy S q q' => ?_⟩
      rw [q.1, q'.1]; exact fin m ox oy (by simp) (by simp) (g t)
  · rename_i a b
    split at e
    · obtain ⟨hb, e⟩ := cond_some e
      have hb := Nat.le_of_ble_eq_true hb
      refine ⟨_, e, fun m u w ox oy S q q' => ?_⟩
      obtain ⟨s, rfl, rfl⟩ := str_rel q
      obtain ⟨s', rfl, rfl⟩ := str_rel q'
      refine ⟨.string (s ++ s'), ?_, s ++ s', rfl, bytesOf_append s s'⟩
      simp [Sem.run_bind, eqGuard_skip, str_add hb]
    · refine ⟨_, e, fun m u w ox oy S q q' => ?_⟩
      obtain ⟨s, rfl, rfl⟩ := str_rel q
      obtain ⟨s', rfl, rfl⟩ := str_rel q'
      rw [bytesOf_eq]
      refine fin m ox oy (by simp) (by simp) (gives_bool fun P w => by simp [Go.binOp, Op.stringOp])
    · refine ⟨_, e, fun m u w ox oy S q q' => ?_⟩
      obtain ⟨s, rfl, rfl⟩ := str_rel q
      obtain ⟨s', rfl, rfl⟩ := str_rel q'
      rw [bytesOf_eq]
      refine fin m ox oy (by simp) (by simp) (gives_bool fun P w => by simp [Go.binOp, Op.stringOp])
    · cases e
  · split at e
    · rename_i ti hti
      split at e
      · rename_i b hb
        refine ⟨_, e, fun m u w ox oy S q q' => ?_⟩
        obtain ⟨g1, g2, g3⟩ := eqVal_ok hT hti hb S q q' .eql ox oy
        exact ⟨.bool b, by simp [Sem.run_bind, g1, binOp_eql g3 g2], rfl⟩
      · cases e
    · rename_i ti hti
      split at e
      · rename_i b hb
        refine ⟨_, e, fun m u w ox oy S q q' => ?_⟩
        obtain ⟨g1, g2, g3⟩ := eqVal_ok hT hti hb S q q' .neq ox oy
        exact ⟨.bool (!b), by simp [Sem.run_bind, g1, binOp_neq g3 g2], rfl⟩
      · cases e
    · cases e

end Go.Proofs.YtklfdmnmiadgpaaAbs
