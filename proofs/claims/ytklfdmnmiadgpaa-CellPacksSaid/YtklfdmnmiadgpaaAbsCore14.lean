/- Cuts, places of elements and fields. -/
import Derived.Test.YtklfdmnmiadgpaaAbsCore13
namespace Go.Proofs.YtklfdmnmiadgpaaAbs
set_option linter.unusedVariables false
set_option linter.unusedSimpArgs false
open Go
variable {R : Type}

/-- A bound as the model has it. -/
def BndIs (a : Option Int) (v : Option Value) : Prop := (a = none ∧ v = none) ∨ ∃ k n, a = some n ∧ v = some (.int k n)

theorem bounds_run {P : Program} {w : World} {b : Bool} {lo hi : Option Int} {n cap : Nat} {olo ohi : Option Value} (h : bnds lo hi n = true) (hc : n ≤ cap) (ql : BndIs lo olo) (qh : BndIs hi ohi) :
    (Instr.sliceBounds b n cap olo ohi none).run P w = .ok ((lo.getD 0).toNat, (hi.getD n).toNat, cap) w ∧ (lo.getD 0).toNat ≤ (hi.getD n).toNat ∧ (hi.getD n).toNat ≤ n := by
  rcases ql with ⟨rfl, rfl⟩ | ⟨k, x, rfl, rfl⟩ <;> rcases qh with ⟨rfl, rfl⟩ | ⟨k', y, rfl, rfl⟩
  · simp [Instr.sliceBounds]
  · simp only [bnds, Bool.and_eq_true, decide_eq_true_eq] at h
    have h1 : 0 ≤ y ∧ y ≤ (cap : Int) := ⟨h.1, by omega⟩
    refine ⟨by simp [Instr.sliceBounds, Instr.sliceBound, asIntOf, h1], by simp, by simp; omega⟩
  · simp only [bnds, Bool.and_eq_true, decide_eq_true_eq] at h
    have h1 : 0 ≤ x ∧ x ≤ (n : Int) := ⟨h.1, by omega⟩
    refine ⟨by simp [Instr.sliceBounds, Instr.sliceBound, asIntOf, h1], by simp; omega, by simp⟩
  · simp only [bnds, Bool.and_eq_true, decide_eq_true_eq] at h
    have h1 : 0 ≤ y ∧ y ≤ (cap : Int) := ⟨h.1.1, by omega⟩
    have h2 : 0 ≤ x ∧ x ≤ (y.toNat : Int) := ⟨h.2.1, by omega⟩
    refine ⟨?_, by simp; omega, by simp; omega⟩
    have h2' : 0 ≤ x ∧ x ≤ max y 0 := by omega
    simp [Instr.sliceBounds, Instr.sliceBound, asIntOf, h1, h2, h2']

theorem cutList_eq {α : Type} (l : List α) (lo hi : Option Int) : cutList l lo hi = (l.take (hi.getD l.length).toNat).drop (lo.getD 0).toNat := by
  cases lo <;> cases hi <;> simp [cutList]

theorem sliceAt_run {P : Program} {w : World} {t el : TypeId} {sz : Nat} (hu : P.underlying t = some (.slice el)) (hs : (sizeOf el).run P w = .ok sz w) {lo hi : Option Int} {n cap : Nat} {a : Option Addr} {olo ohi : Option Value}
    (h : bnds lo hi n = true) (hc : n ≤ cap) (ql : BndIs lo olo) (qh : BndIs hi ohi) :
    (Instr.sliceAt t (.slice a n cap) olo ohi none).run P w = .ok (.slice (if cap = (lo.getD 0).toNat then a else a.map (·.add ((lo.getD 0).toNat * sz))) ((hi.getD n).toNat - (lo.getD 0).toNat) (cap - (lo.getD 0).toNat)) w := by
  have hb := (bounds_run (P := P) (w := w) (b := true) h hc ql qh).1
  simp [Instr.sliceAt, run_underlying hu, Instr.slice, hb, hs]

theorem sliceA_ok {P : Program} {t el : TypeId} (hu : P.underlying t = some (.slice el)) {sz : Nat} (hs : ∀ w, (sizeOf el).run P w = .ok sz w) {h : Heap} {x : AV} {lo hi : Option Int} {K : AV → Option R} {res : R} (e : sliceA h sz x lo hi K = some res) :
    ∃ v, K v = some res ∧ ∀ (m : Mem) (u : Value) (olo ohi : Option Value), Sim m h → Rel m h x u → BndIs lo olo → BndIs hi ohi → ∃ cv, (Instr.sliceAt t u olo ohi none).run P m.w = .ok cv m.w ∧ Rel m h v cv := by
  unfold sliceA at e
  split at e
  · rename_i r l nn
    obtain ⟨hb, e⟩ := cond_some e
    simp only [Bool.and_eq_true] at hb
    have hsz := Nat.eq_of_beq_eq_true hb.2
    refine ⟨_, e, fun m u olo ohi S q ql qh => ?_⟩
    obtain ⟨a, n, cap, rfl, rfl, hcap, hh⟩ := q.1
    have hrun := sliceAt_run hu (hs m.w) (a := a) hb.1 hcap ql qh
    have hbd := (bounds_run (P := P) (w := m.w) (b := true) hb.1 hcap ql qh).2
    refine ⟨_, hrun, ?_, fun k => by cases k⟩
    rw [cutList_eq]
    have hlen : ((l.take (hi.getD l.length).toNat).drop (lo.getD 0).toNat).length = (hi.getD l.length).toNat - (lo.getD 0).toNat := by simp; omega
    refine ⟨_, _, _, rfl, hlen.symm, by omega, ?_⟩
    rcases hh with rfl | ⟨B, o, vs, rfl, hB, hr, hl⟩
    · exact .inl (List.eq_nil_of_length_eq_zero (by rw [hlen]; have h7 := hbd.2; simp only [List.length_nil] at h7 ⊢; omega))
    · by_cases h0 : (hi.getD l.length).toNat - (lo.getD 0).toNat = 0
      · exact .inl (List.eq_nil_of_length_eq_zero (by rw [hlen]; exact h0))
      · have hn := fun x cs (hx : r.rep m.w m.good x cs) => Row.rep_length r x cs hx
        refine .inr ⟨B, o + (lo.getD 0).toNat * r.size, _, ?_, hB, RepAll.drop hn _ (RepAll.take hn _ hr), (hl.take _).drop _⟩
        rw [if_neg (by omega), ← hsz]; simp [addr_add]
  · rename_i id
    split at e
    · rename_i r l hg
      obtain ⟨hz, e⟩ := cond_some e
      have hsz := Nat.eq_of_beq_eq_true hz
      have gen : ∀ (m : Mem) (u : Value) (olo ohi : Option Value), bnds lo hi l.length = true → Sim m h → Rel m h (.own id) u → BndIs lo olo → BndIs hi ohi → ∃ cv, (Instr.sliceAt t u olo ohi none).run P m.w = .ok cv m.w ∧ Rel m h (.msl id (lo.getD 0).toNat ((hi.getD l.length).toNat - (lo.getD 0).toNat)) cv := fun m u olo ohi hb S q ql qh => by
        simp only [Rel] at q
        rcases q.2 _ r l hg with ⟨rfl, hl, a, rfl⟩ | ⟨B, o, cap, hl, rfl, hcap, ty', n', hsh, hle⟩
        · have hrun := sliceAt_run hu (hs m.w) (a := a) (n := 0) (cap := 0) hb (Nat.le_refl _) ql qh
          have hbd := (bounds_run (P := P) (w := m.w) (b := true) (n := 0) (cap := 0) hb (Nat.le_refl _) ql qh).2
          refine ⟨_, hrun, ?_⟩
          simp only [Rel]
          refine ⟨⟨q.1.1, rfl⟩, fun et' s k e2 => ?_⟩
          rw [hg] at e2; injection e2 with e2; injection e2 with e0 e3 e4; subst e0; subst e3; have := eq_of_heq e4; subst this
          exact ⟨_, _, rfl, by simp at hbd ⊢; omega, by simp at hbd ⊢; omega, by simp, .inl (by omega)⟩
        · have hrun := sliceAt_run hu (hs m.w) (a := some ⟨B, o, none⟩) hb hcap ql qh
          have hbd := (bounds_run (P := P) (w := m.w) (b := true) hb hcap ql qh).2
          refine ⟨_, hrun, ?_⟩
          simp only [Rel]
          refine ⟨⟨q.1.1, rfl⟩, fun et' s k e2 => ?_⟩
          rw [hg] at e2; injection e2 with e2; injection e2 with e0 e3 e4; subst e0; subst e3; have := eq_of_heq e4; subst this
          refine ⟨_, _, rfl, by omega, by omega, by omega, ?_⟩
          by_cases h0 : cap - (lo.getD 0).toNat = 0
          · exact .inl h0
          · refine .inr ⟨B, o, hl, ?_⟩
            rw [if_neg (by omega), ← hsz]; simp [addr_add]
      split at e
      · refine ⟨_, e, fun m u olo ohi S q ql qh => ?_⟩
        rcases ql with ⟨_, rfl⟩ | ⟨k, n, hh, _⟩
        · rcases qh with ⟨_, rfl⟩ | ⟨k, n, hh, _⟩
          · have q0 := q
            simp only [Rel] at q
            rcases q.2 _ r l hg with ⟨rfl, hl, a, rfl⟩ | ⟨B, o, cap, hl, rfl, hcap, ty', n', hsh, hle⟩
            · have hrun := sliceAt_run (lo := none) (hi := none) hu (hs m.w) (a := a) (n := 0) (cap := 0) rfl (Nat.le_refl _) (.inl ⟨rfl, rfl⟩) (.inl ⟨rfl, rfl⟩)
              exact ⟨_, hrun, by simpa using q0⟩
            · have hrun := sliceAt_run (lo := none) (hi := none) hu (hs m.w) (a := some ⟨B, o, none⟩) (n := List.length l) (cap := cap) rfl hcap (.inl ⟨rfl, rfl⟩) (.inl ⟨rfl, rfl⟩)
              refine ⟨_, hrun, ?_⟩
              have : (if cap = 0 then some (⟨B, o, none⟩ : Addr) else some ⟨B, o, none⟩) = some ⟨B, o, none⟩ := by split <;> rfl
              simpa [addr_add, this] using q0
          · cases hh
        · cases hh
      · obtain ⟨hb, e⟩ := cond_some e
        exact ⟨_, e, fun m u olo ohi S q ql qh => gen m u olo ohi hb S q ql qh⟩
    · cases e
  · rename_i id off len
    split at e
    · rename_i r l hg
      obtain ⟨hb, e⟩ := cond_some e
      simp only [Bool.and_eq_true] at hb
      have hsz := Nat.eq_of_beq_eq_true hb.2
      refine ⟨_, e, fun m u olo ohi S q ql qh => ?_⟩
      simp only [Rel] at q
      obtain ⟨a, cap, rfl, g2, g3, g5, g4⟩ := q.2 _ r l hg
      have hrun := sliceAt_run hu (hs m.w) (a := a) hb.1 g2 ql qh
      have hbd := (bounds_run (P := P) (w := m.w) (b := true) hb.1 g2 ql qh).2
      refine ⟨_, hrun, ?_⟩
      simp only [Rel]
      refine ⟨⟨q.1.1, rfl⟩, fun et' s k e2 => ?_⟩
      rw [hg] at e2; injection e2 with e2; injection e2 with e0 e3 e4; subst e0; subst e3; have := eq_of_heq e4; subst this
      refine ⟨_, _, rfl, by omega, by omega, by omega, ?_⟩
      by_cases h0 : cap - (lo.getD 0).toNat = 0
      · exact .inl h0
      · rcases g4 with g4 | ⟨B, o, g4, rfl⟩
        · exact .inl (by omega)
        · refine .inr ⟨B, o, g4, ?_⟩
          rw [if_neg (by omega), ← hsz]
          simp [addr_add, Nat.add_mul, Nat.add_assoc]
    · cases e
  · obtain ⟨hb, e⟩ := cond_some e
    refine ⟨_, e, fun m u olo ohi S q ql qh => ?_⟩
    simp only [Rel] at q; subst q
    have hrun := sliceAt_run hu (hs m.w) (a := none) (n := 0) (cap := 0) hb (Nat.le_refl _) ql qh
    have hbd := (bounds_run (P := P) (w := m.w) (b := true) (n := 0) (cap := 0) hb (Nat.le_refl _) ql qh).2
    refine ⟨_, hrun, ?_⟩
    simp only [Rel]
    have h1 : (lo.getD 0).toNat = 0 := by omega
    have h2 : (hi.getD ((0 : Nat) : Int)).toNat = 0 := by omega
    rw [h1, h2]; rfl
  · cases e

theorem pickIx_ok {i : Int} {K : Nat → Option R} {res : R} : (n j : Nat) → pickIx i K n j = some res → ∃ k, j ≤ k ∧ k < j + n ∧ i = (k : Int) ∧ K k = some res
  | 0, j, e => by simp [pickIx] at e
  | n + 1, j, e => by
    simp only [pickIx] at e
    cases hb : (i == (j : Int)) with
    | true => rw [hb] at e; simp only [cond_true] at e; exact ⟨j, Nat.le_refl _, by omega, by simpa using hb, e⟩
    | false =>
      rw [hb] at e; simp only [cond_false] at e
      obtain ⟨k, h1, h2, h3, h4⟩ := pickIx_ok n (j + 1) e
      exact ⟨k, by omega, by omega, h3, h4⟩

theorem elemSize_slice {P : Program} {tab : List (TypeId × TI)} (hT : ∀ t ti, tyFind tab t = some ti → TI.ok P t ti) {t el : TypeId} {sz : Nat} (hk : tyKind tab t = some (.slice el)) (he : elemSize tab t = some sz) :
    P.underlying t = some (.slice el) ∧ ∀ w, (sizeOf el).run P w = .ok sz w := by
  unfold elemSize at he
  rw [hk] at he
  simp only at he
  split at he
  · rename_i te hte
    injection he with he; subst he
    obtain ⟨ti, _, d, hd1, hd2⟩ := tyKind_ok hT hk
    cases d <;> simp [kindOk] at hd2
    subst hd2
    exact ⟨hd1, fun w => (hT _ _ hte).size_run w⟩
  · cases he
theorem elemSize_arr {P : Program} {tab : List (TypeId × TI)} (hT : ∀ t ti, tyFind tab t = some ti → TI.ok P t ti) {t el : TypeId} {n sz : Nat} (hk : tyKind tab t = some (.arr n el)) (he : elemSize tab t = some sz) :
    P.underlying t = some (.array n el) ∧ ∀ w, (sizeOf el).run P w = .ok sz w := by
  unfold elemSize at he
  rw [hk] at he
  simp only at he
  split at he
  · rename_i te hte
    injection he with he; subst he
    obtain ⟨ti, _, d, hd1, hd2⟩ := tyKind_ok hT hk
    cases d <;> simp [kindOk] at hd2
    obtain ⟨h1, h2⟩ := hd2
    subst h1; subst h2
    exact ⟨hd1, fun w => (hT _ _ hte).size_run w⟩
  · cases he

theorem idx_slice_run {P : Program} {w : World} {t el : TypeId} {sz : Nat} (hu : P.underlying t = some (.slice el)) (hs : (sizeOf el).run P w = .ok sz w) {k : IntKind} {i : Int} {B o n cap : Nat} (h0 : 0 ≤ i) (h1 : i < n) :
    (Instr.indexAt t (.slice (some ⟨B, o, none⟩) n cap) (.int k i)).run P w = .ok (.pointer (some ⟨B, o + i.toNat * sz, none⟩)) w := by
  simp [Instr.indexAt, asIntOf, run_underlying hu, h0, h1, hs, addr_add]
theorem idx_arr_run {P : Program} {w : World} {t el : TypeId} {n sz : Nat} (hu : P.underlying t = some (.array n el)) (hs : (sizeOf el).run P w = .ok sz w) {k : IntKind} {j : Nat} {B o : Nat} (h1 : j < n) :
    (Instr.indexAt t (.pointer (some ⟨B, o, none⟩)) (.int k (j : Int))).run P w = .ok (.pointer (some ⟨B, o + j * sz, none⟩)) w := by
  have h2 : (0 : Int) ≤ (j : Int) ∧ (j : Int) < (n : Int) := by omega
  simp [Instr.indexAt, asIntOf, run_underlying hu, Instr.sureAddr, h1, hs, addr_add]

theorem idxAddr_ok {P : Program} {E : Env} (hT : TabOk P E.tab) {h : Heap} {t : TypeId} {x : AV} {i : Int} {K : AV → Option R} {res : R} (e : idxAddr E h t x i K = some res) :
    ∃ v, K v = some res ∧ ∀ (m : Mem) (u : Value) (k : IntKind), Sim m h → Rel m h x u → ∃ cv, (Instr.indexAt t u (.int k i)).run P m.w = .ok cv m.w ∧ Rel m h v cv := by
  unfold idxAddr at e
  split at e
  · rename_i el sz hk he
    obtain ⟨hu, hs⟩ := elemSize_slice hT.ti hk he
    split at e
    · rename_i r l nn
      obtain ⟨hb, e⟩ := cond_some e
      simp only [Bool.and_eq_true, decide_eq_true_eq] at hb
      obtain ⟨⟨h0, h1⟩, h2⟩ := hb
      have hsz := Nat.eq_of_beq_eq_true h2
      refine ⟨_, e, fun m u k S q => ?_⟩
      obtain ⟨a, n, cap, rfl, rfl, hcap, hh⟩ := q.1
      rcases hh with rfl | ⟨B, o, vs, rfl, hB, hr, hl⟩
      · exact absurd h1 (by simp; omega)
      · refine ⟨_, idx_slice_run hu (hs m.w) h0 h1, ?_⟩
        have hlt : i.toNat < List.length l := by omega
        have hn := fun x cs (hx : r.rep m.w m.good x cs) => Row.rep_length r x cs hx
        have hrow := RepAll.get hn i.toNat hr hlt
        have eg : l.getD i.toNat r.dflt = l[i.toNat] := by simp [List.getD, List.getElem?_eq_getElem hlt]
        rw [eg]
        refine ⟨B, o + i.toNat * sz, _, rfl, hB, Row.avs_rel r _ _ hrow, ?_⟩
        rw [← hsz]
        exact (hl.drop _).take _
    · rename_i id
      split at e
      · rename_i r l hg
        obtain ⟨hb, e⟩ := cond_some e
        simp only [Bool.and_eq_true, decide_eq_true_eq] at hb
        obtain ⟨⟨h0, h1⟩, h2⟩ := hb
        have hsz := Nat.eq_of_beq_eq_true h2
        refine ⟨_, e, fun m u k S q => ?_⟩
        simp only [Rel] at q
        rcases q.2 _ r l hg with ⟨rfl, hl, a, rfl⟩ | ⟨B, o, cap, hl, rfl, hcap, ty', n', hsh, hle⟩
        · exact absurd h1 (by simp; omega)
        · refine ⟨_, idx_slice_run hu (hs m.w) h0 h1, ?_⟩
          simp only [Rel]
          refine ⟨⟨q.1.1, rfl⟩, fun et' s k e2 => ?_⟩
          rw [hg] at e2; injection e2 with e2; injection e2 with e0 e3 e4; subst e0; subst e3; have := eq_of_heq e4; subst this
          exact ⟨B, o, hl, by rw [hsz]; rfl, by omega⟩
      · cases e
    · rename_i id off len
      split at e
      · rename_i r l hg
        obtain ⟨hb, e⟩ := cond_some e
        simp only [Bool.and_eq_true, decide_eq_true_eq] at hb
        obtain ⟨⟨h0, h1⟩, h2⟩ := hb
        have hsz := Nat.eq_of_beq_eq_true h2
        refine ⟨_, e, fun m u k S q => ?_⟩
        simp only [Rel] at q
        obtain ⟨a, cap, rfl, g2, g3, g4⟩ := msl_old (q.2 _ r l hg)
        rcases g4 with g4 | ⟨B, o, g4, rfl⟩
        · omega
        · refine ⟨_, idx_slice_run hu (hs m.w) h0 h1, ?_⟩
          simp only [Rel]
          refine ⟨⟨q.1.1, rfl⟩, fun et' s k e2 => ?_⟩
          rw [hg] at e2; injection e2 with e2; injection e2 with e0 e3 e4; subst e0; subst e3; have := eq_of_heq e4; subst this
          exact ⟨B, o, g4, by rw [← hsz, Nat.add_mul]; simp [Nat.add_assoc], by omega⟩
      · cases e
    · cases e
  · rename_i n el sz hk he
    obtain ⟨hu, hs⟩ := elemSize_arr hT.ti hk he
    split at e
    · rename_i id off
      split at e
      · rename_i cs hg
        obtain ⟨j, _, hj, hij, e2⟩ := pickIx_ok _ _ e
        subst hij
        refine ⟨_, e2, fun m u k S q => ?_⟩
        simp only [Rel] at q
        obtain ⟨B, hl, rfl⟩ := q.2 _ cs hg
        refine ⟨_, idx_arr_run hu (hs m.w) (by omega), ?_⟩
        simp only [Rel]
        refine ⟨⟨q.1.1, rfl⟩, fun _ cs' e3 => ⟨B, hl, rfl⟩⟩
      · cases e
    · rename_i id ix off
      split at e
      · rename_i r l hg
        obtain ⟨j, _, hj, hij, e2⟩ := pickIx_ok _ _ e
        subst hij
        refine ⟨_, e2, fun m u k S q => ?_⟩
        simp only [Rel] at q
        obtain ⟨B, o, hl, rfl, hix⟩ := q.2 _ r l hg
        refine ⟨_, idx_arr_run hu (hs m.w) (by omega), ?_⟩
        simp only [Rel]
        refine ⟨⟨q.1.1, rfl⟩, fun et' s k e3 => ?_⟩
        rw [hg] at e3; injection e3 with e3; injection e3 with e0 e4 e5; subst e0; subst e4; have := eq_of_heq e5; subst this
        exact ⟨B, o, hl, by simp [Nat.add_assoc], hix⟩
      · cases e
    · rename_i cs
      obtain ⟨j, _, hj, hij, e2⟩ := pickIx_ok _ _ e
      subst hij
      refine ⟨_, e2, fun m u k S q => ?_⟩
      simp only [Rel] at q
      obtain ⟨B, o, vs, rfl, h2, h3, h4⟩ := q
      refine ⟨_, idx_arr_run hu (hs m.w) (by omega), B, _, _, rfl, h2, RelL.drop _ h3, h4.drop _⟩
    · cases e
  · cases e

theorem pairsEq_get : (a b : List (Nat × TypeId)) → pairsEq a b = true → a = b
  | [], [], _ => rfl
  | [], _ :: _, h => by simp [pairsEq] at h
  | _ :: _, [], h => by simp [pairsEq] at h
  | (x, y) :: a, (z, w) :: b, h => by
    simp only [pairsEq, Bool.and_eq_true] at h
    rw [Nat.eq_of_beq_eq_true h.1.1, Nat.eq_of_beq_eq_true h.1.2, pairsEq_get a b h.2]

theorem field_get {P : Program} {tab : List (TypeId × TI)} (hT : ∀ t ti, tyFind tab t = some ti → TI.ok P t ti) {s : TypeId} {fs : List (Nat × TypeId)} (hk : tyKind tab s = some (.struct fs)) {f o : Nat} {u : TypeId} (hf : fs[f]? = some (o, u)) :
    ∃ gs fd, P.underlying s = some (.struct gs) ∧ gs[f]? = some fd ∧ fd.offset = o ∧ fd.type = u := by
  obtain ⟨ti, _, d, hd1, hd2⟩ := tyKind_ok hT hk
  cases d <;> simp [kindOk] at hd2
  rename_i gs
  have := pairsEq_get _ _ hd2
  subst this
  simp only [List.getElem?_map, Array.getElem?_toList, Option.map_eq_some_iff] at hf
  obtain ⟨fd, h1, h2⟩ := hf
  injection h2 with h2 h3
  exact ⟨gs, fd, hd1, h1, h2, h3⟩

theorem field_run {P : Program} {w : World} {s : TypeId} {gs : Array Field} {fd : Field} {f o : Nat} {tu : TI} (hu : P.underlying s = some (.struct gs)) (hf : gs[f]? = some fd) (ho : fd.offset = o) (ht : TI.ok P fd.type tu) (h0 : tu.size ≠ 0) {B b : Nat} :
    (Instr.fieldAt s (.pointer (some ⟨B, b, none⟩)) f).run P w = .ok (.pointer (some ⟨B, b + o, none⟩)) w := by
  have := ht.size_run w
  simp [Instr.fieldAt, run_underlying hu, hf, Instr.sureAddr, Go.fieldPlace, this, h0, addr_add, ho]

theorem fldAddr_ok {P : Program} {E : Env} (hT : TabOk P E.tab) {h : Heap} {s : TypeId} {x v : AV} {f : Nat} (e : fldAddr E h s x f = some v) {m : Mem} {u : Value} (S : Sim m h) (q : Rel m h x u) :
    ∃ cv, (Instr.fieldAt s u f).run P m.w = .ok cv m.w ∧ Rel m h v cv := by
  unfold fldAddr at e
  split at e
  · rename_i fs hk
    split at e
    · rename_i o ut hf
      split at e
      · rename_i tu htu
        obtain ⟨hz, e⟩ := cond_none e
        have h0 : tu.size ≠ 0 := fun q => by rw [q] at hz; cases hz
        obtain ⟨gs, fd, g1, g2, g3, g4⟩ := field_get hT.ti hk hf
        subst g4
        have hok := hT.ti _ _ htu
        split at e
        · rename_i id off
          split at e
          · rename_i cs hg
            injection e with e; subst e
            simp only [Rel] at q
            obtain ⟨B, hl, rfl⟩ := q.2 _ cs hg
            refine ⟨_, field_run g1 g2 g3 hok h0, ?_⟩
            simp only [Rel]
            exact ⟨⟨q.1.1, rfl⟩, fun _ _ _ => ⟨B, hl, rfl⟩⟩
          · cases e
        · rename_i id ix j
          split at e
          · rename_i r l hg
            injection e with e; subst e
            simp only [Rel] at q
            obtain ⟨B, o', hl, rfl, hix⟩ := q.2 _ r l hg
            refine ⟨_, field_run g1 g2 g3 hok h0, ?_⟩
            simp only [Rel]
            refine ⟨⟨q.1.1, rfl⟩, fun et' s k e3 => ?_⟩
            rw [hg] at e3; injection e3 with e3; injection e3 with e0 e4 e5; subst e0; subst e4; have := eq_of_heq e5; subst this
            exact ⟨B, o', hl, by simp [Nat.add_assoc], hix⟩
          · cases e
        · rename_i cs
          injection e with e; subst e
          simp only [Rel] at q
          obtain ⟨B, b, vs, rfl, h2, h3, h4⟩ := q
          exact ⟨_, field_run g1 g2 g3 hok h0, B, _, _, rfl, h2, RelL.drop _ h3, h4.drop _⟩
        · cases e
      · cases e
    · cases e
  · cases e

end Go.Proofs.YtklfdmnmiadgpaaAbs
