/- Reads: what the model reads where the abstract heap says so. -/
import Derived.Test.YtklfdmnmiadgpaaAbsCore4
namespace Go.Proofs.YtklfdmnmiadgpaaAbs
set_option linter.unusedVariables false
set_option linter.unusedSimpArgs false
open Go

/-! ### the table of types -/
def pairsEq : List (Nat × TypeId) → List (Nat × TypeId) → Bool
  | [], [] => true
  | (a, b) :: l, (c, d) :: m => Nat.beq a c && Nat.beq b d && pairsEq l m
  | _, _ => false
def kindOk : TK → TypeDesc → Bool
  | .bool, .bool => true
  | .int k, .int j => kindEq k j
  | .str, .string => true
  | .slice e, .slice f => Nat.beq e f
  | .ptr e, .pointer f => Nat.beq e f
  | .uptr, .unsafePointer => true
  | .arr n e, .array m f => Nat.beq n m && Nat.beq e f
  | .struct fs, .struct gs => pairsEq fs (gs.toList.map fun g => (g.offset, g.type))
  | .iface, .interface _ => true
  | .map k e, .map j f => Nat.beq k j && Nat.beq e f
  | .other, .struct _ => false
  | .other, .array _ _ => false
  | .other, _ => true
  | _, _ => false
def zeroCell : AV → Value → Bool
  | .bool a, .bool b => !(xor a b)
  | .int k n, .int j m => kindEq k j && decide (n = m) && u8ok k n
  | .str [], .string s => Nat.beq s.size 0
  | .nils, .slice none 0 0 => true
  | .nilptr, .pointer none => true
  | .any, v => v.oneCell'
  | _, _ => false
def zeroCells : List AV → List Value → Bool
  | [], [] => true
  | a :: l, v :: vs => zeroCell a v && zeroCells l vs
  | _, _ => false

structure TI.ok (P : Program) (t : TypeId) (ti : TI) : Prop where
  desc : ∃ d, P.underlying t = some d ∧ kindOk ti.kind d = true
  info : ∃ i z, P.info? t = some i ∧ i.size = ti.size ∧ i.bytes = ti.bytes ∧ i.zero = some z ∧ zeroCells ti.zero z.cells.toList = true ∧ ti.zero.length = ti.size
  row : ∀ r, ti.row = some r → r.size = ti.size
  plain : ti.isAgg = false → ∀ i z, P.info? t = some i → i.zero = some z → z.cells = #[z]

def TI.check (P : Program) (t : TypeId) (ti : TI) : Bool :=
  (match P.underlying t with
   | some d => kindOk ti.kind d
   | none => false) &&
  (match P.info? t with
   | some i => Nat.beq i.size ti.size && Nat.beq i.bytes ti.bytes && (match i.zero with
     | some z => zeroCells ti.zero z.cells.toList && Nat.beq ti.zero.length ti.size
     | none => false)
   | none => false) &&
  (match ti.row with
   | some r => Nat.beq r.size ti.size
   | none => true) &&
  (match P.info? t with
   | some i => (match i.zero with
     | some (.agg _) => ti.isAgg
     | _ => true)
   | none => true)
theorem TI.ok_of_check {P : Program} {t : TypeId} {ti : TI} (h : ti.check P t = true) : TI.ok P t ti := by
  unfold TI.check at h
  simp only [Bool.and_eq_true] at h
  obtain ⟨⟨⟨h1, h2⟩, h3⟩, h4⟩ := h
  refine ⟨?_, ?_, ?_, ?_⟩
  · split at h1
    · rename_i d e; exact ⟨d, e, h1⟩
    · cases h1
  · split at h2
    · rename_i i e
      simp only [Bool.and_eq_true] at h2
      obtain ⟨⟨a, b⟩, c⟩ := h2
      split at c
      · rename_i z ez
        simp only [Bool.and_eq_true] at c
        exact ⟨i, z, e, Nat.eq_of_beq_eq_true a, Nat.eq_of_beq_eq_true b, ez, c.1, Nat.eq_of_beq_eq_true c.2⟩
      · cases c
    · cases h2
  · intro r e
    rw [e] at h3
    exact Nat.eq_of_beq_eq_true h3
  · intro ha i z hi hz
    rw [hi] at h4
    simp only [hz] at h4
    cases z <;> first | rfl | (simp only [ha] at h4; cases h4)
def tabCheck (P : Program) (tab : List (TypeId × TI)) : Bool := tab.all fun p => p.2.check P p.1
theorem tab_ok {P : Program} {tab : List (TypeId × TI)} (h : tabCheck P tab = true) (t : TypeId) (ti : TI) (e : tyFind tab t = some ti) : TI.ok P t ti := by
  induction tab with
  | nil => simp [tyFind] at e
  | cons p l ih =>
    simp only [tabCheck, List.all_cons, Bool.and_eq_true] at h
    simp only [tyFind] at e
    cases q : Nat.beq p.1 t with
    | true =>
      rw [q] at e; simp only [cond_true] at e; injection e with e; subst e
      rw [← Nat.eq_of_beq_eq_true q]; exact TI.ok_of_check h.1
    | false => rw [q] at e; exact ih h.2 e

theorem zeroCell_rel {m : Mem} {h : Heap} (a : AV) (v : Value) (k : zeroCell a v = true) : Rel m h a v ∧ v.oneCell' = true := by
  unfold zeroCell at k
  split at k
  · rename_i a b; refine ⟨?_, rfl⟩; cases a <;> cases b <;> simp_all [Rel]
  · rename_i k1 n k2 n2
    simp only [Bool.and_eq_true, decide_eq_true_eq] at k
    obtain ⟨⟨h1, h2⟩, h3⟩ := k
    have := kindEq_eq h1; subst this; subst h2
    exact ⟨⟨rfl, h3⟩, rfl⟩
  · rename_i s
    refine ⟨⟨s, rfl, ?_⟩, rfl⟩
    have e := Nat.eq_of_beq_eq_true k
    have : s.data.toList = [] := List.eq_nil_of_length_eq_zero (by simpa using e)
    simp [bytesOf, this]
  · exact ⟨rfl, rfl⟩
  · exact ⟨rfl, rfl⟩
  · exact ⟨trivial, k⟩
  · cases k
theorem zero_rel {m : Mem} {h : Heap} : (l : List AV) → (vs : List Value) → zeroCells l vs = true → RelL m h true l vs
  | [], vs, k => by cases vs with | nil => rfl | cons _ _ => simp [zeroCells] at k
  | a :: l, vs, k => by
    cases vs with
    | nil => simp [zeroCells] at k
    | cons v vs =>
      simp only [zeroCells, Bool.and_eq_true] at k
      have q := zeroCell_rel (m := m) (h := h) a v k.1
      exact ⟨v, vs, rfl, q.1, fun _ => q.2, zero_rel l vs k.2⟩

/-! ### lists of values -/
section
variable {m : Mem} {h : Heap} {one : Bool}
theorem RelL.length : {cs : List AV} → {vs : List Value} → RelL m h one cs vs → cs.length = vs.length
  | [], vs, k => by simp only [RelL] at k; subst k; rfl
  | c :: cs, vs, k => by
    simp only [RelL] at k; obtain ⟨v, rest, rfl, _, _, h4⟩ := k
    simp [RelL.length h4]
theorem RelL.drop : {cs : List AV} → {vs : List Value} → (k : Nat) → RelL m h one cs vs → RelL m h one (cs.drop k) (vs.drop k)
  | [], vs, k, q => by simp only [RelL] at q; subst q; simp [RelL]
  | c :: cs, vs, 0, q => by simpa using q
  | c :: cs, vs, k + 1, q => by
    simp only [RelL] at q; obtain ⟨v, rest, rfl, _, _, h4⟩ := q
    simpa using RelL.drop k h4
theorem RelL.take : {cs : List AV} → {vs : List Value} → (k : Nat) → RelL m h one cs vs → RelL m h one (cs.take k) (vs.take k)
  | [], vs, k, q => by simp only [RelL] at q; subst q; simp [RelL]
  | c :: cs, vs, 0, q => by simp [RelL]
  | c :: cs, vs, k + 1, q => by
    simp only [RelL] at q; obtain ⟨v, rest, rfl, h2, h3, h4⟩ := q
    exact ⟨v, rest.take k, rfl, h2, h3, RelL.take k h4⟩
theorem RelL.append : {cs ds : List AV} → {vs us : List Value} → RelL m h one cs vs → RelL m h one ds us → RelL m h one (cs ++ ds) (vs ++ us)
  | [], ds, vs, us, q, q' => by simp only [RelL] at q; subst q; exact q'
  | c :: cs, ds, vs, us, q, q' => by
    simp only [RelL] at q; obtain ⟨v, rest, rfl, h2, h3, h4⟩ := q
    exact ⟨v, rest ++ us, rfl, h2, h3, RelL.append h4 q'⟩
theorem RelL.get : {cs : List AV} → {vs : List Value} → (i : Nat) → RelL m h one cs vs → (hi : i < cs.length) → (hv : i < vs.length) → Rel m h cs[i] vs[i] ∧ (one = true → vs[i].oneCell' = true)
  | c :: cs, vs, 0, q, hi, hv => by
    simp only [RelL] at q; obtain ⟨v, rest, rfl, h2, h3, h4⟩ := q
    exact ⟨h2, h3⟩
  | c :: cs, vs, i + 1, q, hi, hv => by
    simp only [RelL] at q; obtain ⟨v, rest, rfl, h2, h3, h4⟩ := q
    simpa using RelL.get i h4 (by simpa using hi) (by simpa using hv)
theorem RelL.cells1 : {cs : List AV} → {vs : List Value} → RelL m h true cs vs → ∀ v ∈ vs, v.oneCell' = true
  | [], vs, q => by simp only [RelL] at q; subst q; simp
  | c :: cs, vs, q => by
    simp only [RelL] at q; obtain ⟨v, rest, rfl, h2, h3, h4⟩ := q
    intro u hu
    rcases List.mem_cons.1 hu with rfl | hu
    · exact h3 trivial
    · exact RelL.cells1 h4 u hu
theorem RelL.weak {cs : List AV} {vs : List Value} (q : RelL m h true cs vs) : RelL m h false cs vs := by
  induction cs generalizing vs with
  | nil => exact q
  | cons c cs ih =>
    simp only [RelL] at q ⊢; obtain ⟨v, rest, rfl, h2, h3, h4⟩ := q
    exact ⟨v, rest, rfl, h2, (fun e => by cases e), ih h4⟩
theorem RelL.cut {cs x : List AV} {vs : List Value} {off n : Nat} (q : RelL m h one cs vs) (k : cut cs off n = some x) : RelL m h one x ((vs.drop off).take n) ∧ ((vs.drop off).take n).length = n := by
  unfold Go.Proofs.YtklfdmnmiadgpaaAbs.cut at k
  cases e : Nat.beq ((cs.drop off).take n).length n with
  | false => simp only [e, cond_false] at k; cases k
  | true =>
    simp only [e, cond_true] at k; injection k with k; subst k
    have r := RelL.take n (RelL.drop off q)
    exact ⟨r, by rw [← RelL.length r]; exact Nat.eq_of_beq_eq_true e⟩
theorem RelL.fillAt {cs cs' ws : List AV} {vs us : List Value} {off : Nat} (q : RelL m h one cs vs) (q' : RelL m h one ws us) (k : fillAt cs off ws = some cs') :
    RelL m h one cs' (vs.take off ++ us ++ vs.drop (off + us.length)) ∧ off + us.length ≤ vs.length := by
  unfold Go.Proofs.YtklfdmnmiadgpaaAbs.fillAt at k
  cases e : Nat.ble (off + ws.length) cs.length with
  | false => simp only [e, cond_false] at k; cases k
  | true =>
    simp only [e, cond_true] at k; injection k with k; subst k
    have l1 := RelL.length q; have l2 := RelL.length q'
    have := Nat.le_of_ble_eq_true e
    refine ⟨?_, by omega⟩
    unfold splice
    rw [l2]
    exact RelL.append (RelL.append (RelL.take off q) q') (RelL.drop _ q)
end

mutual
theorem CTy.av_rel {m : Mem} {h : Heap} : (c : CTy) → (x : c.den) → (v : Value) → c.rep m.w m.good x v → Rel m h (c.av x) v
  | .int k, n, v, q => q
  | .bool, b, v, q => q
  | .str, l, v, q => q
  | .slice r, l, v, q => ⟨q, fun e => by cases e⟩
theorem Row.avs_rel {m : Mem} {h : Heap} : (r : Row) → (x : r.den) → (vs : List Value) → r.rep m.w m.good x vs → RelL m h true (r.avs x) vs
  | .one c, x, vs, q => by
    simp only [Row.rep] at q; obtain ⟨v, rfl, q⟩ := q
    exact ⟨v, [], rfl, CTy.av_rel c x v q, fun _ => CTy.rep_oneCell c x v q, rfl⟩
  | .cons c r, x, vs, q => by
    simp only [Row.rep] at q; obtain ⟨v, vs', rfl, h1, h2⟩ := q
    exact ⟨v, vs', rfl, CTy.av_rel c x.1 v h1, fun _ => CTy.rep_oneCell c x.1 v h1, Row.avs_rel r x.2 vs' h2⟩
end

theorem castList_rep {w : World} {g : Nat → Prop} {r s : Row} (e : r.same s = true) (l : List r.den) (vs : List Value) (q : RepAll (fun x cs => r.rep w g x cs) l vs) :
    RepAll (fun x cs => s.rep w g x cs) (castList e l) vs := by
  have := Row.same_eq r s e; subst this; exact q
theorem castList_length {r s : Row} (e : r.same s = true) (l : List r.den) : (castList e l).length = List.length l := by
  have := Row.same_eq r s e; subst this; rfl
theorem castList_slice {w : World} {g : Nat → Prop} {r s : Row} (e : r.same s = true) (l : List r.den) (v : Value) (q : CTy.rep w g (.slice r) l v) : CTy.rep w g (.slice s) (castList e l) v := by
  have := Row.same_eq r s e; subst this; exact q

theorem CTy.of_rel {m : Mem} {h : Heap} : (c : CTy) → (a : AV) → (x : c.den) → (v : Value) → c.of a = some x → Rel m h a v → c.rep m.w m.good x v
  | .int k, a, x, v, e, q => by
    cases a with
    | int j n =>
      simp only [CTy.of] at e
      cases hk : kindEq j k with
      | false => simp [hk] at e
      | true => simp only [hk, cond_true] at e; injection e with e; subst e; have := kindEq_eq hk; subst this; exact q
    | _ => simp [CTy.of] at e
  | .bool, a, x, v, e, q => by
    cases a with
    | bool b => simp only [CTy.of] at e; injection e with e; subst e; exact q
    | _ => simp [CTy.of] at e
  | .str, a, x, v, e, q => by
    cases a with
    | str l => simp only [CTy.of] at e; injection e with e; subst e; exact q
    | _ => simp [CTy.of] at e
  | .slice r, a, x, v, e, q => by
    cases a with
    | list s l nn =>
      simp only [CTy.of] at e
      split at e
      · rename_i hs; injection e with e; subst e; exact castList_slice hs l v q.1
      · cases e
    | nils => simp only [CTy.of] at e; injection e with e; subst e; simp only [Rel] at q; exact ⟨none, 0, 0, q, rfl, Nat.le_refl _, .inl rfl⟩
    | zcap => simp only [CTy.of] at e; injection e with e; subst e; simp only [Rel] at q; obtain ⟨a, q⟩ := q; exact ⟨a, 0, 0, q, rfl, Nat.le_refl _, .inl rfl⟩
    | _ => simp [CTy.of] at e
theorem Row.of_one_eq (c : CTy) (a : AV) : (Row.one c).of [a] = c.of a := rfl
theorem Row.of_one_nil (c : CTy) : (Row.one c).of [] = none := rfl
theorem Row.of_one_more (c : CTy) (a b : AV) (l : List AV) : (Row.one c).of (a :: b :: l) = none := rfl
theorem Row.of_cons_nil (c : CTy) (r : Row) : (Row.cons c r).of [] = none := rfl
theorem Row.of_cons_eq (c : CTy) (r : Row) (a : AV) (l : List AV) (x : (Row.cons c r).den) (h : (Row.cons c r).of (a :: l) = some x) : c.of a = some x.1 ∧ r.of l = some x.2 := by
  have e : (Row.cons c r).of (a :: l) = (match c.of a, r.of l with
    | some x, some y => some (x, y)
    | _, _ => none) := rfl
  rw [e] at h
  cases h1 : c.of a with
  | none => rw [h1] at h; cases h
  | some y => cases h2 : r.of l with
    | none => rw [h1, h2] at h; cases h
    | some z => rw [h1, h2] at h; injection h with h; subst h; exact ⟨rfl, rfl⟩
theorem Row.of_rel {m : Mem} {h : Heap} : (r : Row) → (as : List AV) → (x : r.den) → (vs : List Value) → r.of as = some x → RelL m h true as vs → r.rep m.w m.good x vs
  | .one c, [], x, vs, e, q => by rw [Row.of_one_nil] at e; cases e
  | .one c, [a], x, vs, e, q => by
    rw [Row.of_one_eq] at e
    simp only [RelL] at q; obtain ⟨v, rest, rfl, h2, _, rfl⟩ := q
    exact ⟨v, rfl, CTy.of_rel c a x v e h2⟩
  | .one c, a :: b :: l, x, vs, e, q => by rw [Row.of_one_more] at e; cases e
  | .cons c r, [], x, vs, e, q => by rw [Row.of_cons_nil] at e; cases e
  | .cons c r, a :: as, x, vs, e, q => by
    have k := Row.of_cons_eq c r a as x e
    simp only [RelL] at q; obtain ⟨v, rest, rfl, h2, _, h4⟩ := q
    exact ⟨v, rest, rfl, CTy.of_rel c a x.1 v k.1 h2, Row.of_rel r as x.2 rest k.2 h4⟩

/-! ### reading memory -/
theorem addr_add (B o n : Nat) : (⟨B, o, none⟩ : Addr).add n = ⟨B, o + n, none⟩ := by
  unfold Addr.add; split <;> simp_all
theorem Lies.cell {w : World} {B o : Nat} {vs : List Value} (k : Lies w B o vs) (j : Nat) (v : Value) (hj : vs[j]? = some v) : w.cell? ⟨B, o + j, none⟩ = some v := by
  obtain ⟨c, e, fr, t, h1, h2⟩ := k
  simp only [World.cell?, h1]
  have : c.toList[o + j]? = some v := by
    rw [← List.getElem?_drop, h2, List.getElem?_append_left (by have := (List.getElem?_eq_some_iff.1 hj).1; omega)]; exact hj
  simpa using this
theorem Lies.take {w : World} {B o : Nat} {vs : List Value} (k : Lies w B o vs) (n : Nat) : Lies w B o (vs.take n) := by
  obtain ⟨c, e, fr, t, h1, h2⟩ := k
  exact ⟨c, e, fr, vs.drop n ++ t, h1, by rw [h2, ← List.append_assoc, List.take_append_drop]⟩
theorem Lies.drop {w : World} {B o : Nat} {vs : List Value} (k : Lies w B o vs) (n : Nat) : Lies w B (o + n) (vs.drop n) := by
  obtain ⟨c, e, fr, t, h1, h2⟩ := k
  by_cases hn : n ≤ vs.length
  · exact ⟨c, e, fr, t, h1, by rw [← List.drop_drop, h2, List.drop_append_of_le_length hn]⟩
  · exact ⟨c, e, fr, c.toList.drop (o + n), h1, by rw [show vs.drop n = [] from List.drop_of_length_le (by omega)]; rfl⟩
theorem run_cells {P : Program} {w : World} {B o : Nat} {vs : List Value} (k : Lies w B o vs) : (loadCells ⟨B, o, none⟩ vs.length).run P w = .ok vs.toArray w :=
  run_loadCells_list (P := P) w ⟨B, o, none⟩ vs fun j v hv => by rw [addr_add]; exact k.cell j v hv
theorem TI.ok.isAgg_run {P : Program} {t : TypeId} {ti : TI} (k : TI.ok P t ti) (w : World) : (Go.isAgg t).run P w = Result.ok ti.isAgg w := by
  obtain ⟨d, h1, h2⟩ := k.desc
  unfold Go.isAgg
  rw [Sem.run_bind, run_underlying h1 w]
  simp only [Result.andThen_ok]
  unfold TI.isAgg
  cases hk : ti.kind <;> cases d <;> first | (simp [hk, kindOk] at h2; done) | rfl
theorem TI.ok.size_run {P : Program} {t : TypeId} {ti : TI} (k : TI.ok P t ti) (w : World) : (Go.sizeOf t).run P w = Result.ok ti.size w := by
  obtain ⟨i, z, h1, h2, _⟩ := k.info
  simp [Go.sizeOf, typeInfo, h1, h2]
theorem TI.ok.zero_run {P : Program} {t : TypeId} {ti : TI} (k : TI.ok P t ti) (w : World) : ∃ z, (zeroValue t).run P w = Result.ok z w ∧ zeroCells ti.zero z.cells.toList = true := by
  obtain ⟨i, z, h1, h2, h3, h4, h5, _⟩ := k.info
  exact ⟨z, by simp [zeroValue, typeInfo, h1, h4], h5⟩
theorem run_loadVar {P : Program} {t : TypeId} {ti : TI} (k : TI.ok P t ti) {m : Mem} {h : Heap} {B o : Nat} {cs : List AV} {vs : List Value} {v : AV}
    (hl : Lies m.w B o vs) (hr : RelL m h true cs vs) (hn : vs.length = ti.size) (hv : mkVal ti.isAgg cs = some v) : ∃ u, (loadVar t ⟨B, o, none⟩).run P m.w = .ok u m.w ∧ Rel m h v u := by
  unfold mkVal at hv
  cases ha : ti.isAgg with
  | true =>
    simp [ha] at hv; subst hv
    refine ⟨.agg vs.toArray, ?_, vs, rfl, hr⟩
    have := run_cells (P := P) hl
    rw [hn] at this
    simp [loadVar, k.isAgg_run, ha, k.size_run, this]
  | false =>
    simp only [ha, cond_false] at hv
    match cs, hv, hr with
    | [a], hv, hr =>
      injection hv with hv; subst hv
      simp only [RelL] at hr; obtain ⟨u, rest, rfl, h2, _, rfl⟩ := hr
      refine ⟨u, ?_, h2⟩
      have := hl.cell 0 u rfl
      simp only [Nat.add_zero] at this
      simp [loadVar, k.isAgg_run, ha, this]
    | [], hv, hr => simp at hv
    | _ :: _ :: _, hv, hr => simp at hv

/-- Where a row's elements lie. -/
theorem arr_lies {m : Mem} {h : Heap} {id : Nat} {et : TypeId} {r : Row} {l : List r.den} (k : BlkRel m h id (.arr et r l)) {B o : Nat} (hl : m.loc id = some (B, o)) :
    ∃ c vs t, m.w.heap[B]? = some (.cells c et (0, 0)) ∧ o ≤ c.size ∧ c.toList.drop o = vs ++ t ∧ RepAll (fun x cs => r.rep m.w m.good x cs) l vs := by
  rcases k with ⟨_, h2⟩ | ⟨B', o', c, vs, t, h1, h2, h3, h4, h5⟩
  · rw [hl] at h2; cases h2
  · rw [hl] at h1; injection h1 with h1; injection h1 with h1 h6; subst h1; subst h6
    exact ⟨c, vs, t, h2, h3, h4, h5⟩

theorem loadAt_ok {P : Program} {t : TypeId} {ti : TI} (k : TI.ok P t ti) {m : Mem} {h : Heap} (S : Sim m h) {a v : AV} (e : loadAt h ti a = some v) {u : Value} (q : Rel m h a u) :
    ∃ ad x, u = .pointer (some ad) ∧ (loadVar t ad).run P m.w = .ok x m.w ∧ Rel m h v x := by
  unfold loadAt at e
  split at e
  · rename_i id off
    split at e
    · rename_i cs hg
      split at e
      · rename_i x hc
        simp only [Rel] at q
        obtain ⟨B, hl, rfl⟩ := q.2 _ cs hg
        obtain ⟨B', c, h1, h2, h3⟩ := S.blk id _ hg
        rw [hl] at h1; injection h1 with h1; injection h1 with h1; subst h1
        obtain ⟨h4, h5⟩ := RelL.cut h3 hc
        have hlie : Lies m.w B off ((c.toList.drop off).take ti.size) := ⟨c, _, (0, 0), (c.toList.drop off).drop ti.size, h2, by rw [List.take_append_drop]⟩
        obtain ⟨x', hx, hx2⟩ := run_loadVar k hlie h4 h5 e
        exact ⟨_, x', rfl, hx, hx2⟩
      · cases e
    · cases e
  · rename_i id ix j
    split at e
    · rename_i r l hg
      split at e
      · rename_i x hc
        simp only [Rel] at q
        obtain ⟨B, o, hl, rfl, hix⟩ := q.2 _ r l hg
        obtain ⟨c, vs, t', h2, h3, h4, h5⟩ := arr_lies (S.blk id _ hg) hl
        have hn := fun x cs (hx : r.rep m.w m.good x cs) => Row.rep_length r x cs hx
        have hrow := RepAll.get hn ix h5 hix
        have hlen := RepAll.length hn h5
        have eg : l.getD ix r.dflt = l[ix] := by simp [List.getD, List.getElem?_eq_getElem hix]
        rw [eg] at hc
        obtain ⟨h6, h7⟩ := RelL.cut (Row.avs_rel (h := h) r l[ix] _ hrow) hc
        have l0 : Lies m.w B o vs := ⟨c, _, (0, 0), t', h2, h4⟩
        have l2 := ((((l0.drop (ix * r.size)).take r.size).drop j).take ti.size)
        obtain ⟨x', hx, hx2⟩ := run_loadVar k l2 h6 h7 e
        exact ⟨_, x', rfl, hx, hx2⟩
      · cases e
    · cases e
  · rename_i cs
    split at e
    · rename_i x hc
      simp only [Rel] at q
      obtain ⟨B, o, vs, rfl, h2, h3, h4⟩ := q
      obtain ⟨h6, h7⟩ := RelL.cut h3 hc
      obtain ⟨x', hx, hx2⟩ := run_loadVar k (by simpa using h4.take ti.size) (by simpa using h6) (by simpa using h7) e
      exact ⟨_, x', rfl, hx, hx2⟩
    · cases e
  · cases e

end Go.Proofs.YtklfdmnmiadgpaaAbs
