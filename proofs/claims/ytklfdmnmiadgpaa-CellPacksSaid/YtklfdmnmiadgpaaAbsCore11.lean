/- '==' of structs and arrays. -/
import Derived.ChangeKeysEq
import Derived.Laws.StructEq
import Derived.Test.YtklfdmnmiadgpaaAbsCore10
namespace Go.Proofs.YtklfdmnmiadgpaaAbs
set_option linter.unusedVariables false
set_option linter.unusedSimpArgs false
open Go

def cellEq : AV → Value → Value → Option Bool
  | .bool _, .bool a, .bool b => some (a == b)
  | .int k _, .int i a, .int j b => if i = k ∧ j = k then some (a == b) else none
  | .str _, .string a, .string b => some (a.toList == b.toList)
  | _, _, _ => none
def veq : List AV → List Value → List Value → Option Bool
  | [], [], [] => some true
  | z :: zs, x :: xs, y :: ys => match cellEq z x y, veq zs xs ys with
    | some p, some q => some (p && q)
    | _, _ => none
  | _, _, _ => none

theorem veq_cons {z : AV} {zs : List AV} {xs ys : List Value} {b : Bool} (h : veq (z :: zs) xs ys = some b) : ∃ x xs' y ys' p q, xs = x :: xs' ∧ ys = y :: ys' ∧ cellEq z x y = some p ∧ veq zs xs' ys' = some q ∧ b = (p && q) := by
  match xs, ys, h with
  | [], [], h => simp [veq] at h
  | [], _ :: _, h => simp [veq] at h
  | _ :: _, [], h => simp [veq] at h
  | x :: xs, y :: ys, h =>
    simp only [veq] at h
    split at h
    · rename_i p q hp hq; injection h with h; exact ⟨x, xs, y, ys, p, q, rfl, rfl, hp, hq, h.symm⟩
    · cases h
theorem veq_nil {xs ys : List Value} {b : Bool} (h : veq [] xs ys = some b) : xs = [] ∧ ys = [] ∧ b = true := by
  match xs, ys, h with
  | [], [], h => simp only [veq] at h; injection h with h; exact ⟨rfl, rfl, h.symm⟩
  | [], _ :: _, h => simp [veq] at h
  | _ :: _, [], h => simp [veq] at h
  | _ :: _, _ :: _, h => simp [veq] at h
theorem veq_split : (k : Nat) → (zs : List AV) → (xs ys : List Value) → (b : Bool) → veq zs xs ys = some b → ∃ p q, veq (zs.take k) (xs.take k) (ys.take k) = some p ∧ veq (zs.drop k) (xs.drop k) (ys.drop k) = some q ∧ b = (p && q)
  | 0, zs, xs, ys, b, h => ⟨true, b, rfl, h, by simp⟩
  | k + 1, [], xs, ys, b, h => by obtain ⟨rfl, rfl, rfl⟩ := veq_nil h; exact ⟨true, true, rfl, rfl, rfl⟩
  | k + 1, z :: zs, xs, ys, b, h => by
    obtain ⟨x, xs, y, ys, p, q, rfl, rfl, hp, hq, rfl⟩ := veq_cons h
    obtain ⟨p', q', h1, h2, h3⟩ := veq_split k zs xs ys q hq
    refine ⟨p && p', q', ?_, h2, by rw [h3, Bool.and_assoc]⟩
    simp only [List.take_succ_cons, veq, hp, h1]
theorem veq_len : (zs : List AV) → (xs ys : List Value) → {b : Bool} → veq zs xs ys = some b → xs.length = zs.length ∧ ys.length = zs.length
  | [], xs, ys, b, h => by obtain ⟨rfl, rfl, rfl⟩ := veq_nil h; exact ⟨rfl, rfl⟩
  | z :: zs, xs, ys, b, h => by
    obtain ⟨x, xs, y, ys, p, q, rfl, rfl, hp, hq, rfl⟩ := veq_cons h
    have := veq_len zs xs ys hq
    simp [this.1, this.2]

theorem eqCells_veq {m : Mem} {h : Heap} : (zs xs ys : List AV) → {b : Bool} → {vs us : List Value} → eqCells zs xs ys = some b → RelL m h true xs vs → RelL m h true ys us → veq zs vs us = some b
  | [], [], [], b, vs, us, e, q, q' => by simp only [RelL] at q q'; subst q; subst q'; exact e
  | [], [], y :: ys, b, vs, us, e, q, q' => by simp [eqCells] at e
  | [], x :: xs, ys, b, vs, us, e, q, q' => by simp [eqCells] at e
  | z :: zs, [], ys, b, vs, us, e, q, q' => by simp [eqCells] at e
  | z :: zs, x :: xs, [], b, vs, us, e, q, q' => by simp [eqCells] at e
  | z :: zs, x :: xs, y :: ys, b, vs, us, e, q, q' => by
    simp only [RelL] at q q'
    obtain ⟨v, vs, rfl, q1, _, q2⟩ := q
    obtain ⟨u, us, rfl, q3, _, q4⟩ := q'
    simp only [eqCells] at e
    split at e
    · rename_i p r hp hr
      injection e with e; subst e
      have h2 := eqCells_veq zs xs ys hr q2 q4
      have h1 : cellEq z v u = some p := by
        unfold eqCell at hp
        split at hp
        · simp only [Rel] at q1 q3; subst q1; subst q3; exact hp
        · rename_i k _ i a j b
          cases hk : (kindEq i k && kindEq j k) with
          | false => simp [hk] at hp
          | true =>
            simp only [hk, cond_true] at hp
            simp only [Bool.and_eq_true] at hk
            have e1 := kindEq_eq hk.1; have e2 := kindEq_eq hk.2; subst e1; subst e2
            rw [q1.1, q3.1]; simp only [cellEq, and_self, if_true]; exact hp
        · rename_i a b
          obtain ⟨s, rfl, rfl⟩ := q1
          obtain ⟨t, rfl, rfl⟩ := q3
          rw [bytesOf_eq] at hp; exact hp
        · cases hp
      simp only [veq, h1, h2]
    · cases e

def tile (P : Program) (eq : TypeId → List AV → Bool) : Nat → List Field → Nat → List AV → Bool
  | off, [], n, zs => Nat.beq off n
  | off, f :: fs, n, zs => Nat.beq f.offset off && (f.name != "_") && eq f.type (zs.take (P.cellsOf f.type)) && tile P eq (off + P.cellsOf f.type) fs n (zs.drop (P.cellsOf f.type))
def eqT (P : Program) : Nat → TypeId → List AV → Bool
  | 0, _, _ => false
  | d + 1, t, zs => match P.underlying t with
    | some .bool => Nat.beq (P.cellsOf t) 1 && (match zs with
      | [.bool _] => true
      | _ => false)
    | some (.int k) => Nat.beq (P.cellsOf t) 1 && (match zs with
      | [.int j _] => kindEq j k
      | _ => false)
    | some .string => Nat.beq (P.cellsOf t) 1 && (match zs with
      | [.str _] => true
      | _ => false)
    | some (.struct fs) => !P.stoodInHeld t && tile P (eqT P d) 0 fs.toList (P.cellsOf t) zs
    | some (.array n e) => Nat.beq (P.cellsOf t) (n * P.cellsOf e) && (P.info? e).isSome && (List.range n).all fun i => eqT P d e ((zs.drop (i * P.cellsOf e)).take (P.cellsOf e))
    | _ => false

def mkc (P : Program) (t : TypeId) (cs : List Value) : Value := match P.underlying t with
  | some (.struct _) => .agg cs.toArray
  | some (.array _ _) => .agg cs.toArray
  | _ => cs.headD undef

theorem eqT_info {P : Program} {d : Nat} {t : TypeId} {zs : List AV} (h : eqT P d t zs = true) : ∃ td, P.underlying t = some td := by
  cases d with
  | zero => simp [eqT] at h
  | succ d =>
    simp only [eqT] at h
    cases hu : P.underlying t with
    | none => rw [hu] at h; cases h
    | some td => exact ⟨td, rfl⟩
def aggOf : TypeDesc → Bool
  | .struct _ => true
  | .array _ _ => true
  | _ => false
theorem isAgg_of {P : Program} {t : TypeId} {td : TypeDesc} (hu : P.underlying t = some td) (w : World) : (isAgg t).run P w = .ok (aggOf td) w := by
  unfold isAgg
  rw [Sem.run_bind, run_underlying hu w]
  cases td <;> rfl
theorem part_run {P : Program} {w : World} {t : TypeId} {d : Nat} {zs : List AV} (ht : eqT P d t zs = true) (hi : ∃ i, P.info? t = some i) (cs : Array Value) (off : Nat) (hl : off + P.cellsOf t ≤ cs.size) :
    (part t cs off).run P w = .ok (mkc P t ((cs.toList.drop off).take (P.cellsOf t))) w := by
  obtain ⟨i, hi⟩ := hi
  obtain ⟨td, hu⟩ := eqT_info ht
  have hsz : (sizeOf t).run P w = .ok (P.cellsOf t) w := run_sizeOf w hi
  have ha := isAgg_of hu w
  cases d with
  | zero => simp [eqT] at ht
  | succ d =>
    simp only [eqT, hu] at ht
    have one : aggOf td = false → P.cellsOf t = 1 → (part t cs off).run P w = .ok (((cs.toList.drop off).take (P.cellsOf t)).headD undef) w := fun hag h1 => by
      have hlt : off < cs.size := by omega
      rw [h1]
      have e1 : cs[off]? = some cs[off] := by simp [hlt]
      have e2 : (cs.toList.drop off).take 1 = [cs[off]] := by
        rw [List.drop_eq_getElem_cons (by simpa using hlt)]; simp
      unfold part
      simp only [Sem.run_bind, ha, hag, Result.andThen_ok, Bool.false_eq_true, if_false, e1, e2]
      rfl
    have many : aggOf td = true → (part t cs off).run P w = .ok (.agg ((cs.toList.drop off).take (P.cellsOf t)).toArray) w := fun hag => by
      unfold part
      simp only [Sem.run_bind, ha, hag, Result.andThen_ok, if_true, hsz, Sem.run_pure]
      congr 2
      apply Array.ext'
      simp [List.extract_eq_take_drop]
    unfold mkc
    rw [hu]
    cases td <;> first | (cases ht; done) | skip
    case bool => simp only [Bool.and_eq_true] at ht; exact one rfl (Nat.eq_of_beq_eq_true ht.1)
    case int => simp only [Bool.and_eq_true] at ht; exact one rfl (Nat.eq_of_beq_eq_true ht.1)
    case string => simp only [Bool.and_eq_true] at ht; exact one rfl (Nat.eq_of_beq_eq_true ht.1)
    case struct => exact many rfl
    case array => exact many rfl

theorem tile_le {P : Program} {eq : TypeId → List AV → Bool} : (fs : List Field) → {off n : Nat} → {zs : List AV} → tile P eq off fs n zs = true → off ≤ n
  | [], off, n, zs, h => by simp only [tile] at h; exact Nat.le_of_eq (Nat.eq_of_beq_eq_true h)
  | f :: fs, off, n, zs, h => by
    simp only [tile, Bool.and_eq_true] at h
    have := tile_le fs h.2; omega

theorem info_of_under {P : Program} {t : TypeId} {d : TypeDesc} (h : P.underlying t = some d) : ∃ i, P.info? t = some i := by
  unfold Program.underlying at h
  cases hi : P.info? t with
  | none => simp [hi] at h
  | some i => exact ⟨i, rfl⟩

theorem eqT_run {P : Program} : (d : Nat) → (t : TypeId) → (zs : List AV) → eqT P d t zs = true → (D : Nat) → d ≤ D → (w : World) → (vs us : List Value) → (b : Bool) → vs.length = P.cellsOf t → us.length = P.cellsOf t → veq zs vs us = some b →
    (Op.equalIn D t (mkc P t vs) (mkc P t us)).run P w = .ok b w
  | 0, t, zs, h, D, hD, w, vs, us, b, hv, hu, e => by simp [eqT] at h
  | d + 1, t, zs, h, D, hD, w, vs, us, b, hv, hu, e => by
    obtain ⟨D, rfl⟩ : ∃ k, D = k + 1 := ⟨D - 1, by omega⟩
    obtain ⟨td, hut⟩ := eqT_info h
    simp only [eqT, hut] at h
    unfold mkc
    rw [hut]
    cases td <;> first | (cases h; done) | skip
    case bool =>
      simp only [Bool.and_eq_true] at h
      obtain ⟨h1, h2⟩ := h
      split at h2
      · obtain ⟨x, xs, y, ys, p, q, rfl, rfl, hp, hq, rfl⟩ := veq_cons e
        obtain ⟨rfl, rfl, rfl⟩ := veq_nil hq
        unfold cellEq at hp
        split at hp <;> first | (cases hp; done) | skip
        all_goals first | (rename_i hz _ _; cases hz; done) | skip
        all_goals simp_all
        all_goals first | exact run_equalIn_bool' w D t _ _ hut | (subst hp; exact run_equalIn_bool' w D t _ _ hut)
      · cases h2
    case int k =>
      simp only [Bool.and_eq_true] at h
      obtain ⟨h1, h2⟩ := h
      split at h2
      · have hk := kindEq_eq h2; subst hk
        obtain ⟨x, xs, y, ys, p, q, rfl, rfl, hp, hq, rfl⟩ := veq_cons e
        obtain ⟨rfl, rfl, rfl⟩ := veq_nil hq
        cases x <;> cases y <;> simp [cellEq] at hp
        obtain ⟨⟨rfl, rfl⟩, rfl⟩ := hp
        simpa using run_equalIn_int w D t _ _ _ _ hut
      · cases h2
    case string =>
      simp only [Bool.and_eq_true] at h
      obtain ⟨h1, h2⟩ := h
      split at h2
      · obtain ⟨x, xs, y, ys, p, q, rfl, rfl, hp, hq, rfl⟩ := veq_cons e
        obtain ⟨rfl, rfl, rfl⟩ := veq_nil hq
        cases x <;> cases y <;> simp [cellEq] at hp
        subst hp
        simpa using run_equalIn_string w D t _ _ hut
      · cases h2
    case struct fs =>
      simp only [Bool.and_eq_true, Bool.not_eq_true'] at h
      have hf : P.fieldsOf t = fs := by unfold Program.fieldsOf; rw [hut]
      rw [run_equalIn_struct (P := P) w D t _ _ (by rw [hf]; exact hut) h.1, hf]
      have key : ∀ (gs : List Field) (off : Nat) (zs : List AV) (b : Bool) (w : World), tile P (eqT P d) off gs (P.cellsOf t) zs = true → veq zs (vs.drop off) (us.drop off) = some b → (Op.eqFields D vs.toArray us.toArray gs).run P w = .ok b w := fun gs => by
        induction gs with
        | nil =>
          intro off zs b w ht e
          simp only [tile] at ht
          have := Nat.eq_of_beq_eq_true ht; subst this
          rw [List.drop_of_length_le (by omega), List.drop_of_length_le (by omega)] at e
          have hz : zs = [] := List.eq_nil_of_length_eq_zero (by have := veq_len zs _ _ e; simpa using this.1.symm)
          subst hz
          injection e with e; subst e
          simp [Op.eqFields]
        | cons f gs ih =>
          intro off zs b w ht e
          simp only [tile, Bool.and_eq_true] at ht
          obtain ⟨⟨⟨h1, h2⟩, h3⟩, h4⟩ := ht
          have h1' := Nat.eq_of_beq_eq_true h1; subst h1'
          obtain ⟨p, q, e1, e2, rfl⟩ := veq_split (P.cellsOf f.type) zs _ _ b e
          have hle : f.offset + P.cellsOf f.type ≤ P.cellsOf t := tile_le gs h4
          obtain ⟨ftd, hfu⟩ := eqT_info h3
          have hfi := info_of_under hfu
          have p1 := part_run (w := w) h3 hfi vs.toArray f.offset (by simpa [hv] using hle)
          have p2 := part_run (w := w) h3 hfi us.toArray f.offset (by simpa [hu] using hle)
          have p3 := eqT_run d f.type _ h3 D (by omega) w _ _ p (by simp; omega) (by simp; omega) e1
          have hn : f.name ≠ "_" := by simpa using h2
          simp only [List.toList_toArray] at p1 p2
          simp only [Op.eqFields, hn, ne_eq, not_false_eq_true, if_true, Sem.run_bind, p1, p2, p3, Result.andThen_ok]
          cases p with
          | false => simp
          | true =>
            simp only [Bool.not_true, Bool.false_eq_true, if_false, Bool.true_and]
            exact ih (f.offset + P.cellsOf f.type) _ q w h4 (by rw [← List.drop_drop, ← List.drop_drop]; exact e2)
      exact key fs.toList 0 zs b w h.2 (by simpa using e)
    case array n el =>
      simp only [Bool.and_eq_true] at h
      obtain ⟨⟨h2, h3⟩, h1⟩ := h
      obtain ⟨i, hi⟩ := Option.isSome_iff_exists.1 h3
      have hc := Nat.eq_of_beq_eq_true h2
      rw [run_equalIn_array (P := P) w D _ _ hut hi, List.range_eq_range']
      have key : ∀ (k j : Nat) (b : Bool) (w : World), j + k = n → veq (zs.drop (j * P.cellsOf el)) (vs.drop (j * P.cellsOf el)) (us.drop (j * P.cellsOf el)) = some b → (Op.eqItems D el (P.cellsOf el) vs.toArray us.toArray (List.range' j k)).run P w = .ok b w := fun k => by
        induction k with
        | zero =>
          intro j b w hj e
          have : j = n := by omega
          subst this
          rw [List.drop_of_length_le (l := vs) (by omega), List.drop_of_length_le (l := us) (by omega)] at e
          have hz : zs.drop (j * P.cellsOf el) = [] := List.eq_nil_of_length_eq_zero (by have := veq_len _ _ _ e; simpa using this.1.symm)
          rw [hz] at e
          injection e with e; subst e
          simp [Op.eqItems]
        | succ k ih =>
          intro j b w hj e
          obtain ⟨p, q, e1, e2, rfl⟩ := veq_split (P.cellsOf el) _ _ _ b e
          have hle : j * P.cellsOf el + P.cellsOf el ≤ P.cellsOf t := by
            rw [hc, ← Nat.succ_mul]; exact Nat.mul_le_mul_right _ (by omega)
          have h1j : eqT P d el ((zs.drop (j * P.cellsOf el)).take (P.cellsOf el)) = true := List.all_eq_true.1 h1 j (List.mem_range.2 (by omega))
          have p1 := part_run (w := w) h1j ⟨i, hi⟩ vs.toArray (j * P.cellsOf el) (by simpa [hv] using hle)
          have p2 := part_run (w := w) h1j ⟨i, hi⟩ us.toArray (j * P.cellsOf el) (by simpa [hu] using hle)
          have p3 := eqT_run d el _ h1j D (by omega) w _ _ p (by simp; omega) (by simp; omega) e1
          simp only [List.toList_toArray] at p1 p2
          simp only [List.range'_succ, Op.eqItems, Sem.run_bind, p1, p2, p3, Result.andThen_ok]
          cases p with
          | false => simp
          | true =>
            simp only [Bool.not_true, Bool.false_eq_true, if_false, Bool.true_and]
            exact ih (j + 1) q w (by omega) (by rw [Nat.add_mul, Nat.one_mul, ← List.drop_drop, ← List.drop_drop, ← List.drop_drop]; exact e2)
      exact key n 0 b w (by omega) (by simpa using e)

end Go.Proofs.YtklfdmnmiadgpaaAbs
