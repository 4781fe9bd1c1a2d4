/- Maps: made, put into, looked up; keys of one cell. -/
import Derived.Test.YtklfdmnmiadgpaaAbsCore25
import Derived.MapKept
namespace Go.Proofs.YtklfdmnmiadgpaaAbs
set_option linter.unusedVariables false
set_option linter.unusedSimpArgs false
open Go Go.MapKept

theorem strEqB0_eq : (a b : List Int) → (strEqB0 a b = true ↔ a = b)
  | [], [] => by simp [strEqB0]
  | [], _ :: _ => by simp [strEqB0]
  | _ :: _, [] => by simp [strEqB0]
  | x :: l, y :: k => by simp [strEqB0, strEqB0_eq l k]

theorem bytesOf_inj {s t : ByteArray} (h : bytesOf s = bytesOf t) : s = t := by
  have h1 := bytesOf_eq s t
  rw [h] at h1
  simp only [beq_self_eq_true] at h1
  have h2 : s.toList = t.toList := by simpa using h1.symm
  rw [toList_data, toList_data] at h2
  have h3 := Array.toList_inj.1 h2
  cases s; cases t; simp at h3; rw [h3]

theorem mapTy_ok {P : Program} {E : Env} (hT : TabOk P E.tab) {t kt et : TypeId} (e : mapTy E t = some (kt, et)) : P.underlying t = some (.map kt et) := by
  unfold mapTy at e
  split at e
  · rename_i k el hk
    injection e with e; injection e with e1 e2; subst e1; subst e2
    obtain ⟨ti, _, d, hd1, hd2⟩ := tyKind_ok hT.ti hk
    cases d <;> simp [kindOk] at hd2
    obtain ⟨rfl, rfl⟩ := hd2
    exact hd1
  · cases e

theorem keyOk_ok {P : Program} {E : Env} (hT : TabOk P E.tab) {c : CTy} {kt : TypeId} (e : keyOk E c kt = true) :
    ∃ d, P.underlying kt = some d ∧ ∀ (w : World) (g : Nat → Prop) (x : c.den) (v : Value), c.rep w g x v → IsKey d v := by
  unfold keyOk at e
  split at e
  · rename_i k hk
    obtain ⟨ti, _, d, hd1, hd2⟩ := tyKind_ok hT.ti hk
    refine ⟨d, hd1, fun w g x v q => ?_⟩
    cases c <;> cases k <;> simp [keyKind] at e <;> cases d <;> simp [kindOk] at hd2
    · rw [q.1]; have := kindEq_eq e; have h2 := kindEq_eq hd2; subst this; subst h2; rfl
    · simp only [CTy.rep] at q; rw [q]; trivial
    · obtain ⟨s, rfl, _⟩ := q; trivial
  · cases e

theorem keyEq_ok {w : World} {g : Nat → Prop} : (c : CTy) → {d : TypeDesc} → (x y : c.den) → (u v : Value) → c.rep w g x u → c.rep w g y v → IsKey d u → (keyEq c x y = true ↔ v = u)
  | .int k, d, x, y, u, v, q, r, hk => by
    simp only [CTy.rep] at q r
    rw [q.1, r.1]
    simp only [keyEq, intEqB0, decide_eq_true_eq]
    exact ⟨fun h => by rw [h], fun h => by injection h with _ h; exact h.symm⟩
  | .bool, d, x, y, u, v, q, r, hk => by
    simp only [CTy.rep] at q r
    rw [q, r]
    cases x <;> cases y <;> simp [keyEq]
  | .str, d, x, y, u, v, q, r, hk => by
    simp only [CTy.rep] at q r
    obtain ⟨s, rfl, rfl⟩ := q
    obtain ⟨t, rfl, rfl⟩ := r
    simp only [keyEq, strEqB0_eq]
    exact ⟨fun h => by rw [bytesOf_inj h], fun h => by injection h with h; rw [h]⟩
  | .slice r0, d, x, y, u, v, q, r, hk => by
    simp only [CTy.rep] at q
    obtain ⟨a, n, c, rfl, _⟩ := q
    cases d <;> exact hk.elim

section
variable {w : World} {g : Nat → Prop} {c ce : CTy} {d : TypeDesc}

theorem entKey {x : (Row.one c).den × ce.den} {e : MapEntry} (q : EntRep w g false (.one c) ce x e) : c.rep w g x.1 e.key := by
  obtain ⟨⟨⟨v, h1, h2⟩, h3⟩, _⟩ := q
  simp only [AggIs] at h3
  rw [h3] at h1
  simp at h1
  rw [h1]; exact h2

theorem find_ok (hd : ∀ (x : c.den) (v : Value), c.rep w g x v → IsKey d v) {k : c.den} {key : Value} (hk : c.rep w g k key) :
    (es : List (c.den × ce.den)) → (l : List MapEntry) → (n i : Nat) → EntAll (EntRep w g false (.one c) ce) es l n →
    (Instr.findNow d key l i = some none ∧ getE c k es = none ∧ EntAll (EntRep w g false (.one c) ce) es l n) ∨
    ∃ j e y, Instr.findNow d key l i = some (some (i + j, e.val)) ∧ l[j]? = some e ∧ e.key = key ∧ getE c k es = some y ∧ ce.rep w g y e.val
  | [], l, n, i, q => by
    simp only [EntAll] at q; subst q
    exact .inl ⟨rfl, rfl, rfl⟩
  | (k0, y0) :: es, l, n, i, q => by
    have q0 := q
    simp only [EntAll] at q
    obtain ⟨e, rest, rfl, h1, h2, h3⟩ := q
    have hke := entKey h1
    obtain ⟨r, hr, hiff⟩ := sameNow_of_keys (hd k key hk) (hd k0 e.key hke)
    have hq := keyEq_ok c k k0 key e.key hk hke (hd k key hk)
    cases r with
    | true =>
      have he : e.key = key := (hiff.1 rfl).symm
      refine .inr ⟨0, e, y0, by simp [Instr.findNow, hr], rfl, he, ?_, h1.2⟩
      simp only [getE, hq.2 he, cond_true]
    | false =>
      have hne : ¬ e.key = key := fun k => by have := hiff.2 k.symm; cases this
      have hf : keyEq c k k0 = false := by
        cases hb : keyEq c k k0 with
        | true => exact absurd (hq.1 hb) hne
        | false => rfl
      rcases find_ok hd hk es rest (n + 1) (i + 1) h3 with ⟨g1, g2, g3⟩ | ⟨j, e', y, g1, g2, g3, g4, g5⟩
      · exact .inl ⟨by simp [Instr.findNow, hr, g1], by simp only [getE, hf, cond_false, g2], q0⟩
      · refine .inr ⟨j + 1, e', y, by simp [Instr.findNow, hr, g1]; omega, by simpa using g2, g3, by simp only [getE, hf, cond_false, g4], g5⟩

/-- A key that isn't there comes last. -/
theorem put_new (hd : ∀ (x : c.den) (v : Value), c.rep w g x v → IsKey d v) {k : c.den} {key : Value} (hk : c.rep w g k key) {y : ce.den} {v : Value} (hv : ce.rep w g y v) (hone : key.cells = #[key]) :
    (es : List (c.den × ce.den)) → (l : List MapEntry) → (n : Nat) → EntAll (EntRep w g false (.one c) ce) es l n → getE c k es = none →
    EntAll (EntRep w g false (.one c) ce) (putE c k y es) (l ++ [⟨key, v, n + l.length⟩]) n
  | [], l, n, q, _ => by
    simp only [EntAll] at q; subst q
    refine ⟨_, _, rfl, ⟨⟨⟨key, by simp [hone], hk⟩, hone⟩, hv⟩, by simp, rfl⟩
  | (k0, y0) :: es, l, n, q, hg => by
    simp only [EntAll] at q
    obtain ⟨e, rest, rfl, h1, h2, h3⟩ := q
    simp only [getE] at hg
    cases hf : keyEq c k k0 with
    | true => rw [hf] at hg; cases hg
    | false =>
      rw [hf] at hg; simp only [cond_false] at hg
      simp only [putE, hf, cond_false, List.cons_append]
      refine ⟨e, _, rfl, h1, h2, ?_⟩
      have := put_new hd hk hv hone es rest (n + 1) h3 hg
      rw [List.length_cons, show n + (rest.length + 1) = n + 1 + rest.length by omega]
      exact this

/-- A key that is there gets the value. -/
theorem put_old (hd : ∀ (x : c.den) (v : Value), c.rep w g x v → IsKey d v) {k : c.den} {key : Value} (hk : c.rep w g k key) {y : ce.den} {v : Value} (hv : ce.rep w g y v) :
    (es : List (c.den × ce.den)) → (l : List MapEntry) → (n i j : Nat) → (x : Value) → EntAll (EntRep w g false (.one c) ce) es l n → Instr.findNow d key l i = some (some (i + j, x)) →
    EntAll (EntRep w g false (.one c) ce) (putE c k y es) (l.modify j fun e => { e with key := key, val := v }) n
  | [], l, n, i, j, x, q, hf => by
    simp only [EntAll] at q; subst q
    simp [Instr.findNow] at hf
  | (k0, y0) :: es, l, n, i, j, x, q, hfn => by
    simp only [EntAll] at q
    obtain ⟨e, rest, rfl, h1, h2, h3⟩ := q
    have hke := entKey h1
    obtain ⟨r, hr, hiff⟩ := sameNow_of_keys (hd k key hk) (hd k0 e.key hke)
    have hq := keyEq_ok c k k0 key e.key hk hke (hd k key hk)
    cases r with
    | true =>
      have he : e.key = key := (hiff.1 rfl).symm
      simp only [Instr.findNow, hr] at hfn
      injection hfn with hfn; injection hfn with hfn; injection hfn with hfn _
      have : j = 0 := by omega
      subst this
      simp only [putE, hq.2 he, cond_true, List.modify_zero_cons]
      exact ⟨_, _, rfl, ⟨by rw [← he]; exact h1.1, hv⟩, h2, h3⟩
    | false =>
      have hne : ¬ e.key = key := fun k => by have := hiff.2 k.symm; cases this
      have hf : keyEq c k k0 = false := by
        cases hb : keyEq c k k0 with
        | true => exact absurd (hq.1 hb) hne
        | false => rfl
      simp only [Instr.findNow, hr] at hfn
      have hj : ∃ j', j = j' + 1 := by
        cases j with
        | succ j' => exact ⟨j', rfl⟩
        | zero =>
          exfalso
          rcases find_ok hd hk es rest (n + 1) (i + 1) h3 with ⟨g1, _⟩ | ⟨j, e', y, g1, _⟩
          · rw [g1] at hfn; cases hfn
          · rw [g1] at hfn; injection hfn with hfn; injection hfn with hfn; injection hfn with hfn _; omega
      obtain ⟨j', rfl⟩ := hj
      simp only [putE, hf, cond_false, List.modify_succ_cons]
      refine ⟨e, _, rfl, h1, h2, put_old hd hk hv es rest (n + 1) (i + 1) j' x h3 ?_⟩
      rw [hfn]; congr 3; omega
end

theorem lookup_run {P : Program} {w : World} {t kt et : TypeId} {d : TypeDesc} {B : Nat} {es : Array MapEntry} {key z : Value} (hm : P.underlying t = some (.map kt et)) (hd : P.underlying kt = some d) (hb : w.heap[B]? = some (.map es es.size))
    (hk : IsKey d key) (ok : Bool) :
    (∀ p, Instr.findNow d key es.toList 0 = some (some p) → (Instr.lookup t (.map (some B)) key ok).run P w = .ok (if ok then .tuple #[p.2, .bool true] else p.2) w) ∧
    (Instr.findNow d key es.toList 0 = some none → (zeroValue et).run P w = .ok z w → (Instr.lookup t (.map (some B)) key ok).run P w = .ok (if ok then .tuple #[z, .bool false] else z) w) := by
  constructor
  · intro p h1
    cases ok <;> simp [Instr.lookup, run_underlying hm, MapKept.run_getObj_map hb, MapKept.run_checkKey hd hk, MapKept.run_findKey hd h1, Result.andThen]
  · intro h1 hz
    cases ok <;> simp [Instr.lookup, run_underlying hm, MapKept.run_getObj_map hb, MapKept.run_checkKey hd hk, MapKept.run_findKey hd h1, hz, Result.andThen]

theorem Rel.mapv_at {m : Mem} {h : Heap} (S : Sim m h) {id : Nat} {ka : Bool} {rk : Row} {c : CTy} {es : List (rk.den × c.den)} (hg : hget h id = some (.map ka rk c es)) {u : Value} (q : Rel m h (.mapv id) u) :
    ∃ B mes, m.loc id = some (B, 0) ∧ u = .map (some B) ∧ m.w.heap[B]? = some (.map mes mes.size) ∧ EntAll (EntRep m.w m.good ka rk c) es mes.toList 0 := by
  simp only [Rel] at q
  obtain ⟨B, hl, rfl⟩ := q.2 ka rk c es hg
  obtain ⟨B', mes, h1, h2, h3⟩ := S.blk id _ hg
  rw [hl] at h1; injection h1 with h1; injection h1 with h1; subst h1
  exact ⟨B, mes, hl, rfl, h2, h3⟩

theorem lookupA_ok {P : Program} {E : Env} (hT : TabOk P E.tab) {h : Heap} {t : TypeId} {x i v : AV} {ok : Bool} (e : lookupA E h t x i ok = some v) (m : Mem) (S : Sim m h) {u ui : Value} (q : Rel m h x u) (qi : Rel m h i ui) :
    ∃ cv, (Instr.lookup t u ui ok).run P m.w = .ok cv m.w ∧ Rel m h v cv := by
  unfold lookupA at e
  split at e
  · rename_i id
    split at e
    · rename_i c ce es kt et hg hmt
      obtain ⟨hko, e⟩ := cond_some e
      split at e
      · rename_i k hk
        have hm := mapTy_ok hT hmt
        obtain ⟨d, hd, hkey⟩ := keyOk_ok hT hko
        obtain ⟨B, mes, hl, rfl, hb, hE⟩ := q.mapv_at S hg
        have hrep := CTy.of_rel c i k ui hk qi
        have hik := hkey m.w m.good k ui hrep
        rcases find_ok (fun x v q => hkey m.w m.good x v q) hrep es mes.toList 0 0 hE with ⟨g1, g2, _⟩ | ⟨j, e0, y, g1, g2, g3, g4, g5⟩
        · rw [g2] at e
          simp only at e
          split at e
          · rename_i te hte
            have fin : ∀ z, te.isAgg = false → te.zero = [z] → some (bif ok then AV.tup [z, .bool false] else z) = some v → ∃ cv, (Instr.lookup t (.map (some B)) ui ok).run P m.w = .ok cv m.w ∧ Rel m h v cv := by
              intro z ha hz e
              injection e with e; subst e
              have tk := hT.ti _ _ hte
              obtain ⟨i0, z0, i1, i2, i3, i4, i5, i6⟩ := tk.info
              have hpl := tk.plain ha i0 z0 i1 i4
              rw [hz, hpl] at i5
              simp only [zeroCells, Bool.and_true] at i5
              have hzr : (zeroValue et).run P m.w = .ok z0 m.w := by
                obtain ⟨z1, q1, _⟩ := tk.zero_run m.w
                simp [zeroValue, typeInfo, i1, i4]
              have hr := (zeroCell_rel (m := m) (h := h) z z0 i5).1
              refine ⟨_, (lookup_run hm hd hb hik ok).2 g1 hzr, ?_⟩
              cases ok with
              | true => exact ⟨[z0, .bool false], rfl, _, _, rfl, hr, (fun k => by cases k), _, _, rfl, rfl, (fun k => by cases k), rfl⟩
              | false => exact hr
            split at e
            · rename_i z hkk hz; exact fin z (by simp only [TI.isAgg, hkk]) hz e
            · rename_i z hkk hz; exact fin z (by simp only [TI.isAgg, hkk]) hz e
            · rename_i z hkk hz; exact fin z (by simp only [TI.isAgg, hkk]) hz e
            · cases e
          · cases e
        · rw [g4] at e
          simp only at e
          injection e with e; subst e
          refine ⟨_, (lookup_run (z := .nilIface) hm hd hb hik ok).1 (0 + j, e0.val) g1, ?_⟩
          have hv := CTy.av_rel (h := h) ce y e0.val g5
          cases ok with
          | true => exact ⟨[e0.val, .bool true], rfl, _, _, rfl, hv, (fun k => by cases k), _, _, rfl, rfl, (fun k => by cases k), rfl⟩
          | false => exact hv
      · cases e
    · cases e
  · cases e

theorem insertA_ok {P : Program} {E : Env} (hT : TabOk P E.tab) {h h' : Heap} {t : TypeId} {x i v : AV} (e : insertA E h t x i v = some h') (m : Mem) (S : Sim m h) {u ui uv : Value} (q : Rel m h x u) (qi : Rel m h i ui) (qv : Rel m h v uv) :
    ∃ m', (Instr.mapUpdate t u ui uv).run P m.w = .ok () m'.w ∧ Ext m h m' h' ∧ Sim m' h' := by
  unfold insertA at e
  split at e
  · rename_i id
    split at e
    · rename_i c ce es kt et hg hmt
      obtain ⟨hko, e⟩ := cond_some e
      split at e
      · rename_i k y hk hy
        injection e with e; subst e
        have hm := mapTy_ok hT hmt
        obtain ⟨d, hd, hkey⟩ := keyOk_ok hT hko
        obtain ⟨B, mes, hl, rfl, hb, hE⟩ := q.mapv_at S hg
        have hrep := CTy.of_rel c i k ui hk qi
        have hrv := CTy.of_rel ce v y uv hy qv
        have hik := hkey m.w m.good k ui hrep
        have hone : ui.cells = #[ui] := by
          cases d <;> cases ui <;> first | exact hik.elim | rfl
        have hlt : B < m.w.heap.size := (Array.getElem?_eq_some_iff.1 hb).1
        have hsob : ∀ mes' n, (setObj B (.map mes' n)).run P m.w = .ok () { m.w with heap := m.w.heap.setIfInBounds B (.map mes' n) } := fun mes' n => MapKept.run_setObj_map _ hb
        have wr : ∀ mes' n, Wrote m.w { m.w with heap := m.w.heap.setIfInBounds B (.map mes' n) } B := fun mes' n => by
          refine ⟨fun k hk => by simp [Array.getElem?_setIfInBounds, Ne.symm hk], by simp, ?_, rfl, rfl, rfl⟩
          simp only [World.shape?]
          rw [hb]
          simp [hlt]
        have hlike : (Blk.map false (.one c) ce es).like (.map false (.one c) ce (putE c k y es)) := ⟨rfl, rfl, rfl⟩
        have done : ∀ (mes' : Array MapEntry), EntAll (EntRep m.w m.good false (.one c) ce) (putE c k y es) mes'.toList 0 →
            Ext m h ⟨{ m.w with heap := m.w.heap.setIfInBounds B (.map mes' mes'.size) }, m.loc, m.good⟩ (hset h id (some (.map false (.one c) ce (putE c k y es)))) ∧
            Sim ⟨{ m.w with heap := m.w.heap.setIfInBounds B (.map mes' mes'.size) }, m.loc, m.good⟩ (hset h id (some (.map false (.one c) ce (putE c k y es)))) := fun mes' hE' => by
          have E2 := ext_wrote S hg hl (wr mes' mes'.size) hlike
          refine ⟨E2, sim_wrote S hg hl (wr mes' mes'.size) hlike ⟨B, mes', hl, by simp [hlt], EntAll.mono (EntRep.mono (E2.frozen S)) hE'⟩⟩
        rcases find_ok (fun x v q => hkey m.w m.good x v q) hrep es mes.toList 0 0 hE with ⟨g1, g2, _⟩ | ⟨j, e0, y0, g1, g2, g3, g4, g5⟩
        · have hp := put_new (fun x v q => hkey m.w m.good x v q) hrep hrv hone es mes.toList 0 hE g2
          have hp' : EntAll (EntRep m.w m.good false (.one c) ce) (putE c k y es) (mes.push ⟨ui, uv, mes.size⟩).toList 0 := by
            simpa using hp
          obtain ⟨E2, S2⟩ := done _ hp'
          refine ⟨_, ?_, E2, S2⟩
          rw [Array.size_push]
          simp [Instr.mapUpdate, run_underlying hm, MapKept.run_getObj_map hb, MapKept.run_checkKey hd hik, MapKept.run_findKey hd g1, hsob, Result.andThen]
        · have hp := put_old (fun x v q => hkey m.w m.good x v q) hrep hrv es mes.toList 0 0 j e0.val hE g1
          have hp' : EntAll (EntRep m.w m.good false (.one c) ce) (putE c k y es) (mes.modify j fun e => { e with key := ui, val := uv }).toList 0 := by
            simpa using hp
          obtain ⟨E2, S2⟩ := done _ hp'
          refine ⟨_, ?_, E2, S2⟩
          rw [Array.size_modify]
          have hj : mes[j]? = some e0 := by simpa using g2
          rw [Nat.zero_add] at g1
          simp [Instr.mapUpdate, run_underlying hm, MapKept.run_getObj_map hb, MapKept.run_checkKey hd hik, MapKept.run_findKey hd g1, hj, g3, MapKept.run_keyThatStays hik, hsob, Result.andThen]
      · cases e
    · cases e
  · cases e

theorem EntAll.len {α : Type} {p : α → MapEntry → Prop} : {l : List α} → {es : List MapEntry} → {n : Nat} → EntAll p l es n → es.length = l.length
  | [], _, _, k => by simp only [EntAll] at k; subst k; rfl
  | x :: l, es, n, k => by
    obtain ⟨e, rest, rfl, h2, h3, h4⟩ := k
    simp [EntAll.len h4]
theorem mapLen_ok {m : Mem} {h : Heap} (S : Sim m h) {x : AV} {n : Nat} (e : mapLen h x = some n) {u : Value} (q : Rel m h x u) : ∃ B mes, u = .map (some B) ∧ m.w.heap[B]? = some (.map mes mes.size) ∧ mes.size = n := by
  unfold mapLen at e
  split at e
  · split at e
    · rename_i es hg
      injection e with e; subst e
      obtain ⟨B, mes, hl, rfl, hb, hE⟩ := q.mapv_at S hg
      exact ⟨B, mes, rfl, hb, by simpa using hE.len⟩
    · cases e
  · cases e
theorem makeMapA_shape {E : Env} {h : Heap} {t : TypeId} {rr : AV × Heap} (e : makeMapA E h t = some rr) : ∃ b, rr.2 = h ++ [some b] := by
  unfold makeMapA at e
  split at e
  · split at e
    · split at e
      · obtain ⟨_, e⟩ := cond_none e
        injection e with e; subst e; exact ⟨_, rfl⟩
      · cases e
    · cases e
  · cases e
theorem makeMapA_ok {P : Program} {E : Env} (hT : TabOk P E.tab) {h : Heap} {t : TypeId} {rr : AV × Heap} (e : makeMapA E h t = some rr) (m : Mem) (S : Sim m h) :
    (∃ b, rr.2 = h ++ [some b]) ∧ ∃ cv m', (Instr.makeMap t none).run P m.w = .ok cv m'.w ∧ Ext m h m' rr.2 ∧ Sim m' rr.2 ∧ Rel m' rr.2 rr.1 cv := by
  unfold makeMapA at e
  split at e
  · rename_i kt et hmt
    split at e
    · rename_i tk te htk hte
      split at e
      · rename_i ck ce hrk hre
        obtain ⟨_, e⟩ := cond_none e
        injection e with e; subst e
        refine ⟨⟨_, rfl⟩, .map (some m.w.heap.size), m.push (m.w.alloc (.map #[] 0)) h.length 0, ?_, ?_, ?_, ?_⟩
        · simp [Instr.makeMap, Mem.push]
        · exact ext_push S (Pushed.alloc _ _) _ _
        · exact sim_push S (Pushed.alloc _ _) _ _ ⟨m.w.heap.size, #[], upd_same _ _ _, (Pushed.alloc m.w _).new, rfl⟩
        · simp only [Rel]
          refine ⟨⟨by simp, rfl⟩, fun ka rk c es e => ⟨m.w.heap.size, upd_same _ _ _, rfl⟩⟩
      · cases e
    · cases e
  · cases e

end Go.Proofs.YtklfdmnmiadgpaaAbs
