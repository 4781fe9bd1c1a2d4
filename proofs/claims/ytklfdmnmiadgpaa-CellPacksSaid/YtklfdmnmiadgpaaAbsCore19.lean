/- A drawn region: whatever order is drawn, what the text's order was found to do holds. First: effects of operations, and folds over them. -/
import Derived.Test.YtklfdmnmiadgpaaAbsCore18
namespace Go.Proofs.YtklfdmnmiadgpaaAbs
set_option linter.unusedVariables false
set_option linter.unusedSimpArgs false
open Go
variable {R : Type}

/-! ### masks -/
theorem mem_iff {x : Nat} {l : List Nat} : mem x l = true ↔ x ∈ l := by
  induction l with
  | nil => simp [mem]
  | cons y l ih => simp [mem, ih]
theorem hget_maskFrom (ids : List Nat) (n : Nat) (h : Heap) (id : Nat) : hget (maskFrom ids n h) id = bif mem (n + id) ids then hget h id else none := by
  induction h generalizing n id with
  | nil => simp [maskFrom, hget]
  | cons b h ih => cases id with
    | zero => simp [maskFrom, hget]
    | succ id => simp only [maskFrom, hget, ih]; rw [show n + 1 + id = n + (id + 1) by omega]
theorem hget_mask (ids : List Nat) (h : Heap) (id : Nat) : hget (mask ids h) id = bif mem id ids then hget h id else none := by
  unfold mask; rw [hget_maskFrom]; simp
theorem maskFrom_length (ids : List Nat) (n : Nat) (h : Heap) : (maskFrom ids n h).length = h.length := by
  induction h generalizing n with
  | nil => rfl
  | cons b h ih => simp [maskFrom, ih]
theorem mask_length (ids : List Nat) (h : Heap) : (mask ids h).length = h.length := maskFrom_length ids 0 h
theorem mergeFrom_spec (ids : List Nat) (n : Nat) (h h' : Heap) (hl : h.length ≤ h'.length) : (mergeFrom ids n h h').length = h'.length ∧ ∀ id, hget (mergeFrom ids n h h') id = if id < h.length then (bif mem (n + id) ids then hget h' id else hget h id) else hget h' id := by
  induction h generalizing n h' with
  | nil => simp [mergeFrom]
  | cons b h ih => cases h' with
    | nil => simp at hl
    | cons c h' =>
      obtain ⟨h1, h2⟩ := ih (n + 1) h' (by simpa using hl)
      refine ⟨by simp [mergeFrom, h1], fun id => ?_⟩
      cases id with
      | zero => simp [mergeFrom, hget]
      | succ id => simp only [mergeFrom, hget, h2]; rw [show n + 1 + id = n + (id + 1) by omega]; simp
theorem merge_spec (ids : List Nat) (h h' : Heap) (hl : h.length ≤ h'.length) : (merge ids h h').length = h'.length ∧ ∀ id, hget (merge ids h h') id = if id < h.length then (bif mem id ids then hget h' id else hget h id) else hget h' id := by
  have := mergeFrom_spec ids 0 h h' hl
  simpa [merge] using this
theorem grown_spec (h h' : Heap) (hl : h.length ≤ h'.length) : (h ++ h'.drop h.length).length = h'.length ∧ ∀ id, hget (h ++ h'.drop h.length) id = if id < h.length then hget h id else hget h' id := by
  refine ⟨by simp; omega, fun id => ?_⟩
  induction h generalizing h' id with
  | nil => simp [hget]
  | cons b h ih => cases h' with
    | nil => simp at hl
    | cons c h' => cases id with
      | zero => simp [hget]
      | succ id => simp only [List.cons_append, hget, List.length_cons, List.drop_succ_cons]; rw [ih h' (by simpa using hl)]; simp
def heapOf (n : Nat) (g : Nat → Option Blk) : Heap := (List.range n).map g
theorem heapOf_length (n : Nat) (g : Nat → Option Blk) : (heapOf n g).length = n := by simp [heapOf]
theorem hget_eq (h : Heap) (id : Nat) : hget h id = (h[id]?).getD none := by
  induction h generalizing id with
  | nil => simp [hget]
  | cons b h ih => cases id with
    | zero => simp [hget]
    | succ id => simp [hget, ih]
theorem hget_heapOf (n : Nat) (g : Nat → Option Blk) (id : Nat) : hget (heapOf n g) id = if id < n then g id else none := by
  rw [hget_eq]
  unfold heapOf
  by_cases h : id < n
  · simp [h]
  · simp [h]
theorem heap_ext {h h' : Heap} (hl : h.length = h'.length) (hg : ∀ id, hget h id = hget h' id) : h = h' := by
  apply List.ext_getElem? 
  intro id
  have := hg id
  rw [hget_eq, hget_eq] at this
  rcases Nat.lt_or_ge id h.length with k | k
  · have k' : id < h'.length := by omega
    simp [k, k'] at this ⊢; exact this
  · have k' : h'.length ≤ id := by omega
    rw [List.getElem?_eq_none k, List.getElem?_eq_none k']
theorem heapRefs_mem {h : Heap} {id : Nat} {b : Blk} (e : hget h id = some b) {r : Nat} (hr : r ∈ b.refs) : r ∈ heapRefs h := by
  induction h generalizing id with
  | nil => simp [hget] at e
  | cons a h ih => cases id with
    | zero => simp only [hget] at e; subst e; simp [heapRefs]; exact .inl hr
    | succ id => simp only [hget] at e; have := ih e; simp [heapRefs] at this ⊢; exact .inr this

/-! ### bounds -/
mutual
theorem Rel.bound {m : Mem} {h : Heap} : (a : AV) → (v : Value) → Rel m h a v → ∀ r ∈ a.refs, r < h.length
  | .any, _, _, r, hr | .bool _, _, _, r, hr | .int _ _, _, _, r, hr | .str _, _, _, r, hr | .list _ _ _, _, _, r, hr | .nils, _, _, r, hr | .zcap, _, _, r, hr | .nilptr, _, _, r, hr => by simp [AV.refs] at hr
  | .own id, v, k, r, hr => by simp [AV.refs] at hr; subst hr; simp only [Rel] at k; exact k.1.1
  | .msl id _ _, v, k, r, hr => by simp [AV.refs] at hr; subst hr; simp only [Rel] at k; exact k.1.1
  | .ptr id _, v, k, r, hr => by simp [AV.refs] at hr; subst hr; simp only [Rel] at k; exact k.1.1
  | .eptr id _ _, v, k, r, hr => by simp [AV.refs] at hr; subst hr; simp only [Rel] at k; exact k.1.1
  | .iter id, v, k, r, hr => by simp [AV.refs] at hr; subst hr; simp only [Rel] at k; exact k.1.1
  | .mapv id, v, k, r, hr => by simp [AV.refs] at hr; subst hr; simp only [Rel] at k; exact k.1.1
  | .rptr cs, v, k, r, hr => by simp only [AV.refs] at hr; simp only [Rel] at k; obtain ⟨B, o, vs, _, _, q, _⟩ := k; exact RelL.bound cs vs q r hr
  | .fn _ cs, v, k, r, hr => by simp only [AV.refs] at hr; simp only [Rel] at k; obtain ⟨vs, _, q⟩ := k; exact RelL.bound cs vs q r hr
  | .agg cs, v, k, r, hr => by simp only [AV.refs] at hr; simp only [Rel] at k; obtain ⟨vs, _, q⟩ := k; exact RelL.bound cs vs q r hr
  | .tup cs, v, k, r, hr => by simp only [AV.refs] at hr; simp only [Rel] at k; obtain ⟨vs, _, q⟩ := k; exact RelL.bound cs vs q r hr
theorem RelL.bound {m : Mem} {h : Heap} {one : Bool} : (cs : List AV) → (vs : List Value) → RelL m h one cs vs → ∀ r ∈ refsL cs, r < h.length
  | [], _, _, r, hr => by simp [refsL] at hr
  | c :: cs, vs, k, r, hr => by
    simp only [RelL] at k
    obtain ⟨v, rest, rfl, h2, _, h4⟩ := k
    simp only [refsL, List.mem_append] at hr
    rcases hr with hr | hr
    · exact Rel.bound c v h2 r hr
    · exact RelL.bound cs rest h4 r hr
end
theorem Sim.bound {m : Mem} {h : Heap} (S : Sim m h) {id : Nat} {b : Blk} (e : hget h id = some b) : ∀ r ∈ b.refs, r < h.length := by
  have k := S.blk id b e
  cases b with
  | var vt cs => obtain ⟨B, c, _, _, q⟩ := k; exact RelL.bound cs _ q
  | arr _ _ _ => intro r hr; simp [Blk.refs] at hr
  | siter _ _ => intro r hr; simp [Blk.refs] at hr
  | map _ _ _ _ => intro r hr; simp [Blk.refs] at hr

/-! ### effects -/
structure Eff where
  o : Oper
  r : Rec
  T : List AV
  h : Heap
  v : AV
  M' : Heap
  run : Bool

def Eff.hits (e : Eff) (id : Nat) : Prop := (e.r.lo ≤ id ∧ id < e.r.hi) ∨ id ∈ e.r.ws
instance (e : Eff) (id : Nat) : Decidable (e.hits id) := by unfold Eff.hits; infer_instance
def effH (e : Eff) (g : Nat → Option Blk) (id : Nat) : Option Blk := if e.hits id then hget e.M' id else g id

def guardB (all : List Oper) (o : Oper) (T : List AV) : Option Bool :=
  match o.guard with
  | none => some true
  | some (j, want) => match all[j]? with
    | some oj => match oj.dst with
      | some g => match tget T g with
        | .bool b => some (b == want)
        | .tup _ => some false
        | _ => none
      | none => none
    | none => none

structure EffOk (P : Program) (all : List Oper) (e : Eff) : Prop where
  dst : e.r.dst = e.o.dst
  names : e.r.names = namesOf all e.o
  lo : e.r.lo = e.h.length
  le : e.r.lo ≤ e.r.hi
  guard : guardB all e.o e.T = some e.run
  no : e.run = false → e.v = .tup [] ∧ e.r.ids = [] ∧ e.r.ws = [] ∧ e.r.hi = e.r.lo
  ids : ∀ id ∈ e.r.ids, id < e.r.lo
  ops : e.run = true → ∀ x ∈ e.o.op.operands.toList, ∀ r ∈ (ev e.T x).refs, r ∈ e.r.ids
  refs : e.run = true → ∀ id b, hget (mask e.r.ids e.h) id = some b → ∀ r ∈ b.refs, r ∈ e.r.ids
  sem : e.run = true → OpSem P e.o e.T (mask e.r.ids e.h) e.v e.M'
  len : e.run = true → e.M'.length = e.r.hi
  val : ∀ r ∈ e.v.refs, r ∈ e.r.ids ∨ (e.r.lo ≤ r ∧ r < e.r.hi)
  out : e.run = true → ∀ id b, hget e.M' id = some b → ∀ r ∈ b.refs, r ∈ e.r.ids ∨ (e.r.lo ≤ r ∧ r < e.r.hi)
  ws : ∀ id ∈ e.r.ws, id ∈ e.r.ids
  keep : e.run = true → ∀ id ∈ e.r.ids, id ∉ e.r.ws → hget e.M' id = hget (mask e.r.ids e.h) id

def Chain (P : Program) (all : List Oper) : List AV → Heap → List Eff → List AV → Heap → Prop
  | T, h, [], T', h' => T' = T ∧ h' = h
  | T, h, e :: es, T', h' => e.T = T ∧ e.h = h ∧ EffOk P all e ∧ ∃ h1, h1.length = e.r.hi ∧ (∀ id, hget h1 id = effH e (hget h) id) ∧ Chain P all (tput T e.o.dst e.v) h1 es T' h'

theorem inside_iff {C : List Nat} {L L' id : Nat} (h : inside C L L' id = true) : id ∈ C ∨ (L ≤ id ∧ id < L') := by
  simp only [inside, Bool.and_eq_true, Bool.or_eq_true, Nat.blt_eq, Nat.ble_eq, mem_iff] at h
  rcases h.2 with k | k
  · exact .inr ⟨k, h.1⟩
  · exact .inl k

theorem runDrawn_chain {P : Program} {E : Env} (hT : TabOk P E.tab) (hP : PureOk P E) {call : CallF R} (hc : CallOk P call) {f : FuncId} {all : List Oper} {an : List Nat} {K : St → Option R} {res : R} :
    (rest : List Oper) → {n : Nat} → {s : St} → {rs : List Rec} → runDrawn E f call all an n rest s rs K = some res →
    ∃ es s', Chain P all s.T s.h es s'.T s'.h ∧ es.map (·.o) = rest ∧ drawOk an ((es.map (·.r)).reverse ++ rs) = true ∧ K s' = some res ∧ ∀ k e, es[k]? = some e → e.r.j = n + k
  | [], n, s, rs, e => by
    simp only [runDrawn, goOn_eq] at e
    obtain ⟨h1, h2⟩ := cond_some e
    exact ⟨[], s, ⟨rfl, rfl⟩, rfl, by simpa using h1, h2, by simp⟩
  | o :: rest, n, s, rs, e => by
    have go : ∀ {T : List AV} (hTT : T = s.T), guardB all o s.T = some true → drawnStep E f call (namesOf all o) n T s.h o (closure s.h 3 (opRefs T o)) (fun r v h => runDrawn E f call all an (n + 1) rest ⟨tput T o.dst v, h⟩ (r :: rs) K) = some res →
        ∃ es s', Chain P all s.T s.h es s'.T s'.h ∧ es.map (·.o) = o :: rest ∧ drawOk an ((es.map (·.r)).reverse ++ rs) = true ∧ K s' = some res ∧ ∀ k e, es[k]? = some e → e.r.j = n + k := by
      intro T hTT hg e
      subst hTT
      unfold drawnStep at e
      simp only [forceAt_eq, forceLs_eq forceNat_eq, frcAV_eq] at e
      generalize closure s.h 3 (opRefs s.T o) = C at e
      obtain ⟨hck, e⟩ := cond_some e
      obtain ⟨v, h', e, hk, sem⟩ := step_ok hT hP hc e
      obtain ⟨hck2, e⟩ := cond_some e
      simp only [Bool.and_eq_true, List.all_eq_true, Nat.blt_eq, Nat.ble_eq, mem_iff] at hck hck2
      obtain ⟨⟨c1, c2⟩, c3⟩ := hck
      obtain ⟨⟨d1, d2⟩, d3⟩ := hck2
      have fin : ∀ (W : List Nat), (∀ id ∈ W, id ∈ C) → (∀ id ∈ C, id ∉ W → hget h' id = hget (mask C s.h) id) → runDrawn E f call all an (n + 1) rest ⟨tput s.T o.dst v, merge W s.h h'⟩ (⟨n, namesOf all o, o.dst, C, W, s.h.length, h'.length, []⟩ :: rs) K = some res →
          ∃ es s', Chain P all s.T s.h es s'.T s'.h ∧ es.map (·.o) = o :: rest ∧ drawOk an ((es.map (·.r)).reverse ++ rs) = true ∧ K s' = some res ∧ ∀ k e, es[k]? = some e → e.r.j = n + k := by
        intro W hW hk e
        obtain ⟨es, s', hch, ho, hd, hK, hj⟩ := runDrawn_chain hT hP hc rest e
        let e0 : Eff := ⟨o, ⟨n, namesOf all o, o.dst, C, W, s.h.length, h'.length, []⟩, s.T, s.h, v, h', true⟩
        refine ⟨e0 :: es, s', ⟨rfl, rfl, ?_, _, ?_, ?_, hch⟩, by simp [e0, ho], by simpa using hd, hK, fun k e1 he1 => ?_⟩
        · exact { dst := rfl, names := rfl, lo := rfl, le := d1, guard := hg, no := fun k => (by cases k), ids := fun id hid => c1 id hid, ops := fun _ x hx r hr => c2 r (List.mem_flatMap.2 ⟨x, hx, hr⟩), refs := fun _ id b eb r hr => c3 r (heapRefs_mem eb hr), sem := fun _ => sem, len := fun _ => rfl, val := fun r hr => inside_iff (d2 r hr), out := fun _ id b eb r hr => inside_iff (d3 r (heapRefs_mem eb hr)), ws := hW, keep := fun _ => hk }
        · exact (merge_spec W s.h h' d1).1
        · intro id
          simp only [effH]
          rw [(merge_spec W s.h h' d1).2 id]
          by_cases h1 : id < s.h.length
          · rw [if_pos h1]
            cases hm : mem id W with
            | true => rw [if_pos (.inr (mem_iff.1 hm))]; rfl
            | false =>
              rw [if_neg]; · rfl
              rintro (⟨k, _⟩ | k)
              · simp only [e0] at k; omega
              · rw [mem_iff.2 k] at hm; cases hm
          · rw [if_neg h1]
            by_cases h2 : id < h'.length
            · rw [if_pos (.inl ⟨by simp only [e0]; omega, h2⟩)]
            · rw [if_neg, hget_ge (by omega), hget_ge (by omega)]
              rintro (⟨_, k⟩ | k)
              · exact h2 k
              · have := c1 id (hW id k); omega
        · cases k with
          | zero => simp at he1; subst he1; rfl
          | succ k => simp at he1; have := hj k e1 he1; omega
      unfold wrote at e
      cases hkq : keeps E s.T o.op with
      | true =>
        rw [hkq] at e
        exact fin [] (fun id k => by simp at k) (fun id hid _ => hk hkq id (by rw [mask_length]; exact c1 id hid)) e
      | false =>
        rw [hkq] at e
        cases hcmp : E.cmp with
        | true =>
          rw [hcmp] at e
          refine fin _ (fun id k => (List.mem_filter.1 k).1) (fun id hid hn => ?_) e
          refine optEqB_eq ?_
          cases hq : optEqB (hget h' id) (hget (mask C s.h) id) with
          | true => rfl
          | false => exact absurd (List.mem_filter.2 ⟨hid, by simp [hq]⟩) hn
        | false =>
          rw [hcmp] at e
          exact fin C (fun id k => k) (fun id hid hn => absurd hid hn) e
    have no : ∀ {T : List AV} (hTT : T = s.T), guardB all o s.T = some false → runDrawn E f call all an (n + 1) rest ⟨tput T o.dst (.tup []), s.h⟩ (⟨n, namesOf all o, o.dst, [], [], s.h.length, s.h.length, []⟩ :: rs) K = some res →
        ∃ es s', Chain P all s.T s.h es s'.T s'.h ∧ es.map (·.o) = o :: rest ∧ drawOk an ((es.map (·.r)).reverse ++ rs) = true ∧ K s' = some res ∧ ∀ k e, es[k]? = some e → e.r.j = n + k := by
      intro T hTT hg e
      subst hTT
      obtain ⟨es, s', hch, ho, hd, hK, hj⟩ := runDrawn_chain hT hP hc rest e
      let e0 : Eff := ⟨o, ⟨n, namesOf all o, o.dst, [], [], s.h.length, s.h.length, []⟩, s.T, s.h, .tup [], [], false⟩
      refine ⟨e0 :: es, s', ⟨rfl, rfl, ?_, s.h, rfl, ?_, hch⟩, by simp [e0, ho], by simpa using hd, hK, fun k e1 he1 => ?_⟩
      · exact { dst := rfl, names := rfl, lo := rfl, le := Nat.le_refl _, guard := hg, no := fun _ => ⟨rfl, rfl, rfl, rfl⟩, ids := fun id hid => (by simp [e0] at hid), ops := fun k => (by cases k), refs := fun k => (by cases k), sem := fun k => (by cases k), len := fun k => (by cases k), val := fun r hr => (by simp [e0, AV.refs, refsL] at hr), out := fun k => (by cases k), ws := fun id hid => (by simp [e0] at hid), keep := fun k => (by cases k) }
      · intro id
        simp only [effH]
        rw [if_neg]
        rintro (⟨k1, k2⟩ | k)
        · simp only [e0] at k1 k2; omega
        · simp [e0] at k
      · cases k with
        | zero => simp at he1; subst he1; rfl
        | succ k => simp at he1; have := hj k e1 he1; omega
    simp only [runDrawn, goOn_eq] at e
    split at e
    · rename_i hg
      exact go rfl (by simp [guardB, hg]) e
    · rename_i j want hg
      split at e
      · rename_i oj hoj
        split at e
        · rename_i g hdst
          split at e
          · rename_i b hb
            cases b with
            | true =>
              simp only [cond_true] at e
              cases want with
              | true => simp only [cond_true] at e; exact go (tset_self hb) (by simp [guardB, hg, hoj, hdst, hb]) e
              | false => simp only [cond_false] at e; exact no (tset_self hb) (by simp [guardB, hg, hoj, hdst, hb]) e
            | false =>
              simp only [cond_false] at e
              cases want with
              | true => simp only [cond_true] at e; exact no (tset_self hb) (by simp [guardB, hg, hoj, hdst, hb]) e
              | false => simp only [cond_false] at e; exact go (tset_self hb) (by simp [guardB, hg, hoj, hdst, hb]) e
          · rename_i vs hb
            exact no rfl (by simp [guardB, hg, hoj, hdst, hb]) e
          · cases e
        · cases e
      · cases e

end Go.Proofs.YtklfdmnmiadgpaaAbs
