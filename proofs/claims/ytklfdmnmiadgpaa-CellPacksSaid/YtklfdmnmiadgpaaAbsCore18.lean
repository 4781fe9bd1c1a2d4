/- Values carried over from memory to memory; a run on a part of the heap, seen in the whole. -/
import Derived.Test.YtklfdmnmiadgpaaAbsCore17
namespace Go.Proofs.YtklfdmnmiadgpaaAbs
set_option linter.unusedVariables false
set_option linter.unusedSimpArgs false
open Go

structure Carry (m : Mem) (h : Heap) (m' : Mem) (h' : Heap) (ok : Nat → Prop) : Prop where
  frozen : ∀ B, m.good B → m'.good B ∧ m'.w.heap[B]? = m.w.heap[B]?
  len : ∀ id, ok id → id < h.length → id < h'.length
  back : ∀ id b', ok id → id < h.length → hget h' id = some b' → ∃ b, hget h id = some b ∧ m'.loc id = m.loc id ∧ b.like b' ∧ ∀ B o, m.loc id = some (B, o) → m'.w.shape? B = m.w.shape? B

theorem Carry.arr {m m' : Mem} {h h' : Heap} {ok : Nat → Prop} (E : Carry m h m' h' ok) {id : Nat} (hk : ok id) (hi : id < h.length) {et : TypeId} {r : Row} {l : List r.den} (e : hget h' id = some (.arr et r l)) :
    ∃ l0 : List r.den, hget h id = some (.arr et r l0) ∧ l0.length = l.length ∧ m'.loc id = m.loc id ∧ ∀ B o, m.loc id = some (B, o) → m'.w.shape? B = m.w.shape? B := by
  obtain ⟨b, eb, h1, h2, h3⟩ := E.back id _ hk hi e
  cases b with
  | var vt cs => exact h2.elim
  | siter _ _ => exact h2.elim
  | map _ _ _ _ => exact h2.elim
  | arr et0 s l0 =>
    obtain ⟨rfl, rfl, h2⟩ := h2
    exact ⟨l0, eb, h2, h1, h3⟩

mutual
theorem Rel.carry {m m' : Mem} {h h' : Heap} {ok : Nat → Prop} (E : Carry m h m' h' ok) : (a : AV) → (v : Value) → (∀ id ∈ a.refs, ok id) → Rel m h a v → Rel m' h' a v
  | .any, v, _, k => trivial
  | .bool b, v, _, k => k
  | .int _ n, v, _, k => k
  | .str l, v, _, k => k
  | .list r l nn, v, _, k => ⟨CTy.rep_mono E.frozen (.slice r) l v k.1, k.2⟩
  | .nils, v, _, k => k
  | .zcap, v, _, k => k
  | .own id, v, hk, k => by
    simp only [Rel] at k ⊢
    have ho := hk id (by simp [AV.refs])
    refine ⟨⟨E.len id ho k.1.1, k.1.2⟩, fun et r l e => ?_⟩
    obtain ⟨l0, e0, hl, hloc, hsh⟩ := E.arr ho k.1.1 e
    rcases k.2 _ r l0 e0 with ⟨h1, h2, h3⟩ | ⟨B, o, cap, h1, h2, h3, e', n, h4, h5⟩
    · subst h1; exact .inl ⟨List.eq_nil_of_length_eq_zero hl.symm, by rw [hloc]; exact h2, h3⟩
    · exact .inr ⟨B, o, cap, by rw [hloc]; exact h1, by rw [← hl]; exact h2, by rw [← hl]; exact h3, e', n, by rw [hsh B o h1]; exact h4, h5⟩
  | .msl id off len, v, hk, k => by
    simp only [Rel] at k ⊢
    have ho := hk id (by simp [AV.refs])
    refine ⟨⟨E.len id ho k.1.1, k.1.2⟩, fun et r l e => ?_⟩
    obtain ⟨l0, e0, hl, hloc, hsh⟩ := E.arr ho k.1.1 e
    obtain ⟨a, cap, h1, h2, h3, h5, h4⟩ := k.2 _ r l0 e0
    refine ⟨a, cap, h1, h2, by rw [← hl]; exact h3, by rw [← hl]; exact h5, ?_⟩
    rw [hloc]; exact h4
  | .nilptr, v, _, k => k
  | .ptr id off, v, hk, k => by
    simp only [Rel] at k ⊢
    have ho := hk id (by simp [AV.refs])
    refine ⟨⟨E.len id ho k.1.1, k.1.2⟩, fun vt cs e => ?_⟩
    obtain ⟨b, eb, h1, h2, h3⟩ := E.back id _ ho k.1.1 e
    cases b with
    | arr _ _ _ => exact h2.elim
    | siter _ _ => exact h2.elim
    | map _ _ _ _ => exact h2.elim
    | var vt0 cs0 => rw [h1]; have := h2.1; exact k.2 _ cs0 eb
  | .eptr id ix j, v, hk, k => by
    simp only [Rel] at k ⊢
    have ho := hk id (by simp [AV.refs])
    refine ⟨⟨E.len id ho k.1.1, k.1.2⟩, fun et r l e => ?_⟩
    obtain ⟨l0, e0, hl, hloc, hsh⟩ := E.arr ho k.1.1 e
    rw [hloc, ← hl]; exact k.2 _ r l0 e0
  | .rptr cs, v, hk, k => by
    simp only [Rel] at k ⊢
    obtain ⟨B, o, vs, h1, h2, h3, c, e, fr, t, h4, h5⟩ := k
    have q := E.frozen B h2
    exact ⟨B, o, vs, h1, q.1, RelL.carry E true cs vs (fun id hid => hk id (by simpa [AV.refs] using hid)) h3, c, e, fr, t, by rw [q.2]; exact h4, h5⟩
  | .fn f cs, v, hk, k => by
    simp only [Rel] at k ⊢
    obtain ⟨vs, h1, h2⟩ := k
    exact ⟨vs, h1, RelL.carry E false cs vs (fun id hid => hk id (by simpa [AV.refs] using hid)) h2⟩
  | .iter id, v, hk, k => by
    simp only [Rel] at k ⊢
    have ho := hk id (by simp [AV.refs])
    refine ⟨⟨E.len id ho k.1.1, k.1.2⟩, fun l p e => ?_⟩
    obtain ⟨b, eb, h1, h2, h3⟩ := E.back id _ ho k.1.1 e
    cases b with
    | arr _ _ _ => exact h2.elim
    | var _ _ => exact h2.elim
    | map _ _ _ _ => exact h2.elim
    | siter l0 p0 => rw [h1]; exact k.2 l0 p0 eb
  | .mapv id, v, hk, k => by
    simp only [Rel] at k ⊢
    have ho := hk id (by simp [AV.refs])
    refine ⟨⟨E.len id ho k.1.1, k.1.2⟩, fun ka rk c es e => ?_⟩
    obtain ⟨b, eb, h1, h2, h3⟩ := E.back id _ ho k.1.1 e
    cases b with
    | arr _ _ _ => exact h2.elim
    | var _ _ => exact h2.elim
    | siter _ _ => exact h2.elim
    | map ka0 rk0 c0 es0 => rw [h1]; exact k.2 ka0 rk0 c0 es0 eb
  | .agg cs, v, hk, k => by
    simp only [Rel] at k ⊢
    obtain ⟨vs, h1, h2⟩ := k
    exact ⟨vs, h1, RelL.carry E true cs vs (fun id hid => hk id (by simpa [AV.refs] using hid)) h2⟩
  | .tup cs, v, hk, k => by
    simp only [Rel] at k ⊢
    obtain ⟨vs, h1, h2⟩ := k
    exact ⟨vs, h1, RelL.carry E false cs vs (fun id hid => hk id (by simpa [AV.refs] using hid)) h2⟩
theorem RelL.carry {m m' : Mem} {h h' : Heap} {ok : Nat → Prop} (E : Carry m h m' h' ok) (one : Bool) : (cs : List AV) → (vs : List Value) → (∀ id ∈ refsL cs, ok id) → RelL m h one cs vs → RelL m' h' one cs vs
  | [], vs, _, k => k
  | c :: cs, vs, hk, k => by
    simp only [RelL] at k ⊢
    obtain ⟨v, rest, h1, h2, h3, h4⟩ := k
    exact ⟨v, rest, h1, Rel.carry E c v (fun id hid => hk id (by simp [refsL, hid])) h2, h3, RelL.carry E one cs rest (fun id hid => hk id (by simp [refsL, hid])) h4⟩
end

theorem BlkRel.carry {m m' : Mem} {h h' : Heap} {ok : Nat → Prop} (E : Carry m h m' h' ok) {id : Nat} {b : Blk} (hk : ∀ r ∈ b.refs, ok r) (k : BlkRel m h id b) (hl : m'.loc id = m.loc id)
    (hw : ∀ B o, m.loc id = some (B, o) → m'.w.heap[B]? = m.w.heap[B]?) : BlkRel m' h' id b := by
  cases b with
  | var vt cs =>
    obtain ⟨B, c, h1, h2, h3⟩ := k
    exact ⟨B, c, by rw [hl]; exact h1, by rw [hw B _ h1]; exact h2, RelL.carry E true cs _ (fun id hid => hk id hid) h3⟩
  | arr et r l =>
    rcases k with ⟨h1, h2⟩ | ⟨B, o, c, vs, t, h1, h2, h3, h4, h5⟩
    · exact .inl ⟨h1, by rw [hl]; exact h2⟩
    · exact .inr ⟨B, o, c, vs, t, by rw [hl]; exact h1, by rw [hw B _ h1]; exact h2, h3, h4, RepAll.mono (fun x cs => Row.rep_mono E.frozen r x cs) h5⟩
  | siter l pos =>
    obtain ⟨B, s, h1, h2, h3⟩ := k
    exact ⟨B, s, by rw [hl]; exact h1, by rw [hw B _ h1]; exact h2, h3⟩
  | map ka rk c es =>
    obtain ⟨B, mes, h1, h2, h3⟩ := k
    exact ⟨B, mes, by rw [hl]; exact h1, by rw [hw B _ h1]; exact h2, EntAll.mono (EntRep.mono E.frozen) h3⟩

/-- A part of the heap. -/
structure Part (M G : Heap) (p : Nat → Prop) : Prop where
  sub : ∀ id b, hget M id = some b → hget G id = some b ∧ p id
  refs : ∀ id b, hget M id = some b → ∀ r ∈ b.refs, p r
  len : ∀ id, p id → id < M.length

theorem Part.carry {m : Mem} {M G : Heap} {p : Nat → Prop} (q : Part M G p) : Carry m G m M p :=
  ⟨fun B k => ⟨k, rfl⟩, fun id k _ => q.len id k, fun id b k _ e => ⟨b, (q.sub id b e).1, rfl, Blk.like_refl b, fun _ _ _ => rfl⟩⟩
theorem Part.sim {m : Mem} {M G : Heap} {p : Nat → Prop} (q : Part M G p) (S : Sim m G) : Sim m M where
  blk := fun id b e => BlkRel.carry q.carry (q.refs id b e) (S.blk id b (q.sub id b e).1) rfl fun _ _ _ => rfl
  inj := fun i j b b' B o o' e e' => S.inj i j b b' B o o' (q.sub i b e).1 (q.sub j b' e').1
  sep := fun i b B o e => S.sep i b B o (q.sub i b e).1
  lt := S.lt

/-- What a change in the whole is, when blocks are born at places kept free for them. -/
structure ExtN (m : Mem) (h : Heap) (m' : Mem) (h' : Heap) (new : Nat → Prop) : Prop where
  os : m'.w.os = m.w.os
  tape : m'.w.tape = m.w.tape
  output : m'.w.output = m.w.output
  size : m.w.heap.size ≤ m'.w.heap.size
  keep : ∀ B, B < m.w.heap.size → ¬ Owned m h B → m'.w.heap[B]? = m.w.heap[B]? ∧ ¬ Owned m' h' B
  good : ∀ B, m.good B → m'.good B
  back : ∀ B, m'.good B → m.good B ∨ Owned m h B ∨ m.w.heap.size ≤ B
  len : h.length ≤ h'.length
  dead : ∀ id, id < h.length → ¬ new id → hget h id = none → hget h' id = none
  live : ∀ id b b', hget h id = some b → hget h' id = some b' → m'.loc id = m.loc id ∧ b.like b' ∧ ∀ B o, m.loc id = some (B, o) → m'.w.shape? B = m.w.shape? B

theorem Ext.transN {m m' m'' : Mem} {h h' h'' : Heap} {new : Nat → Prop} (E : Ext m h m' h') (F : ExtN m' h' m'' h'' new) (hn : ∀ id, new id → h.length ≤ id) : Ext m h m'' h'' where
  os := F.os.trans E.os
  tape := F.tape.trans E.tape
  output := F.output.trans E.output
  size := Nat.le_trans E.size F.size
  keep := fun B hB hn => by
    have a := E.keep B hB hn
    have b := F.keep B (Nat.lt_of_lt_of_le hB E.size) a.2
    exact ⟨b.1.trans a.1, b.2⟩
  good := fun B k => F.good B (E.good B k)
  back := fun B k => by
    by_cases hs : m.w.heap.size ≤ B
    · exact .inr (.inr hs)
    by_cases ho : Owned m h B
    · exact .inr (.inl ho)
    rcases F.back B k with k | k | k
    · exact E.back B k
    · exact absurd k (E.keep B (by omega) ho).2
    · exact .inr (.inr (Nat.le_trans E.size k))
  len := Nat.le_trans E.len F.len
  dead := fun id hi e => F.dead id (Nat.lt_of_lt_of_le hi E.len) (fun k => by have := hn id k; omega) (E.dead id hi e)
  live := fun id b b'' e e'' => by
    have hi := hget_lt e
    cases e' : hget h' id with
    | none =>
      have := F.dead id (Nat.lt_of_lt_of_le hi E.len) (fun k => by have := hn id k; omega) e'
      rw [this] at e''; cases e''
    | some b' =>
      obtain ⟨a1, a2, a3⟩ := E.live id b b' e e'
      obtain ⟨c1, c2, c3⟩ := F.live id b' b'' e' e''
      exact ⟨c1.trans a1, Blk.like_trans a2 c2, fun B o k => (c3 B o (a1.trans k)).trans (a3 B o k)⟩

/-- A run on the part M of the heap G, births at [L, L') : seen in the whole. -/
theorem frame {m m1 : Mem} {G M M' G' : Heap} {L L' : Nat} {p : Nat → Prop} (S : Sim m G) (hL : M.length = L) (hL' : M'.length = L') (hLL : L ≤ L') (hLn : L' ≤ G.length) (hlen : G'.length = G.length)
    (q : Part M G p) (hM : ∀ id b, p id → hget G id = some b → hget M id = some b) (hnew : ∀ id, L ≤ id → id < L' → hget G id = none)
    (g1 : ∀ id, (p id ∨ (L ≤ id ∧ id < L')) → hget G' id = hget M' id) (g2 : ∀ id, ¬ (p id ∨ (L ≤ id ∧ id < L')) → hget G' id = hget G id)
    (E : Ext m M m1 M') (S1 : Sim m1 M') (hc : ∀ id b, hget M' id = some b → ∀ r ∈ b.refs, p r ∨ (L ≤ r ∧ r < L')) (ha : ∀ id b, hget G id = some b → ∀ r ∈ b.refs, ¬ (L ≤ r ∧ r < L')) :
    ∃ m', m'.w = m1.w ∧ Sim m' G' ∧ Carry m1 M' m' G' (fun id => p id ∨ (L ≤ id ∧ id < L')) ∧ Carry m G m' G' (fun id => ¬ (L ≤ id ∧ id < L')) ∧ ExtN m G m' G' (fun id => L ≤ id ∧ id < L') := by
  classical
  let Q : Nat → Prop := fun id => p id ∨ (L ≤ id ∧ id < L')
  let m' : Mem := ⟨m1.w, fun id => if Q id then m1.loc id else m.loc id, m1.good⟩
  have SM : Sim m M := q.sim S
  have locQ : ∀ id, Q id → m'.loc id = m1.loc id := fun id k => by show (if Q id then _ else _) = _; rw [if_pos k]
  have locN : ∀ id, ¬ Q id → m'.loc id = m.loc id := fun id k => by show (if Q id then _ else _) = _; rw [if_neg k]
  -- what lives in M' lies inside
  have inQ : ∀ id b, hget M' id = some b → Q id := fun id b e => by
    rcases Nat.lt_or_ge id L with hi | hi
    · obtain ⟨b0, e0⟩ := E.mid (by rw [hL]; exact hi) e
      exact .inl (q.sub id b0 e0).2
    · exact .inr ⟨hi, by rw [← hL']; exact hget_lt e⟩
  -- blocks outside are owned by nobody inside
  have outOwn : ∀ id b B o, ¬ Q id → hget G id = some b → m.loc id = some (B, o) → ¬ Owned m M B := fun id b B o hn e l ⟨j, b', o', ej, lj⟩ => by
    have := S.inj id j b b' B o o' e (q.sub j b' ej).1 l lj
    subst this
    exact hn (.inl (q.sub id b' ej).2)
  have outKeep : ∀ id b B o, ¬ Q id → hget G id = some b → m.loc id = some (B, o) → m1.w.heap[B]? = m.w.heap[B]? ∧ ¬ Owned m1 M' B := fun id b B o hn e l =>
    E.keep B ((S.blk id b e).lt l) (outOwn id b B o hn e l)
  have C1 : Carry m1 M' m' G' Q := ⟨fun B k => ⟨k, rfl⟩, fun id k hi => by rw [hlen]; omega, fun id b' k hi e => ⟨b', by rw [← g1 id k]; exact e, locQ id k, Blk.like_refl b', fun _ _ _ => rfl⟩⟩
  have live : ∀ id b b', hget G id = some b → hget G' id = some b' → m'.loc id = m.loc id ∧ b.like b' ∧ ∀ B o, m.loc id = some (B, o) → m'.w.shape? B = m.w.shape? B := fun id b b' e e' => by
    by_cases hq : Q id
    · rw [g1 id hq] at e'
      rcases hq with hp | hn
      · obtain ⟨a1, a2, a3⟩ := E.live id b b' (hM id b hp e) e'
        exact ⟨(locQ id (.inl hp)).trans a1, a2, a3⟩
      · rw [hnew id hn.1 hn.2] at e; cases e
    · rw [g2 id hq] at e'
      rw [e] at e'; injection e' with e'; subst e'
      refine ⟨locN id hq, Blk.like_refl b, fun B o l => ?_⟩
      have := (outKeep id b B o hq e l).1
      show m1.w.shape? B = m.w.shape? B
      simp only [World.shape?, this]
  have dead : ∀ id, ¬ (L ≤ id ∧ id < L') → hget G id = none → hget G' id = none := fun id hn e => by
    by_cases hq : Q id
    · rw [g1 id hq]
      rcases hq with hp | hn'
      · have : hget M id = none := by
          cases eM : hget M id with
          | none => rfl
          | some b => rw [(q.sub id b eM).1] at e; cases e
        exact E.dead id (q.len id hp) this
      · exact absurd hn' hn
    · rw [g2 id hq]; exact e
  have C2 : Carry m G m' G' (fun id => ¬ (L ≤ id ∧ id < L')) := ⟨fun B k => Ext.frozen SM E B k, fun id k hi => by rw [hlen]; exact hi, fun id b' k hi e => by
    cases eg : hget G id with
    | none => rw [dead id k eg] at e; cases e
    | some b =>
      obtain ⟨a1, a2, a3⟩ := live id b b' eg e
      exact ⟨b, rfl, a1, a2, a3⟩⟩
  refine ⟨m', rfl, ⟨fun id b e => ?_, fun i j b b' B o o' e e' l l' => ?_, fun i b B o e l => ?_, fun B k => S1.lt B k⟩, C1, C2, ⟨E.os, E.tape, E.output, E.size, fun B hB hn => ?_, E.good, fun B k => ?_, Nat.le_of_eq hlen.symm, fun id _ k e => dead id k e, live⟩⟩
  · by_cases hq : Q id
    · have e1 := e
      rw [g1 id hq] at e1
      exact BlkRel.carry C1 (hc id b e1) (S1.blk id b e1) (locQ id hq) fun _ _ _ => rfl
    · have e1 := e
      rw [g2 id hq] at e1
      exact BlkRel.carry C2 (ha id b e1) (S.blk id b e1) (locN id hq) fun B o l => (outKeep id b B o hq e1 l).1
  · by_cases hi : Q i
    · rw [g1 i hi] at e; rw [locQ i hi] at l
      by_cases hj : Q j
      · rw [g1 j hj] at e'; rw [locQ j hj] at l'
        exact S1.inj i j b b' B o o' e e' l l'
      · rw [g2 j hj] at e'; rw [locN j hj] at l'
        exact absurd ⟨i, b, o, e, l⟩ (outKeep j b' B o' hj e' l').2
    · rw [g2 i hi] at e; rw [locN i hi] at l
      by_cases hj : Q j
      · rw [g1 j hj] at e'; rw [locQ j hj] at l'
        exact absurd ⟨j, b', o', e', l'⟩ (outKeep i b B o hi e l).2
      · rw [g2 j hj] at e'; rw [locN j hj] at l'
        exact S.inj i j b b' B o o' e e' l l'
  · by_cases hi : Q i
    · rw [g1 i hi] at e; rw [locQ i hi] at l
      exact S1.sep i b B o e l
    · rw [g2 i hi] at e; rw [locN i hi] at l
      intro k
      rcases E.back B k with k | k | k
      · exact S.sep i b B o e l k
      · exact outOwn i b B o hi e l k
      · have := (S.blk i b e).lt l; omega
  · have hM1 : ¬ Owned m M B := fun ⟨j, b', o', ej, lj⟩ => hn ⟨j, b', o', (q.sub j b' ej).1, lj⟩
    have k := E.keep B hB hM1
    refine ⟨k.1, fun ⟨j, b', o', ej, lj⟩ => ?_⟩
    by_cases hj : Q j
    · rw [g1 j hj] at ej; rw [locQ j hj] at lj
      exact k.2 ⟨j, b', o', ej, lj⟩
    · rw [g2 j hj] at ej; rw [locN j hj] at lj
      exact hn ⟨j, b', o', ej, lj⟩
  · rcases E.back B k with k | ⟨j, b', o', ej, lj⟩ | k
    · exact .inl k
    · exact .inr (.inl ⟨j, b', o', (q.sub j b' ej).1, lj⟩)
    · exact .inr (.inr k)

end Go.Proofs.YtklfdmnmiadgpaaAbs
