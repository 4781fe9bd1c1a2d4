/- Changes of memory: new blocks, writes, blocks let go. -/
import Derived.Test.YtklfdmnmiadgpaaAbsCore3
namespace Go.Proofs.YtklfdmnmiadgpaaAbs
set_option linter.unusedVariables false
set_option linter.unusedSimpArgs false
open Go

theorem BlkRel.mono {m m' : Mem} {h h' : Heap} (S : Sim m h) (E : Ext m h m' h') {id : Nat} {b : Blk} (k : BlkRel m h id b) (hl : m'.loc id = m.loc id)
    (hw : ∀ B o, m.loc id = some (B, o) → m'.w.heap[B]? = m.w.heap[B]?) : BlkRel m' h' id b := by
  cases b with
  | var vt cs =>
    obtain ⟨B, c, h1, h2, h3⟩ := k
    exact ⟨B, c, by rw [hl]; exact h1, by rw [hw B _ h1]; exact h2, RelL.mono S E true cs _ h3⟩
  | arr et r l =>
    rcases k with ⟨h1, h2⟩ | ⟨B, o, c, vs, t, h1, h2, h3, h4, h5⟩
    · exact .inl ⟨h1, by rw [hl]; exact h2⟩
    · exact .inr ⟨B, o, c, vs, t, by rw [hl]; exact h1, by rw [hw B _ h1]; exact h2, h3, h4, RepAll.mono (fun x cs => Row.rep_mono (E.frozen S) r x cs) h5⟩
  | siter l pos =>
    obtain ⟨B, s, h1, h2, h3⟩ := k
    exact ⟨B, s, by rw [hl]; exact h1, by rw [hw B _ h1]; exact h2, h3⟩
  | map ka rk c es =>
    obtain ⟨B, mes, h1, h2, h3⟩ := k
    exact ⟨B, mes, by rw [hl]; exact h1, by rw [hw B _ h1]; exact h2, EntAll.mono (EntRep.mono (E.frozen S)) h3⟩

theorem Sim.of_ext {m m' : Mem} {h h' : Heap} (S : Sim m h) (E : Ext m h m' h')
    (hb : ∀ id b', hget h' id = some b' → (hget h id = some b' ∧ ∀ B o, m.loc id = some (B, o) → m'.w.heap[B]? = m.w.heap[B]?) ∨ BlkRel m' h' id b')
    (hi : ∀ i j b b' B o o', hget h' i = some b → hget h' j = some b' → m'.loc i = some (B, o) → m'.loc j = some (B, o') → i = j)
    (hs : ∀ i b B o, hget h' i = some b → m'.loc i = some (B, o) → ¬ m'.good B)
    (hlt : ∀ B, m'.good B → B < m'.w.heap.size) : Sim m' h' := by
  refine ⟨fun id b' e' => ?_, hi, hs, hlt⟩
  rcases hb id b' e' with ⟨e, hw⟩ | k
  · exact BlkRel.mono S E (S.blk id b' e) (E.live id b' b' e e').1 hw
  · exact k

theorem BlkRel.lt {m : Mem} {h : Heap} {id : Nat} {b : Blk} (k : BlkRel m h id b) {B o : Nat} (hl : m.loc id = some (B, o)) : B < m.w.heap.size := by
  have key : ∀ {x : Obj}, m.w.heap[B]? = some x → B < m.w.heap.size := fun hx => (Array.getElem?_eq_some_iff.1 hx).1
  cases b with
  | var vt cs => obtain ⟨B', c, h1, h2, _⟩ := k; rw [hl] at h1; injection h1 with h1; injection h1 with h1; subst h1; exact key h2
  | arr et r l =>
    rcases k with ⟨_, h2⟩ | ⟨B', o', c, vs, t, h1, h2, _⟩
    · rw [hl] at h2; cases h2
    · rw [hl] at h1; injection h1 with h1; injection h1 with h1; subst h1; exact key h2
  | siter l pos => obtain ⟨B', s, h1, h2, _⟩ := k; rw [hl] at h1; injection h1 with h1; injection h1 with h1; subst h1; exact key h2
  | map _ _ _ _ => obtain ⟨B', s, h1, h2, _⟩ := k; rw [hl] at h1; injection h1 with h1; injection h1 with h1; subst h1; exact key h2
theorem Sim.owned_lt {m : Mem} {h : Heap} (S : Sim m h) {B : Nat} (k : Owned m h B) : B < m.w.heap.size := by
  obtain ⟨id, b, o, e, l⟩ := k
  exact (S.blk id b e).lt l

def upd (f : Nat → Option (Nat × Nat)) (i : Nat) (x : Option (Nat × Nat)) : Nat → Option (Nat × Nat) := fun j => if j = i then x else f j
theorem upd_same (f : Nat → Option (Nat × Nat)) (i : Nat) (x : Option (Nat × Nat)) : upd f i x i = x := by simp [upd]
theorem upd_ne (f : Nat → Option (Nat × Nat)) {i j : Nat} (x : Option (Nat × Nat)) (e : j ≠ i) : upd f i x j = f j := by simp [upd, e]

/-- The world got one new block, nothing else. -/
structure Pushed (w w' : World) (ob : Obj) : Prop where
  heap : w'.heap = w.heap.push ob
  os : w'.os = w.os
  tape : w'.tape = w.tape
  output : w'.output = w.output
theorem Pushed.old {w w' : World} {ob : Obj} (p : Pushed w w' ob) {B : Nat} (h : B < w.heap.size) : w'.heap[B]? = w.heap[B]? := by
  rw [p.heap, Array.getElem?_push, if_neg (by omega)]
theorem Pushed.new {w w' : World} {ob : Obj} (p : Pushed w w' ob) : w'.heap[w.heap.size]? = some ob := by
  rw [p.heap]; simp
theorem Pushed.size {w w' : World} {ob : Obj} (p : Pushed w w' ob) : w'.heap.size = w.heap.size + 1 := by rw [p.heap]; simp
theorem Pushed.alloc (w : World) (ob : Obj) : Pushed w (w.alloc ob) ob := ⟨rfl, rfl, rfl, rfl⟩
theorem Pushed.drewAlloc (w : World) (ob : Obj) : Pushed w (w.drew.alloc ob) ob := ⟨rfl, rfl, rfl, rfl⟩
theorem shape_of_heap {w w' : World} {B : Nat} (e : w'.heap[B]? = w.heap[B]?) : w'.shape? B = w.shape? B := by simp [World.shape?, e]

/-- A new block that gets the next number. -/
def Mem.push (m : Mem) (w' : World) (n : Nat) (o : Nat) : Mem := ⟨w', upd m.loc n (some (m.w.heap.size, o)), m.good⟩
theorem ext_push {m : Mem} {h : Heap} (S : Sim m h) {w' : World} {ob : Obj} (p : Pushed m.w w' ob) (b : Blk) (o : Nat) : Ext m h (m.push w' h.length o) (h ++ [some b]) where
  os := p.os
  tape := p.tape
  output := p.output
  size := by show m.w.heap.size ≤ w'.heap.size; rw [p.size]; omega
  keep := fun B hB hn => by
    refine ⟨p.old hB, fun ⟨id, b', o', e, l⟩ => ?_⟩
    by_cases hid : id = h.length
    · subst hid; simp only [Mem.push, upd_same] at l; injection l with l; injection l with l; omega
    · rw [hget_push_ne hid] at e
      simp only [Mem.push, upd_ne _ _ hid] at l
      exact hn ⟨id, b', o', e, l⟩
  good := fun B k => k
  back := fun B k => .inl k
  len := by simp
  dead := fun id hi e => by rw [hget_push_ne (by omega)]; exact e
  live := fun id b1 b2 e1 e2 => by
    have hid : id ≠ h.length := by have := hget_lt e1; omega
    rw [hget_push_ne hid, e1] at e2; injection e2 with e2; subst e2
    refine ⟨by simp only [Mem.push, upd_ne _ _ hid], Blk.like_refl _, fun B o l => shape_of_heap (p.old ((S.blk id b1 e1).lt l))⟩
theorem sim_push {m : Mem} {h : Heap} (S : Sim m h) {w' : World} {ob : Obj} (p : Pushed m.w w' ob) (b : Blk) (o : Nat) (hb : BlkRel (m.push w' h.length o) (h ++ [some b]) h.length b) :
    Sim (m.push w' h.length o) (h ++ [some b]) := by
  refine S.of_ext (ext_push S p b o) (fun id b' e => ?_) (fun i j b1 b2 B o1 o2 e1 e2 l1 l2 => ?_) (fun i b1 B o1 e1 l1 => ?_) (fun B k => ?_)
  · by_cases hid : id = h.length
    · subst hid; rw [hget_push_new] at e; injection e with e; subst e; exact .inr hb
    · rw [hget_push_ne hid] at e
      exact .inl ⟨e, fun B o' l => p.old ((S.blk id b' e).lt l)⟩
  · by_cases hi : i = h.length
    · by_cases hj : j = h.length
      · rw [hi, hj]
      · subst hi
        rw [hget_push_ne hj] at e2
        simp only [Mem.push, upd_same] at l1; simp only [Mem.push, upd_ne _ _ hj] at l2
        injection l1 with l1; injection l1 with l1 _
        have := (S.blk j b2 e2).lt l2; omega
    · by_cases hj : j = h.length
      · subst hj
        rw [hget_push_ne hi] at e1
        simp only [Mem.push, upd_same] at l2; simp only [Mem.push, upd_ne _ _ hi] at l1
        injection l2 with l2; injection l2 with l2 _
        have := (S.blk i b1 e1).lt l1; omega
      · rw [hget_push_ne hi] at e1; rw [hget_push_ne hj] at e2
        simp only [Mem.push, upd_ne _ _ hi] at l1; simp only [Mem.push, upd_ne _ _ hj] at l2
        exact S.inj i j b1 b2 B o1 o2 e1 e2 l1 l2
  · by_cases hi : i = h.length
    · subst hi; simp only [Mem.push, upd_same] at l1; injection l1 with l1; injection l1 with l1 _
      intro k; have := S.lt B k; omega
    · rw [hget_push_ne hi] at e1; simp only [Mem.push, upd_ne _ _ hi] at l1
      exact S.sep i b1 B o1 e1 l1
  · have := S.lt B k; show B < w'.heap.size; rw [p.size]; omega

/-- The world changed in one block alone, which kept its size. -/
structure Wrote (w w' : World) (B : Nat) : Prop where
  other : ∀ k, k ≠ B → w'.heap[k]? = w.heap[k]?
  size : w'.heap.size = w.heap.size
  shape : w'.shape? B = w.shape? B
  os : w'.os = w.os
  tape : w'.tape = w.tape
  output : w'.output = w.output

theorem ext_wrote {m : Mem} {h : Heap} (S : Sim m h) {w' : World} {id : Nat} {b b' : Blk} {B o : Nat} (e : hget h id = some b) (hl : m.loc id = some (B, o)) (wr : Wrote m.w w' B) (hb : b.like b') :
    Ext m h ⟨w', m.loc, m.good⟩ (hset h id (some b')) where
  os := wr.os
  tape := wr.tape
  output := wr.output
  size := by show m.w.heap.size ≤ w'.heap.size; rw [wr.size]; omega
  keep := fun B' hB hn => by
    have hne : B' ≠ B := fun q => hn ⟨id, b, o, e, by rw [q]; exact hl⟩
    refine ⟨wr.other B' hne, fun ⟨i, b1, o1, e1, l1⟩ => ?_⟩
    by_cases hi : id = i
    · subst hi; exact hn ⟨id, b, o1, e, l1⟩
    · rw [hget_hset_ne hi] at e1; exact hn ⟨i, b1, o1, e1, l1⟩
  good := fun _ k => k
  back := fun _ k => .inl k
  len := by rw [hlen_hset]; exact Nat.le_refl _
  dead := fun i hi e1 => by
    have : id ≠ i := fun q => by subst q; rw [e] at e1; cases e1
    rw [hget_hset_ne this]; exact e1
  live := fun i b1 b2 e1 e2 => by
    refine ⟨rfl, ?_, fun B' o' l => ?_⟩
    · by_cases hi : id = i
      · subst hi; rw [hget_hset_same (hget_lt e)] at e2; injection e2 with e2; rw [e] at e1; injection e1 with e1; subst e1; subst e2; exact hb
      · rw [hget_hset_ne hi, e1] at e2; injection e2 with e2; subst e2; exact Blk.like_refl _
    · by_cases hB : B' = B
      · subst hB; exact wr.shape
      · exact shape_of_heap (wr.other B' hB)
theorem sim_wrote {m : Mem} {h : Heap} (S : Sim m h) {w' : World} {id : Nat} {b b' : Blk} {B o : Nat} (e : hget h id = some b) (hl : m.loc id = some (B, o)) (wr : Wrote m.w w' B) (hb : b.like b')
    (k : BlkRel ⟨w', m.loc, m.good⟩ (hset h id (some b')) id b') : Sim ⟨w', m.loc, m.good⟩ (hset h id (some b')) := by
  have back : ∀ i b1, hget (hset h id (some b')) i = some b1 → ∃ b2, hget h i = some b2 := fun i b1 e1 => by
    by_cases hi : id = i
    · subst hi; exact ⟨b, e⟩
    · rw [hget_hset_ne hi] at e1; exact ⟨b1, e1⟩
  refine S.of_ext (ext_wrote S e hl wr hb) (fun i b1 e1 => ?_) (fun i j b1 b2 B1 o1 o2 e1 e2 l1 l2 => ?_) (fun i b1 B1 o1 e1 l1 => ?_) (fun B1 k1 => ?_)
  · by_cases hi : id = i
    · subst hi; rw [hget_hset_same (hget_lt e)] at e1; injection e1 with e1; subst e1; exact .inr k
    · rw [hget_hset_ne hi] at e1
      refine .inl ⟨e1, fun B' o' l => wr.other B' (fun q => hi ?_)⟩
      subst q; exact S.inj id i b b1 B' o o' e e1 hl l
  · obtain ⟨c1, d1⟩ := back i b1 e1
    obtain ⟨c2, d2⟩ := back j b2 e2
    exact S.inj i j c1 c2 B1 o1 o2 d1 d2 l1 l2
  · obtain ⟨c1, d1⟩ := back i b1 e1
    exact S.sep i c1 B1 o1 d1 l1
  · have := S.lt B1 k1; show B1 < w'.heap.size; rw [wr.size]; exact this

/-- A block is let go. -/
theorem ext_kill (m : Mem) (h : Heap) (id : Nat) : Ext m h m (hset h id none) where
  os := rfl
  tape := rfl
  output := rfl
  size := Nat.le_refl _
  keep := fun B hB hn => ⟨rfl, fun ⟨i, b, o, e, l⟩ => by
    by_cases hi : id = i
    · subst hi
      by_cases hlt : id < h.length
      · rw [hget_hset_same hlt] at e; cases e
      · rw [hget_ge (by rw [hlen_hset]; omega)] at e; cases e
    · rw [hget_hset_ne hi] at e; exact hn ⟨i, b, o, e, l⟩⟩
  good := fun _ k => k
  back := fun _ k => .inl k
  len := by rw [hlen_hset]; exact Nat.le_refl _
  dead := fun i hi e => by rw [hget_hset]; split; rfl; exact e
  live := fun i b1 b2 e1 e2 => by
    rw [hget_hset] at e2
    split at e2
    · cases e2
    · rw [e1] at e2; injection e2 with e2; subst e2; exact ⟨rfl, Blk.like_refl _, fun _ _ _ => rfl⟩
theorem kill_get {h : Heap} {id i : Nat} {b : Blk} (e : hget (hset h id none) i = some b) : i ≠ id ∧ hget h i = some b := by
  rw [hget_hset] at e
  split at e
  · cases e
  · rename_i q
    refine ⟨fun k => ?_, e⟩
    subst k
    exact q ⟨rfl, hget_lt e⟩
theorem sim_kill {m : Mem} {h : Heap} (S : Sim m h) (id : Nat) : Sim m (hset h id none) := by
  refine S.of_ext (ext_kill m h id) (fun i b e => .inl ⟨(kill_get e).2, fun _ _ _ => rfl⟩) (fun i j b1 b2 B o1 o2 e1 e2 l1 l2 => S.inj i j b1 b2 B o1 o2 (kill_get e1).2 (kill_get e2).2 l1 l2)
    (fun i b B o e l => S.sep i b B o (kill_get e).2 l) (fun B k => S.lt B k)

/-- A block goes over into the frozen rows. -/
def Mem.frz (m : Mem) (B : Nat) : Mem := ⟨m.w, m.loc, fun k => m.good k ∨ k = B⟩
theorem ext_frz {m : Mem} {h : Heap} {id : Nat} {b : Blk} {B o : Nat} (e : hget h id = some b) (hl : m.loc id = some (B, o)) : Ext m h (m.frz B) (hset h id none) :=
  let E := ext_kill m h id
  { os := rfl, tape := rfl, output := rfl, size := Nat.le_refl _, keep := fun B' hB hn => ⟨rfl, fun ⟨i, b1, o1, e1, l1⟩ => (E.keep B' hB hn).2 ⟨i, b1, o1, e1, l1⟩⟩,
    good := fun _ k => .inl k, back := fun B' k => by
      rcases k with k | k
      · exact .inl k
      · subst k; exact .inr (.inl ⟨id, b, o, e, hl⟩)
    len := E.len, dead := E.dead, live := E.live }
theorem sim_frz {m : Mem} {h : Heap} (S : Sim m h) {id : Nat} {b : Blk} {B o : Nat} (e : hget h id = some b) (hl : m.loc id = some (B, o)) : Sim (m.frz B) (hset h id none) := by
  refine S.of_ext (ext_frz e hl) (fun i b1 e1 => .inl ⟨(kill_get e1).2, fun _ _ _ => rfl⟩) (fun i j b1 b2 B1 o1 o2 e1 e2 l1 l2 => S.inj i j b1 b2 B1 o1 o2 (kill_get e1).2 (kill_get e2).2 l1 l2)
    (fun i b1 B1 o1 e1 l1 k => ?_) (fun B1 k => ?_)
  · rcases k with k | k
    · exact S.sep i b1 B1 o1 (kill_get e1).2 l1 k
    · subst k; exact (kill_get e1).1 (S.inj i id b1 b B1 o1 o (kill_get e1).2 e l1 hl)
  · rcases k with k | k
    · exact S.lt B1 k
    · subst k; exact (S.blk id b e).lt hl

/-- A block changes its number, and is written. -/
def Mem.moved (m : Mem) (w' : World) (id n : Nat) : Mem := ⟨w', upd m.loc n (m.loc id), m.good⟩
theorem ext_moved {m : Mem} {h : Heap} (S : Sim m h) {w' : World} {id : Nat} {b b' : Blk} {B o : Nat} (e : hget h id = some b) (hl : m.loc id = some (B, o)) (wr : Wrote m.w w' B) :
    Ext m h (m.moved w' id h.length) (hset h id none ++ [some b']) where
  os := wr.os
  tape := wr.tape
  output := wr.output
  size := by show m.w.heap.size ≤ w'.heap.size; rw [wr.size]; omega
  keep := fun B' hB hn => by
    have hne : B' ≠ B := fun q => hn ⟨id, b, o, e, by rw [q]; exact hl⟩
    refine ⟨wr.other B' hne, fun ⟨i, b1, o1, e1, l1⟩ => ?_⟩
    by_cases hi : i = h.length
    · subst hi; simp only [Mem.moved, upd_same, hl] at l1; injection l1 with l1; injection l1 with l1; exact hne l1.symm
    · rw [hget_push_ne (by rw [hlen_hset]; exact hi)] at e1
      simp only [Mem.moved, upd_ne _ _ hi] at l1
      exact hn ⟨i, b1, o1, (kill_get e1).2, l1⟩
  good := fun _ k => k
  back := fun _ k => .inl k
  len := by simp [hlen_hset]
  dead := fun i hi e1 => by
    rw [hget_push_ne (by rw [hlen_hset]; omega)]
    exact (ext_kill m h id).dead i hi e1
  live := fun i b1 b2 e1 e2 => by
    have hi : i ≠ h.length := by have := hget_lt e1; omega
    rw [hget_push_ne (by rw [hlen_hset]; exact hi)] at e2
    obtain ⟨q, e2⟩ := kill_get e2
    rw [e1] at e2; injection e2 with e2; subst e2
    refine ⟨by simp only [Mem.moved, upd_ne _ _ hi], Blk.like_refl _, fun B' o' l => shape_of_heap (wr.other B' (fun k => q ?_))⟩
    subst k; exact S.inj i id b1 b B' o' o e1 e l hl
theorem sim_moved {m : Mem} {h : Heap} (S : Sim m h) {w' : World} {id : Nat} {b b' : Blk} {B o : Nat} (e : hget h id = some b) (hl : m.loc id = some (B, o)) (wr : Wrote m.w w' B)
    (k : BlkRel (m.moved w' id h.length) (hset h id none ++ [some b']) h.length b') : Sim (m.moved w' id h.length) (hset h id none ++ [some b']) := by
  have hlen : (hset h id none).length = h.length := hlen_hset _ _ _
  have get : ∀ i b1, hget (hset h id none ++ [some b']) i = some b1 → (i = h.length ∧ b1 = b') ∨ (i ≠ h.length ∧ i ≠ id ∧ hget h i = some b1) := fun i b1 e1 => by
    by_cases hi : i = h.length
    · subst hi; rw [← hlen, hget_push_new] at e1; injection e1 with e1; exact .inl ⟨rfl, e1.symm⟩
    · rw [hget_push_ne (by rw [hlen]; exact hi)] at e1
      exact .inr ⟨hi, kill_get e1⟩
  refine S.of_ext (ext_moved S e hl wr) (fun i b1 e1 => ?_) (fun i j b1 b2 B1 o1 o2 e1 e2 l1 l2 => ?_) (fun i b1 B1 o1 e1 l1 => ?_) (fun B1 k1 => ?_)
  · rcases get i b1 e1 with ⟨rfl, rfl⟩ | ⟨h1, h2, h3⟩
    · exact .inr k
    · refine .inl ⟨h3, fun B' o' l => wr.other B' (fun q => h2 ?_)⟩
      subst q; exact S.inj i id b1 b B' o' o h3 e l hl
  · rcases get i b1 e1 with ⟨rfl, rfl⟩ | ⟨h1, h2, h3⟩
    · rcases get j b2 e2 with ⟨rfl, rfl⟩ | ⟨g1, g2, g3⟩
      · rfl
      · simp only [Mem.moved, upd_same] at l1; simp only [Mem.moved, upd_ne _ _ g1] at l2
        exact absurd (S.inj j id b2 b B1 o2 o1 g3 e l2 l1) g2
    · simp only [Mem.moved, upd_ne _ _ h1] at l1
      rcases get j b2 e2 with ⟨rfl, rfl⟩ | ⟨g1, g2, g3⟩
      · simp only [Mem.moved, upd_same] at l2
        exact absurd (S.inj i id b1 b B1 o1 o2 h3 e l1 l2) h2
      · simp only [Mem.moved, upd_ne _ _ g1] at l2
        exact S.inj i j b1 b2 B1 o1 o2 h3 g3 l1 l2
  · rcases get i b1 e1 with ⟨rfl, rfl⟩ | ⟨h1, h2, h3⟩
    · simp only [Mem.moved, upd_same] at l1
      exact S.sep id b B1 o1 e l1
    · simp only [Mem.moved, upd_ne _ _ h1] at l1
      exact S.sep i b1 B1 o1 h3 l1
  · have := S.lt B1 k1; show B1 < w'.heap.size; rw [wr.size]; exact this

end Go.Proofs.YtklfdmnmiadgpaaAbs
