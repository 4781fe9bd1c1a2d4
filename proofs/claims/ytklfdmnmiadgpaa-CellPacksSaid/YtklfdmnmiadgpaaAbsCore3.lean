/- What the abstract values mean in the model's memory. -/
import Derived.Test.YtklfdmnmiadgpaaAbsCore2
namespace Go.Proofs.YtklfdmnmiadgpaaAbs
set_option linter.unusedVariables false
set_option linter.unusedSimpArgs false
open Go

/-! ### heaps as lists -/
theorem hget_hset (h : Heap) (i j : Nat) (b : Option Blk) : hget (hset h i b) j = if i = j ∧ i < h.length then b else hget h j := by
  induction h generalizing i j with
  | nil => simp [hset, hget]
  | cons a h ih =>
    cases i with
    | zero => cases j <;> simp [hset, hget]
    | succ i => cases j with
      | zero => simp [hset, hget]
      | succ j => simp [hset, hget, ih]
theorem hlen_hset (h : Heap) (i : Nat) (b : Option Blk) : (hset h i b).length = h.length := by
  induction h generalizing i with
  | nil => rfl
  | cons a h ih => cases i <;> simp [hset, ih]
theorem hget_lt {h : Heap} {i : Nat} {b : Blk} (e : hget h i = some b) : i < h.length := by
  induction h generalizing i with
  | nil => simp [hget] at e
  | cons a h ih => cases i with
    | zero => simp
    | succ i => simp only [hget] at e; have := ih e; simp; omega
theorem hget_ge {h : Heap} {i : Nat} (e : h.length ≤ i) : hget h i = none := by
  cases q : hget h i with
  | none => rfl
  | some b => have := hget_lt q; omega
theorem hget_push (h : Heap) (x : Option Blk) (j : Nat) : hget (h ++ [x]) j = if j = h.length then x else hget h j := by
  induction h generalizing j with
  | nil => cases j <;> simp [hget]
  | cons a h ih => cases j with
    | zero => simp [hget]
    | succ j => simp [hget, ih]
theorem hget_push_ne {h : Heap} {x : Option Blk} {j : Nat} (e : j ≠ h.length) : hget (h ++ [x]) j = hget h j := by rw [hget_push, if_neg e]
theorem hget_push_new (h : Heap) (x : Option Blk) : hget (h ++ [x]) h.length = x := by rw [hget_push, if_pos rfl]
theorem hget_hset_ne {h : Heap} {i j : Nat} {b : Option Blk} (e : i ≠ j) : hget (hset h i b) j = hget h j := by rw [hget_hset, if_neg (fun q => e q.1)]
theorem hget_hset_same {h : Heap} {i : Nat} {b : Option Blk} (e : i < h.length) : hget (hset h i b) i = b := by rw [hget_hset, if_pos ⟨rfl, e⟩]

/-! ### temporaries -/
theorem tget_ge {T : List AV} {i : Nat} (e : T.length ≤ i) : tget T i = .any := by
  induction T generalizing i with
  | nil => rfl
  | cons a T ih => cases i with
    | zero => simp at e
    | succ i => simp only [tget]; exact ih (by simp at e; omega)
theorem tget_eq {T : List AV} {i : Nat} (e : i < T.length) : tget T i = T[i] := by
  induction T generalizing i with
  | nil => simp at e
  | cons a T ih => cases i with
    | zero => rfl
    | succ i => simp only [tget, List.getElem_cons_succ]; exact ih (by simp at e; omega)
theorem tset_eq (T : List AV) (i : Nat) (v : AV) : tset T i v = T.set i v := by
  induction T generalizing i with
  | nil => rfl
  | cons a T ih => cases i <;> simp [tset, ih]

/-! ### rows in memory -/
def RepAll {α : Type} (p : α → List Value → Prop) : List α → List Value → Prop
  | [], vs => vs = []
  | x :: l, vs => ∃ cs rest, vs = cs ++ rest ∧ p x cs ∧ RepAll p l rest

theorem RepAll.mono {α : Type} {p q : α → List Value → Prop} (h : ∀ x cs, p x cs → q x cs) : {l : List α} → {vs : List Value} → RepAll p l vs → RepAll q l vs
  | [], vs, k => k
  | x :: l, vs, k => by
    obtain ⟨cs, rest, hv, h1, h2⟩ := k
    exact ⟨cs, rest, hv, h x cs h1, RepAll.mono h h2⟩
section
variable {α : Type} {p : α → List Value → Prop} {n : Nat}
theorem RepAll.length (hn : ∀ x cs, p x cs → cs.length = n) : {l : List α} → {vs : List Value} → RepAll p l vs → vs.length = l.length * n
  | [], vs, k => by simp only [RepAll] at k; subst k; simp
  | x :: l, vs, k => by
    obtain ⟨cs, rest, rfl, h1, h2⟩ := k
    simp [hn x cs h1, RepAll.length hn h2, Nat.add_mul, Nat.add_comm]
theorem RepAll.append : {l l' : List α} → {vs vs' : List Value} → RepAll p l vs → RepAll p l' vs' → RepAll p (l ++ l') (vs ++ vs')
  | [], l', vs, vs', k, k' => by simp only [RepAll] at k; subst k; exact k'
  | x :: l, l', vs, vs', k, k' => by
    obtain ⟨cs, rest, rfl, h1, h2⟩ := k
    exact ⟨cs, rest ++ vs', by simp, h1, RepAll.append h2 k'⟩
theorem RepAll.take (hn : ∀ x cs, p x cs → cs.length = n) : {l : List α} → {vs : List Value} → (k : Nat) → RepAll p l vs → RepAll p (l.take k) (vs.take (k * n))
  | [], vs, k, h => by simp only [RepAll] at h; subst h; simp [RepAll]
  | x :: l, vs, 0, h => by simp [RepAll]
  | x :: l, vs, k + 1, h => by
    obtain ⟨cs, rest, rfl, h1, h2⟩ := h
    have e := hn x cs h1
    refine ⟨cs, rest.take (k * n), ?_, h1, RepAll.take hn k h2⟩
    rw [Nat.add_mul, Nat.one_mul, Nat.add_comm (k * n) n, ← e]
    exact List.take_length_add_append _
theorem RepAll.drop (hn : ∀ x cs, p x cs → cs.length = n) : {l : List α} → {vs : List Value} → (k : Nat) → RepAll p l vs → RepAll p (l.drop k) (vs.drop (k * n))
  | [], vs, k, h => by simp only [RepAll] at h; subst h; simp [RepAll]
  | x :: l, vs, 0, h => by simpa using h
  | x :: l, vs, k + 1, h => by
    obtain ⟨cs, rest, rfl, h1, h2⟩ := h
    have e := hn x cs h1
    have := RepAll.drop hn k h2
    rw [Nat.add_mul, Nat.one_mul, Nat.add_comm (k * n) n]
    have e2 : List.drop (n + k * n) (cs ++ rest) = List.drop (k * n) rest := by rw [List.drop_append, List.drop_of_length_le (by omega), e, Nat.add_sub_cancel_left]; simp
    rw [e2]
    exact this
theorem RepAll.get (hn : ∀ x cs, p x cs → cs.length = n) {l : List α} {vs : List Value} (i : Nat) (h : RepAll p l vs) (hi : i < l.length) : p l[i] ((vs.drop (i * n)).take n) := by
  have k := RepAll.drop hn i h
  rw [List.drop_eq_getElem_cons hi] at k
  obtain ⟨cs, rest, hv, h1, h2⟩ := k
  rw [hv, ← hn _ cs h1, List.take_left]
  exact h1
theorem RepAll.set (hn : ∀ x cs, p x cs → cs.length = n) {l : List α} {vs : List Value} (i : Nat) (h : RepAll p l vs) (hi : i < l.length) (x : α) (cs : List Value) (hx : p x cs) : RepAll p (l.set i x) (vs.take (i * n) ++ cs ++ vs.drop (i * n + n)) := by
  have e : l.set i x = l.take i ++ x :: l.drop (i + 1) := by rw [List.set_eq_take_append_cons_drop, if_pos hi]
  rw [e, List.append_assoc]
  refine RepAll.append (RepAll.take hn i h) ⟨cs, _, rfl, hx, ?_⟩
  have := RepAll.drop hn (i + 1) h
  rwa [Nat.add_mul, Nat.one_mul] at this
theorem RepAll.one {x : α} {cs : List Value} (h : p x cs) : RepAll p [x] cs := ⟨cs, [], by simp, h, rfl⟩
end

structure Mem where
  w : World
  loc : Nat → Option (Nat × Nat)
  good : Nat → Prop

/-- From a place on these values lie in memory. -/
def Lies (w : World) (B o : Nat) (vs : List Value) : Prop := ∃ c e fr t, w.heap[B]? = some (.cells c e fr) ∧ c.toList.drop o = vs ++ t

mutual
def CTy.rep (w : World) (g : Nat → Prop) : (c : CTy) → c.den → Value → Prop
  | .int k, n, v => v = .int k n ∧ u8ok k n = true
  | .bool, b, v => v = .bool b
  | .str, l, v => ∃ s, v = .string s ∧ bytesOf s = l
  | .slice r, l, v => ∃ a n c, v = .slice a n c ∧ n = List.length l ∧ n ≤ c ∧ (l = [] ∨ ∃ B o vs, a = some ⟨B, o, none⟩ ∧ g B ∧ RepAll (fun x cs => Row.rep w g r x cs) l vs ∧ Lies w B o vs)
def Row.rep (w : World) (g : Nat → Prop) : (r : Row) → r.den → List Value → Prop
  | .one c, x, cs => ∃ v, cs = [v] ∧ CTy.rep w g c x v
  | .cons c r, x, cs => ∃ v vs, cs = v :: vs ∧ CTy.rep w g c x.1 v ∧ Row.rep w g r x.2 vs
end

theorem CTy.rep_oneCell {w : World} {g : Nat → Prop} : (c : CTy) → (x : c.den) → (v : Value) → c.rep w g x v → v.oneCell' = true
  | .int k, n, v, h => by simp only [CTy.rep] at h; rw [h.1]; rfl
  | .bool, b, v, h => by simp only [CTy.rep] at h; rw [h]; rfl
  | .str, l, v, h => by simp only [CTy.rep] at h; obtain ⟨s, rfl, _⟩ := h; rfl
  | .slice r, l, v, h => by simp only [CTy.rep] at h; obtain ⟨a, n, c, rfl, _⟩ := h; rfl
theorem Row.rep_length {w : World} {g : Nat → Prop} : (r : Row) → (x : r.den) → (vs : List Value) → r.rep w g x vs → vs.length = r.size
  | .one c, x, vs, h => by simp only [Row.rep] at h; obtain ⟨v, rfl, _⟩ := h; rfl
  | .cons c r, x, vs, h => by
    simp only [Row.rep] at h; obtain ⟨v, vs', rfl, _, h2⟩ := h
    simp [Row.size, Row.rep_length r x.2 vs' h2]
theorem Row.rep_oneCell {w : World} {g : Nat → Prop} : (r : Row) → (x : r.den) → (vs : List Value) → r.rep w g x vs → ∀ v ∈ vs, v.oneCell' = true
  | .one c, x, vs, h => by
    simp only [Row.rep] at h; obtain ⟨v, rfl, hv⟩ := h
    intro u hu; simp at hu; subst hu; exact CTy.rep_oneCell c x u hv
  | .cons c r, x, vs, h => by
    simp only [Row.rep] at h; obtain ⟨v, vs', rfl, h1, h2⟩ := h
    intro u hu
    rcases List.mem_cons.1 hu with rfl | hu
    · exact CTy.rep_oneCell c x.1 u h1
    · exact Row.rep_oneCell r x.2 vs' h2 u hu
theorem RepAll.oneCell {w : World} {g : Nat → Prop} {r : Row} : {l : List r.den} → {vs : List Value} → RepAll (fun x cs => r.rep w g x cs) l vs → ∀ v ∈ vs, v.oneCell' = true
  | [], vs, h => by simp only [RepAll] at h; subst h; simp
  | x :: l, vs, h => by
    obtain ⟨cs, rest, rfl, h1, h2⟩ := h
    intro v hv
    rcases List.mem_append.1 hv with hv | hv
    · exact Row.rep_oneCell r x cs h1 v hv
    · exact RepAll.oneCell h2 v hv
theorem Row.size_pos (r : Row) : 0 < r.size := by cases r <;> simp [Row.size]

mutual
theorem CTy.rep_mono {w w' : World} {g g' : Nat → Prop} (hg : ∀ B, g B → g' B ∧ w'.heap[B]? = w.heap[B]?) : (c : CTy) → (x : c.den) → (v : Value) → c.rep w g x v → c.rep w' g' x v
  | .int k, n, v, h => h
  | .bool, b, v, h => h
  | .str, l, v, h => h
  | .slice r, l, v, h => by
    simp only [CTy.rep] at h ⊢
    obtain ⟨a, n, c, hv, hn, hc, h⟩ := h
    refine ⟨a, n, c, hv, hn, hc, ?_⟩
    rcases h with h | ⟨B, o, vs, ha, hB, hr, c', e, fr, t, hc', ht⟩
    · exact .inl h
    · exact .inr ⟨B, o, vs, ha, (hg B hB).1, RepAll.mono (fun x cs => Row.rep_mono hg r x cs) hr, c', e, fr, t, by rw [(hg B hB).2]; exact hc', ht⟩
theorem Row.rep_mono {w w' : World} {g g' : Nat → Prop} (hg : ∀ B, g B → g' B ∧ w'.heap[B]? = w.heap[B]?) : (r : Row) → (x : r.den) → (vs : List Value) → r.rep w g x vs → r.rep w' g' x vs
  | .one c, x, vs, h => by
    simp only [Row.rep] at h ⊢; obtain ⟨v, hv, h⟩ := h
    exact ⟨v, hv, CTy.rep_mono hg c x v h⟩
  | .cons c r, x, vs, h => by
    simp only [Row.rep] at h ⊢; obtain ⟨v, vs', hv, h1, h2⟩ := h
    exact ⟨v, vs', hv, CTy.rep_mono hg c x.1 v h1, Row.rep_mono hg r x.2 vs' h2⟩
end

/-! ### values -/
mutual
def Rel (m : Mem) (h : Heap) : AV → Value → Prop
  | .any, _ => True
  | .bool b, v => v = .bool b
  | .int k n, v => v = .int k n ∧ u8ok k n = true
  | .str l, v => CTy.rep m.w m.good .str l v
  | .list r l nn, v => CTy.rep m.w m.good (.slice r) l v ∧ (nn = true → ∃ a n c, v = .slice (some a) n c)
  | .nils, v => v = .slice none 0 0
  | .zcap, v => ∃ a, v = .slice a 0 0
  | .own id, v => (id < h.length ∧ v.oneCell' = true) ∧ ∀ et r l, hget h id = some (.arr et r l) →
      (l = [] ∧ m.loc id = none ∧ ∃ a, v = .slice a 0 0) ∨
      ∃ B o cap, m.loc id = some (B, o) ∧ v = .slice (some ⟨B, o, none⟩) (List.length l) cap ∧ List.length l ≤ cap ∧ ∃ e n, m.w.shape? B = some (e, n) ∧ o + cap * r.size ≤ n
  | .msl id off len, v => (id < h.length ∧ v.oneCell' = true) ∧ ∀ et r l, hget h id = some (.arr et r l) →
      ∃ a cap, v = .slice a len cap ∧ len ≤ cap ∧ off + len ≤ List.length l ∧ List.length l ≤ off + cap ∧ (cap = 0 ∨ ∃ B o, m.loc id = some (B, o) ∧ a = some ⟨B, o + off * r.size, none⟩)
  | .nilptr, v => v = .pointer none
  | .ptr id off, v => (id < h.length ∧ v.oneCell' = true) ∧ ∀ vt cs, hget h id = some (.var vt cs) → ∃ B, m.loc id = some (B, 0) ∧ v = .pointer (some ⟨B, off, none⟩)
  | .eptr id ix j, v => (id < h.length ∧ v.oneCell' = true) ∧ ∀ et r l, hget h id = some (.arr et r l) → ∃ B o, m.loc id = some (B, o) ∧ v = .pointer (some ⟨B, o + ix * r.size + j, none⟩) ∧ ix < List.length l
  | .rptr cs, v => ∃ B o vs, v = .pointer (some ⟨B, o, none⟩) ∧ m.good B ∧ RelL m h true cs vs ∧ Lies m.w B o vs
  | .fn f cs, v => ∃ vs, v = .func (.func f) #[] vs.toArray ∧ RelL m h false cs vs
  | .iter id, v => (id < h.length ∧ v.oneCell' = true) ∧ ∀ l p, hget h id = some (.siter l p) → ∃ B, m.loc id = some (B, 0) ∧ v = .pointer (some ⟨B, 0, none⟩)
  | .mapv id, v => (id < h.length ∧ v.oneCell' = true) ∧ ∀ ka rk c es, hget h id = some (.map ka rk c es) → ∃ B, m.loc id = some (B, 0) ∧ v = .map (some B)
  | .agg cs, v => ∃ vs, v = .agg vs.toArray ∧ RelL m h true cs vs
  | .tup cs, v => ∃ vs, v = .tuple vs.toArray ∧ RelL m h false cs vs
def RelL (m : Mem) (h : Heap) (one : Bool) : List AV → List Value → Prop
  | [], vs => vs = []
  | c :: cs, vs => ∃ v rest, vs = v :: rest ∧ Rel m h c v ∧ (one = true → v.oneCell' = true) ∧ RelL m h one cs rest
end

theorem msl_old {v : Value} {n len off z : Nat} {lc : Option (Nat × Nat)} (h : ∃ a cap, v = .slice a len cap ∧ len ≤ cap ∧ off + len ≤ n ∧ n ≤ off + cap ∧ (cap = 0 ∨ ∃ B o, lc = some (B, o) ∧ a = some ⟨B, o + off * z, none⟩)) :
    ∃ a cap, v = .slice a len cap ∧ len ≤ cap ∧ off + len ≤ n ∧ (len = 0 ∨ ∃ B o, lc = some (B, o) ∧ a = some ⟨B, o + off * z, none⟩) := by
  obtain ⟨a, cap, h1, h2, h3, _, h4⟩ := h
  exact ⟨a, cap, h1, h2, h3, h4.imp (fun k => by omega) id⟩

def AggIs (ka : Bool) (v : Value) : Prop := match ka with
  | true => ∃ cs, v = .agg cs
  | false => v.cells = #[v]
/-- A map's entries, in the order of their birth. -/
def EntAll {α : Type} (p : α → MapEntry → Prop) : List α → List MapEntry → Nat → Prop
  | [], es, _ => es = []
  | x :: l, es, n => ∃ e rest, es = e :: rest ∧ p x e ∧ e.born = n ∧ EntAll p l rest (n + 1)
theorem EntAll.mono {α : Type} {p q : α → MapEntry → Prop} (h : ∀ x e, p x e → q x e) : {l : List α} → {es : List MapEntry} → {n : Nat} → EntAll p l es n → EntAll q l es n
  | [], _, _, k => k
  | x :: l, es, n, k => by
    obtain ⟨e, rest, h1, h2, h3, h4⟩ := k
    exact ⟨e, rest, h1, h x e h2, h3, EntAll.mono h h4⟩
def EntRep (w : World) (g : Nat → Prop) (ka : Bool) (rk : Row) (c : CTy) (x : rk.den × c.den) (e : MapEntry) : Prop :=
  (rk.rep w g x.1 e.key.cells.toList ∧ AggIs ka e.key) ∧ c.rep w g x.2 e.val
theorem EntRep.mono {w w' : World} {g g' : Nat → Prop} (hg : ∀ B, g B → g' B ∧ w'.heap[B]? = w.heap[B]?) {ka : Bool} {rk : Row} {c : CTy} (x : rk.den × c.den) (e : MapEntry) (k : EntRep w g ka rk c x e) : EntRep w' g' ka rk c x e :=
  ⟨⟨Row.rep_mono hg rk x.1 _ k.1.1, k.1.2⟩, CTy.rep_mono hg c x.2 _ k.2⟩

def BlkRel (m : Mem) (h : Heap) (id : Nat) : Blk → Prop
  | .var vt cs => ∃ B c, m.loc id = some (B, 0) ∧ m.w.heap[B]? = some (.cells c vt (0, 0)) ∧ RelL m h true cs c.toList
  | .arr et r l => (l = [] ∧ m.loc id = none) ∨ ∃ B o c vs t, m.loc id = some (B, o) ∧ m.w.heap[B]? = some (.cells c et (0, 0)) ∧ o ≤ c.size ∧ c.toList.drop o = vs ++ t ∧ RepAll (fun x cs => r.rep m.w m.good x cs) l vs
  | .siter l pos => ∃ B s, m.loc id = some (B, 0) ∧ m.w.heap[B]? = some (.stringIter s pos) ∧ bytesOf s = l
  | .map ka rk c es => ∃ B mes, m.loc id = some (B, 0) ∧ m.w.heap[B]? = some (.map mes mes.size) ∧ EntAll (EntRep m.w m.good ka rk c) es mes.toList 0

structure Sim (m : Mem) (h : Heap) : Prop where
  blk : ∀ id b, hget h id = some b → BlkRel m h id b
  inj : ∀ i j b b' B o o', hget h i = some b → hget h j = some b' → m.loc i = some (B, o) → m.loc j = some (B, o') → i = j
  sep : ∀ i b B o, hget h i = some b → m.loc i = some (B, o) → ¬ m.good B
  lt : ∀ B, m.good B → B < m.w.heap.size

def Owned (m : Mem) (h : Heap) (B : Nat) : Prop := ∃ id b o, hget h id = some b ∧ m.loc id = some (B, o)

def Blk.like : Blk → Blk → Prop
  | .var t a, .var u b => t = u ∧ a.length = b.length
  | .arr t r l, .arr u s k => t = u ∧ r = s ∧ List.length l = List.length k
  | .siter l _, .siter k _ => l = k
  | .map a r c _, .map b s d _ => a = b ∧ r = s ∧ c = d
  | _, _ => False
theorem Blk.like_refl (b : Blk) : b.like b := by cases b <;> simp [Blk.like]
theorem Blk.like_trans {a b c : Blk} (h : a.like b) (k : b.like c) : a.like c := by
  cases a <;> cases b <;> cases c <;> simp_all [Blk.like]

structure Ext (m : Mem) (h : Heap) (m' : Mem) (h' : Heap) : Prop where
  os : m'.w.os = m.w.os
  tape : m'.w.tape = m.w.tape
  output : m'.w.output = m.w.output
  size : m.w.heap.size ≤ m'.w.heap.size
  keep : ∀ B, B < m.w.heap.size → ¬ Owned m h B → m'.w.heap[B]? = m.w.heap[B]? ∧ ¬ Owned m' h' B
  good : ∀ B, m.good B → m'.good B
  back : ∀ B, m'.good B → m.good B ∨ Owned m h B ∨ m.w.heap.size ≤ B
  len : h.length ≤ h'.length
  dead : ∀ id, id < h.length → hget h id = none → hget h' id = none
  live : ∀ id b b', hget h id = some b → hget h' id = some b' → m'.loc id = m.loc id ∧ b.like b' ∧ ∀ B o, m.loc id = some (B, o) → m'.w.shape? B = m.w.shape? B

theorem Ext.refl (m : Mem) (h : Heap) : Ext m h m h :=
  ⟨rfl, rfl, rfl, Nat.le_refl _, fun _ _ k => ⟨rfl, k⟩, fun _ k => k, fun _ k => .inl k, Nat.le_refl _, fun _ _ k => k,
   fun id b b' e e' => by rw [e] at e'; injection e' with e'; subst e'; exact ⟨rfl, Blk.like_refl b, fun _ _ _ => rfl⟩⟩

theorem Ext.mid {m m' : Mem} {h h' : Heap} (E : Ext m h m' h') {id : Nat} (hi : id < h.length) {b' : Blk} (e : hget h' id = some b') : ∃ b, hget h id = some b := by
  cases q : hget h id with
  | some b => exact ⟨b, rfl⟩
  | none => have := E.dead id hi q; rw [this] at e; cases e

theorem Ext.trans {m m' m'' : Mem} {h h' h'' : Heap} (E : Ext m h m' h') (F : Ext m' h' m'' h'') : Ext m h m'' h'' where
  os := F.os.trans E.os
  tape := F.tape.trans E.tape
  output := F.output.trans E.output
  size := Nat.le_trans E.size F.size
  keep := fun B hB hn => by
    have a := E.keep B hB hn
    have b := F.keep B (Nat.lt_of_lt_of_le hB E.size) a.2
    exact ⟨b.1.trans a.1, b.2⟩
  good := fun B k => F.good B (E.good B k)
  back := fun B k => by
    by_cases hs : m.w.heap.size ≤ B
    · exact .inr (.inr hs)
    by_cases ho : Owned m h B
    · exact .inr (.inl ho)
    rcases F.back B k with k | k | k
    · exact E.back B k
    · exact absurd k (E.keep B (by omega) ho).2
    · exact .inr (.inr (Nat.le_trans E.size k))
  len := Nat.le_trans E.len F.len
  dead := fun id hi e => F.dead id (Nat.lt_of_lt_of_le hi E.len) (E.dead id hi e)
  live := fun id b b'' e e'' => by
    obtain ⟨b', e'⟩ := F.mid (Nat.lt_of_lt_of_le (hget_lt e) E.len) e''
    obtain ⟨a1, a2, a3⟩ := E.live id b b' e e'
    obtain ⟨c1, c2, c3⟩ := F.live id b' b'' e' e''
    exact ⟨c1.trans a1, Blk.like_trans a2 c2, fun B o k => (c3 B o (a1.trans k)).trans (a3 B o k)⟩

/-- What frozen rows hold stays. -/
theorem Ext.frozen {m m' : Mem} {h h' : Heap} (S : Sim m h) (E : Ext m h m' h') (B : Nat) (k : m.good B) : m'.good B ∧ m'.w.heap[B]? = m.w.heap[B]? :=
  ⟨E.good B k, (E.keep B (S.lt B k) (fun ⟨i, b, o, e, l⟩ => S.sep i b B o e l k)).1⟩

theorem Ext.arr {m m' : Mem} {h h' : Heap} (E : Ext m h m' h') {id : Nat} (hi : id < h.length) {et : TypeId} {r : Row} {l : List r.den} (e : hget h' id = some (.arr et r l)) :
    ∃ l0 : List r.den, hget h id = some (.arr et r l0) ∧ l0.length = l.length ∧ m'.loc id = m.loc id ∧ ∀ B o, m.loc id = some (B, o) → m'.w.shape? B = m.w.shape? B := by
  obtain ⟨b, eb⟩ := E.mid hi e
  obtain ⟨h1, h2, h3⟩ := E.live id b _ eb e
  cases b with
  | var vt cs => exact h2.elim
  | siter _ _ => exact h2.elim
  | map _ _ _ _ => exact h2.elim
  | arr et0 s l0 =>
    obtain ⟨rfl, rfl, h2⟩ := h2
    exact ⟨l0, eb, h2, h1, h3⟩

mutual
theorem Rel.mono {m m' : Mem} {h h' : Heap} (S : Sim m h) (E : Ext m h m' h') : (a : AV) → (v : Value) → Rel m h a v → Rel m' h' a v
  | .any, v, k => trivial
  | .bool b, v, k => k
  | .int _ n, v, k => k
  | .str l, v, k => k
  | .list r l nn, v, k => ⟨CTy.rep_mono (E.frozen S) (.slice r) l v k.1, k.2⟩
  | .nils, v, k => k
  | .zcap, v, k => k
  | .own id, v, k => by
    simp only [Rel] at k ⊢
    refine ⟨⟨Nat.lt_of_lt_of_le k.1.1 E.len, k.1.2⟩, fun et r l e => ?_⟩
    obtain ⟨l0, e0, hl, hloc, hsh⟩ := E.arr k.1.1 e
    rcases k.2 _ r l0 e0 with ⟨h1, h2, h3⟩ | ⟨B, o, cap, h1, h2, h3, e', n, h4, h5⟩
    · subst h1; exact .inl ⟨List.eq_nil_of_length_eq_zero hl.symm, by rw [hloc]; exact h2, h3⟩
    · exact .inr ⟨B, o, cap, by rw [hloc]; exact h1, by rw [← hl]; exact h2, by rw [← hl]; exact h3, e', n, by rw [hsh B o h1]; exact h4, h5⟩
  | .msl id off len, v, k => by
    simp only [Rel] at k ⊢
    refine ⟨⟨Nat.lt_of_lt_of_le k.1.1 E.len, k.1.2⟩, fun et r l e => ?_⟩
    obtain ⟨l0, e0, hl, hloc, hsh⟩ := E.arr k.1.1 e
    obtain ⟨a, cap, h1, h2, h3, h5, h4⟩ := k.2 _ r l0 e0
    refine ⟨a, cap, h1, h2, by rw [← hl]; exact h3, by rw [← hl]; exact h5, ?_⟩
    rw [hloc]; exact h4
  | .nilptr, v, k => k
  | .ptr id off, v, k => by
    simp only [Rel] at k ⊢
    refine ⟨⟨Nat.lt_of_lt_of_le k.1.1 E.len, k.1.2⟩, fun vt cs e => ?_⟩
    obtain ⟨b, eb⟩ := E.mid k.1.1 e
    obtain ⟨h1, h2, h3⟩ := E.live id b _ eb e
    cases b with
    | arr _ _ _ => exact h2.elim
    | siter _ _ => exact h2.elim
    | map _ _ _ _ => exact h2.elim
    | var vt0 cs0 => rw [h1]; have := h2.1; exact k.2 _ cs0 eb
  | .eptr id ix j, v, k => by
    simp only [Rel] at k ⊢
    refine ⟨⟨Nat.lt_of_lt_of_le k.1.1 E.len, k.1.2⟩, fun et r l e => ?_⟩
    obtain ⟨l0, e0, hl, hloc, hsh⟩ := E.arr k.1.1 e
    rw [hloc, ← hl]; exact k.2 _ r l0 e0
  | .rptr cs, v, k => by
    simp only [Rel] at k ⊢
    obtain ⟨B, o, vs, h1, h2, h3, c, e, fr, t, h4, h5⟩ := k
    have q := E.frozen S B h2
    exact ⟨B, o, vs, h1, q.1, RelL.mono S E true cs vs h3, c, e, fr, t, by rw [q.2]; exact h4, h5⟩
  | .fn f cs, v, k => by
    simp only [Rel] at k ⊢
    obtain ⟨vs, h1, h2⟩ := k
    exact ⟨vs, h1, RelL.mono S E false cs vs h2⟩
  | .iter id, v, k => by
    simp only [Rel] at k ⊢
    refine ⟨⟨Nat.lt_of_lt_of_le k.1.1 E.len, k.1.2⟩, fun l p e => ?_⟩
    obtain ⟨b, eb⟩ := E.mid k.1.1 e
    obtain ⟨h1, h2, h3⟩ := E.live id b _ eb e
    cases b with
    | arr _ _ _ => exact h2.elim
    | var _ _ => exact h2.elim
    | map _ _ _ _ => exact h2.elim
    | siter l0 p0 => rw [h1]; exact k.2 l0 p0 eb
  | .mapv id, v, k => by
    simp only [Rel] at k ⊢
    refine ⟨⟨Nat.lt_of_lt_of_le k.1.1 E.len, k.1.2⟩, fun ka rk c es e => ?_⟩
    obtain ⟨b, eb⟩ := E.mid k.1.1 e
    obtain ⟨h1, h2, h3⟩ := E.live id b _ eb e
    cases b with
    | arr _ _ _ => exact h2.elim
    | var _ _ => exact h2.elim
    | siter _ _ => exact h2.elim
    | map ka0 rk0 c0 es0 => rw [h1]; exact k.2 ka0 rk0 c0 es0 eb
  | .agg cs, v, k => by
    simp only [Rel] at k ⊢
    obtain ⟨vs, h1, h2⟩ := k
    exact ⟨vs, h1, RelL.mono S E true cs vs h2⟩
  | .tup cs, v, k => by
    simp only [Rel] at k ⊢
    obtain ⟨vs, h1, h2⟩ := k
    exact ⟨vs, h1, RelL.mono S E false cs vs h2⟩
theorem RelL.mono {m m' : Mem} {h h' : Heap} (S : Sim m h) (E : Ext m h m' h') (one : Bool) : (cs : List AV) → (vs : List Value) → RelL m h one cs vs → RelL m' h' one cs vs
  | [], vs, k => k
  | c :: cs, vs, k => by
    simp only [RelL] at k ⊢
    obtain ⟨v, rest, h1, h2, h3, h4⟩ := k
    exact ⟨v, rest, h1, Rel.mono S E c v h2, h3, RelL.mono S E one cs rest h4⟩
end

end Go.Proofs.YtklfdmnmiadgpaaAbs
