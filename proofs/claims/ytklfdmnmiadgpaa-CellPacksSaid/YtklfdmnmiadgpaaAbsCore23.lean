/- Bytes seen as a string. -/
import Derived.Test.YtklfdmnmiadgpaaAbsCore14
namespace Go.Proofs.YtklfdmnmiadgpaaAbs
set_option linter.unusedVariables false
set_option linter.unusedSimpArgs false
open Go

/-- A block is let go and what lies in it turns. -/
theorem ext_killw {m : Mem} {h : Heap} (S : Sim m h) {w' : World} {id : Nat} {b : Blk} {B o : Nat} (e : hget h id = some b) (hl : m.loc id = some (B, o)) (wr : Wrote m.w w' B) :
    Ext m h ⟨w', m.loc, m.good⟩ (hset h id none) where
  os := wr.os
  tape := wr.tape
  output := wr.output
  size := by show m.w.heap.size ≤ w'.heap.size; rw [wr.size]; omega
  keep := fun B' hB hn => by
    have hne : B' ≠ B := fun q => hn ⟨id, b, o, e, by rw [q]; exact hl⟩
    exact ⟨wr.other B' hne, fun ⟨i, b1, o1, e1, l1⟩ => hn ⟨i, b1, o1, (kill_get e1).2, l1⟩⟩
  good := fun _ k => k
  back := fun _ k => .inl k
  len := by rw [hlen_hset]; exact Nat.le_refl _
  dead := fun i hi e1 => by rw [hget_hset]; split; rfl; exact e1
  live := fun i b1 b2 e1 e2 => by
    obtain ⟨k1, k2⟩ := kill_get e2
    rw [e1] at k2; injection k2 with k2; subst k2
    refine ⟨rfl, Blk.like_refl _, fun B' o' l => ?_⟩
    by_cases hB : B' = B
    · subst hB; exact wr.shape
    · exact shape_of_heap (wr.other B' hB)
theorem sim_killw {m : Mem} {h : Heap} (S : Sim m h) {w' : World} {id : Nat} {b : Blk} {B o : Nat} (e : hget h id = some b) (hl : m.loc id = some (B, o)) (wr : Wrote m.w w' B) : Sim ⟨w', m.loc, m.good⟩ (hset h id none) := by
  refine S.of_ext (ext_killw S e hl wr) (fun i b1 e1 => .inl ⟨(kill_get e1).2, fun B' o' l => ?_⟩) (fun i j b1 b2 B o1 o2 e1 e2 l1 l2 => S.inj i j b1 b2 B o1 o2 (kill_get e1).2 (kill_get e2).2 l1 l2)
    (fun i b B o e1 l => S.sep i b B o (kill_get e1).2 l) (fun B' k => ?_)
  · refine wr.other B' (fun q => ?_)
    subst q
    exact (kill_get e1).1 (S.inj i id b1 b B' o' o (kill_get e1).2 e l hl)
  · show B' < w'.heap.size
    rw [wr.size]; exact S.lt B' k

theorem wrote_freeze {w : World} {B : Nat} (o n : Nat) : Wrote w (w.freeze ⟨B, o, none⟩ n) B := by
  unfold World.freeze
  split
  · exact ⟨fun _ _ => rfl, rfl, rfl, rfl, rfl, rfl⟩
  · refine ⟨fun k hk => ?_, by simp, ?_, rfl, rfl, rfl⟩
    · simp only [Array.getElem?_modify]
      rw [if_neg (fun q => hk q.symm)]
    · simp only [World.shape?, Array.getElem?_modify, if_true]
      cases w.heap[B]? with
      | none => rfl
      | some x => cases x <;> rfl

theorem lies_bytes {P : Program} {e : TypeId} (hc : P.cellsOf e = 1) (count off n : Nat) (hn : off + n ≤ count) : liesAt P P.depth e count off e n = true := by
  have hd : P.depth = (2 * (P.types.size + Made.depth) + 1) + 1 := rfl
  rw [hd]
  simp only [liesAt, Bool.or_eq_true]
  left
  rw [hd]
  simp [rowAt, hc, hn, sameLayout, Nat.mod_one]

theorem unsafeString_run {P : Program} {w : World} {pt it ty e : TypeId} (hp : P.underlying pt = some (.pointer e)) (hc : P.cellsOf e = 1) {B o cells : Nat} (hsh : w.shape? B = some (e, cells)) {l : List UInt8} (h0 : l ≠ []) (hn : o + l.length ≤ cells) (h63 : l.length ≤ 274877906944)
    (hcell : ∀ j x, l[j]? = some x → w.cell? ((⟨B, o, none⟩ : Addr).add j) = some (.int .u8 x.toNat)) :
    (Builtin.unsafeString_ #[pt, it] ty #[.pointer (some ⟨B, o, none⟩), .int .i64 l.length]).run P w = .ok (.string ⟨l.toArray⟩) (w.freeze ⟨B, o, none⟩ l.length) := by
  have hl : l.length ≠ 0 := by simpa using h0
  have hlb := Lib.run_loadBytes (P := P) w l ⟨B, o, none⟩ .empty hcell
  have hlies := lies_bytes (P := P) hc (cells / P.cellsOf e) o l.length (by rw [hc]; simpa using hn)
  have h63' : ¬ (9223372036854775807 : Int) < (l.length : Int) := by omega
  have hdef : Builtin.unsafeString_ #[pt, it] ty #[.pointer (some ⟨B, o, none⟩), .int .i64 l.length] =
      (do
        let n ← asInt (.int .i64 l.length)
        if n < 0 then runtimePanic (.error "unsafe.String: len out of range")
        if n > IntKind.i64.max then unsupported (.unsafePointer "String: a length above the largest int")
        if n = 0 then pure (.string .empty)
        else if ← variablesAt ⟨B, o, none⟩ (← elemOf pt) n.toNat then do
          let s ← loadBytes ⟨B, o, none⟩ .empty n.toNat
          freeze ⟨B, o, none⟩ n.toNat
          pure (.string s)
        else unsupported (.unsafePointer "String: not so many bytes at ptr")) := rfl
  rw [hdef]
  have hmax : IntKind.i64.max = 9223372036854775807 := rfl
  have hneg : ¬ (l.length : Int) < 0 := by omega
  simp [asInt, asIntOf, hmax, h63', hneg, hl, variablesAt, hsh, elemOf, run_underlying hp, hlies, hlb]

theorem sliceData_own {P : Program} {ts : Array TypeId} {ty : TypeId} {m : Mem} {h : Heap} {id : Nat} {et : TypeId} {r : Row} {x : r.den} {l : List r.den} (hg : hget h id = some (.arr et r (x :: l))) {u : Value} (q : Rel m h (.own id) u) :
    ∃ cv, (Builtin.unsafeSliceData_ ts ty #[u]).run P m.w = .ok cv m.w ∧ Rel m h (.eptr id 0 0) cv := by
  simp only [Rel] at q
  rcases q.2 _ r (x :: l) hg with ⟨h0, _⟩ | ⟨B, o, cap, hl, rfl, hcap, _⟩
  · cases h0
  · simp only [List.length_cons] at hcap
    refine ⟨_, Lib.run_unsafeSliceData_row m.w ts ty _ _ cap (by omega), ?_⟩
    simp only [Rel]
    refine ⟨⟨q.1.1, rfl⟩, fun et' s k e2 => ?_⟩
    rw [hg] at e2; injection e2 with e2; injection e2 with e0 e3 e4; subst e0; subst e3; have := eq_of_heq e4; subst this
    exact ⟨B, o, hl, by simp, by simp⟩

theorem unsafeString_own {P : Program} {tab : List (TypeId × TI)} (hT : ∀ t ti, tyFind tab t = some ti → TI.ok P t ti) {p it ty et : TypeId} {te : TI} (hk : P.underlying p = some (.pointer et)) (hte : tyFind tab et = some te) (hs : te.size = 1) {m : Mem} {h : Heap} (S : Sim m h) {id : Nat} {l : List Int}
    (hg : hget h id = some (.arr et (.one (.int .u8)) l)) (h0 : 0 < List.length l) (hm : List.length l ≤ maxAppend) {u : Value} (q : Rel m h (.eptr id 0 0) u) :
    ∃ cv m', (Builtin.unsafeString_ #[p, it] ty #[u, .int .i64 (List.length l : Int)]).run P m.w = .ok cv m'.w ∧ Ext m h m' (hset h id none) ∧ Sim m' (hset h id none) ∧ Rel m' (hset h id none) (.str l) cv := by
  simp only [Rel] at q
  obtain ⟨B, o, hl, rfl, hix⟩ := q.2 _ (.one (.int .u8)) l hg
  obtain ⟨c, vs, t, k1, k2, k3, k4⟩ := arr_lies (S.blk id _ hg) hl
  obtain ⟨hv, hb⟩ := bytes_vals l vs k4
  obtain ⟨i, z, i1, i2, _⟩ := (hT _ _ hte).info
  have hco : P.cellsOf et = 1 := by simp [Program.cellsOf, i1]; omega
  let bs : List UInt8 := l.map fun n => UInt8.ofNat n.toNat
  have hbl : bs.length = l.length := by simp [bs]
  have hback : ∀ n : Int, 0 ≤ n ∧ n < 256 → ((UInt8.ofNat n.toNat).toNat : Int) = n := fun n hn => by simp; omega
  have hlen : vs.length + t.length = c.size - o := by have := congrArg List.length k3; simp at this; omega
  have hvl : vs.length = l.length := by rw [hv]; simp
  have hcell : ∀ j x, bs[j]? = some x → m.w.cell? ((⟨B, o, none⟩ : Addr).add j) = some (.int .u8 x.toNat) := fun j x hx => by
    obtain ⟨hj, hx⟩ := List.getElem?_eq_some_iff.1 hx
    have hj' : j < l.length := by omega
    have h1 : (c.toList.drop o)[j]? = some (.int .u8 l[j]) := by
      rw [k3, hv, List.getElem?_append_left (by simpa using hj')]
      simp [hj']
    have h2 : c[o + j]? = some (.int .u8 l[j]) := by simpa using h1
    have h3 : (x.toNat : Int) = l[j] := by
      rw [← hx]
      simp only [bs, List.getElem_map]
      exact hback _ (hb _ (List.getElem_mem hj'))
    rw [h3]
    have e1 : ((⟨B, o, none⟩ : Addr).add j) = ⟨B, o + j, none⟩ := by
      unfold Addr.add
      by_cases hz : j = 0
      · subst hz; simp
      · simp [hz]
    rw [e1]
    simp [World.cell?, k1, h2]
  have hrun := unsafeString_run (P := P) (w := m.w) (pt := p) (it := it) (ty := ty) hk hco (B := B) (o := o) (cells := c.size) (by simp [World.shape?, k1]) (l := bs) (by intro hz; rw [hz] at hbl; simp at hbl; omega) (by rw [hbl]; omega) (by rw [hbl]; exact hm) hcell
  rw [hbl] at hrun
  have wr := wrote_freeze (w := m.w) (B := B) o l.length
  refine ⟨_, ⟨_, m.loc, m.good⟩, by simpa [Row.size] using hrun, ext_killw S hg hl wr, sim_killw S hg hl wr, _, rfl, ?_⟩
  show bs.map (fun b => ((b.toNat : Nat) : Int)) = l
  have : ∀ (k : List Int), (∀ n ∈ k, 0 ≤ n ∧ n < 256) → (k.map fun n => UInt8.ofNat n.toNat).map (fun b => ((b.toNat : Nat) : Int)) = k := fun k hk => by
    induction k with
    | nil => rfl
    | cons n k ih =>
      simp only [List.map_cons]
      rw [ih (fun x hx => hk x (by simp [hx])), hback n (hk n (by simp))]
  exact this l hb

end Go.Proofs.YtklfdmnmiadgpaaAbs
