/- What slices hold, and how they are read, frozen, written. -/
import Derived.Test.YtklfdmnmiadgpaaAbsCore5
namespace Go.Proofs.YtklfdmnmiadgpaaAbs
set_option linter.unusedVariables false
set_option linter.unusedSimpArgs false
open Go

theorem freeze_own {m : Mem} {h : Heap} (S : Sim m h) {id : Nat} {et : TypeId} {r : Row} {l : List r.den} (e : hget h id = some (.arr et r l)) :
    ∃ m', m'.w = m.w ∧ Ext m h m' (hset h id none) ∧ Sim m' (hset h id none) ∧ ∀ B o, m.loc id = some (B, o) → m'.good B := by
  cases hl : m.loc id with
  | none => exact ⟨m, rfl, ext_kill m h id, sim_kill S id, fun B o q => by cases q⟩
  | some p =>
    obtain ⟨B, o⟩ := p
    exact ⟨m.frz B, rfl, ext_frz e hl, sim_frz S e hl, fun B' o' q => by injection q with q; injection q with q _; subst q; exact .inr rfl⟩

theorem hset_none {h : Heap} {id : Nat} (e : hget h id = none) : hset h id none = h := by
  induction h generalizing id with
  | nil => rfl
  | cons a h ih => cases id with
    | zero => simp only [hget] at e; subst e; rfl
    | succ id => simp only [hget] at e; simp only [hset, ih e]
/-- A value of before, read as an immutable row behind the freezing. -/
theorem freezeV_ok {m0 m : Mem} {h0 h : Heap} (S : Sim m0 h0) (E : Ext m0 h0 m h) (hw : m.w = m0.w) {a v : AV} (e : freezeV h0 a = some v) (hg : ∀ id, (a = .own id ∨ ∃ off len, a = .msl id off len) → ∀ B o, m0.loc id = some (B, o) → m.good B) {u : Value} (q : Rel m0 h0 a u) : Rel m h v u := by
  unfold freezeV at e
  split at e
  · rename_i id
    split at e
    · rename_i r l hb
      injection e with e; subst e
      refine ⟨?_, fun k => by cases k⟩
      simp only [Rel] at q
      rcases q.2 _ r l hb with ⟨rfl, _, a, rfl⟩ | ⟨B, o, cap, g1, rfl, g3, _⟩
      · exact ⟨a, 0, 0, rfl, rfl, Nat.le_refl _, .inl rfl⟩
      · obtain ⟨c, vs, t, k1, k2, k3, k4⟩ := arr_lies (S.blk id _ hb) g1
        exact ⟨_, _, cap, rfl, rfl, g3, .inr ⟨B, o, vs, rfl, hg id (.inl rfl) B o g1, RepAll.mono (fun x cs => Row.rep_mono (E.frozen S) r x cs) k4, c, _, (0, 0), t, by rw [hw]; exact k1, k3⟩⟩
    · cases e
  · rename_i id off len
    split at e
    · rename_i r l hb
      injection e with e; subst e
      refine ⟨?_, fun k => by cases k⟩
      simp only [Rel] at q
      obtain ⟨a, cap, rfl, g2, g3, g4⟩ := msl_old (q.2 _ r l hb)
      have hlen : ((l.drop off).take len).length = len := by simp; omega
      refine ⟨a, len, cap, rfl, hlen.symm, g2, ?_⟩
      rcases g4 with g4 | ⟨B, o, g4, g5⟩
      · exact .inl (List.eq_nil_of_length_eq_zero (by rw [hlen]; exact g4))
      · obtain ⟨c, vs, t, k1, k2, k3, k4⟩ := arr_lies (S.blk id _ hb) g4
        have hn := fun x cs (hx : r.rep m0.w m0.good x cs) => Row.rep_length r x cs hx
        have lie : Lies m0.w B (o + off * r.size) ((vs.drop (off * r.size)).take (len * r.size)) := ((show Lies m0.w B o vs from ⟨c, _, (0, 0), t, k1, k3⟩).drop _).take _
        exact .inr ⟨B, _, _, g5, hg id (.inr ⟨off, len, rfl⟩) B o g4, RepAll.mono (fun x cs => Row.rep_mono (E.frozen S) r x cs) (RepAll.take hn len (RepAll.drop hn off k4)), by rw [hw]; exact lie⟩
    · cases e
  · injection e with e; subst e
    exact Rel.mono S E _ _ q
theorem freezeG_ok {m0 : Mem} {h0 : Heap} (S0 : Sim m0 h0) : (vs : List AV) → {m : Mem} → {h h' : Heap} → m.w = m0.w → Ext m0 h0 m h → Sim m h → (∀ id, hget h id = hget h0 id ∨ (hget h id = none ∧ ∀ B o, m0.loc id = some (B, o) → m.good B)) → {ws : List AV} → freezeG h0 h vs = some (ws, h') → {one : Bool} → {us : List Value} → RelL m0 h0 one vs us →
    ∃ m', m'.w = m0.w ∧ Ext m0 h0 m' h' ∧ Sim m' h' ∧ RelL m' h' one ws us ∧ ∀ B, m.good B → m'.good B
  | [], m, h, h', hw, E, S, _, ws, e, one, us, q => by
    simp only [freezeG] at e; injection e with e; injection e with e1 e2; subst e1; subst e2
    exact ⟨m, hw, E, S, RelL.mono S0 E _ _ _ q, fun _ k => k⟩
  | v :: vs, m, h, h', hw, E, S, hi, ws, e, one, us, q => by
    simp only [freezeG] at e
    split at e
    · rename_i v' e1
      split at e
      · rename_i vs' h2 e2
        injection e with e; injection e with e3 e4; subst e3; subst e4
        simp only [RelL] at q; obtain ⟨u, rest, rfl, q1, q2, q3⟩ := q
        -- what is frozen here
        have kill : ∀ id, (v = .own id ∨ ∃ off len, v = .msl id off len) → freezeH h v = hset h id none := fun id k => by
          rcases k with rfl | ⟨_, _, rfl⟩ <;> rfl
        have key : ∃ m1, m1.w = m0.w ∧ Ext m0 h0 m1 (freezeH h v) ∧ Sim m1 (freezeH h v) ∧ (∀ id, hget (freezeH h v) id = hget h0 id ∨ (hget (freezeH h v) id = none ∧ ∀ B o, m0.loc id = some (B, o) → m1.good B)) ∧ (∀ id, (v = .own id ∨ ∃ off len, v = .msl id off len) → ∀ B o, m0.loc id = some (B, o) → m1.good B) ∧ ∀ B, m.good B → m1.good B := by
          by_cases hv : ∃ id, v = .own id ∨ ∃ off len, v = .msl id off len
          · obtain ⟨id, hv⟩ := hv
            rw [kill id hv]
            have uniq : ∀ j, (v = .own j ∨ ∃ off len, v = .msl j off len) → j = id := fun j k => by
              rcases hv with rfl | ⟨_, _, rfl⟩ <;> rcases k with k | ⟨_, _, k⟩ <;> first | (injection k with k; exact k.symm) | cases k
            have hlive : ∃ et r l, hget h0 id = some (.arr et r l) := by
              unfold freezeV at e1
              rcases hv with rfl | ⟨_, _, rfl⟩
              · simp only at e1
                split at e1
                · rename_i et r l hb; exact ⟨et, r, l, hb⟩
                · cases e1
              · simp only at e1
                split at e1
                · rename_i et r l hb; exact ⟨et, r, l, hb⟩
                · cases e1
            obtain ⟨et, r, l, hb⟩ := hlive
            rcases hi id with k | ⟨k1, k2⟩
            · have hb' : hget h id = some (.arr et r l) := k.trans hb
              obtain ⟨m1, w1, E1, S1, g1⟩ := freeze_own S hb'
              have hloc := (E.live id _ _ hb hb').1
              have gd : ∀ B o, m0.loc id = some (B, o) → m1.good B := fun B o q => g1 B o (hloc.trans q)
              refine ⟨m1, w1.trans hw, E.trans E1, S1, fun j => ?_, fun j kj B o q => by rw [uniq j kj] at q; exact gd B o q, E1.good⟩
              by_cases hj : id = j
              · subst hj
                exact .inr ⟨by rw [hget_hset]; split <;> rename_i hh <;> first | rfl | (exact absurd ⟨rfl, hget_lt hb'⟩ hh), gd⟩
              · rw [hget_hset_ne hj]
                rcases hi j with k | ⟨k1, k2⟩
                · exact .inl k
                · exact .inr ⟨k1, fun B o q => E1.good B (k2 B o q)⟩
            · rw [hset_none k1]
              exact ⟨m, hw, E, S, hi, fun j kj B o q => by rw [uniq j kj] at q; exact k2 B o q, fun _ k => k⟩
          · have : freezeH h v = h := by
              cases v <;> first | rfl | exact absurd ⟨_, .inl rfl⟩ hv | exact absurd ⟨_, .inr ⟨_, _, rfl⟩⟩ hv
            rw [this]
            exact ⟨m, hw, E, S, hi, fun id k => absurd ⟨id, k⟩ hv, fun _ k => k⟩
        obtain ⟨m1, w1, E1, S1, hi1, hg1, gg1⟩ := key
        obtain ⟨m2, w2, E2, S2, r2, gg2⟩ := freezeG_ok S0 vs w1 E1 S1 hi1 e2 q3
        refine ⟨m2, w2, E2, S2, ⟨u, rest, rfl, ?_, q2, r2⟩, fun B k => gg2 B (gg1 B k)⟩
        exact freezeV_ok S0 E2 w2 e1 (fun id k B o q => gg2 B (hg1 id k B o q)) q1
      · cases e
    · cases e

theorem freezeL_ok (vs : List AV) {m : Mem} {h h' : Heap} (S : Sim m h) {ws : List AV} (e : freezeL h vs = some (ws, h')) {one : Bool} {us : List Value} (q : RelL m h one vs us) :
    ∃ m', m'.w = m.w ∧ Ext m h m' h' ∧ Sim m' h' ∧ RelL m' h' one ws us := by
  obtain ⟨m', h1, h2, h3, h4, _⟩ := freezeG_ok S vs rfl (Ext.refl m h) S (fun _ => .inl rfl) e q
  exact ⟨m', h1, h2, h3, h4⟩

/-! ### what a slice holds -/
/-- A value of the model reads as this row, whole or its beginning. -/
structure Src (P : Program) (m : Mem) (r : Row) (xs : List r.den) (v : Value) (vs : List Value) : Prop where
  rep : RepAll (fun x cs => r.rep m.w m.good x cs) xs vs
  len : ∀ w, (Builtin.lenOf v).run P w = .ok (List.length xs) w
  first : ∀ w, w.heap = m.w.heap → ∀ n, n ≤ List.length xs → (Builtin.firstCells r.size n v).run P w = .ok (vs.take (n * r.size)).toArray w

theorem src_of_lies {P : Program} {m : Mem} {r : Row} {xs : List r.den} {vs : List Value} {a : Option Addr} {c : Nat} (hr : RepAll (fun x cs => r.rep m.w m.good x cs) xs vs)
    (hl : xs = [] ∨ ∃ B o, a = some ⟨B, o, none⟩ ∧ Lies m.w B o vs) : Src P m r xs (.slice a (List.length xs) c) vs := by
  have hn := fun x cs (hx : r.rep m.w m.good x cs) => Row.rep_length r x cs hx
  refine ⟨hr, fun w => by simp [Builtin.lenOf], fun w hw n hle => ?_⟩
  rcases hl with rfl | ⟨B, o, rfl, hl⟩
  · have : n = 0 := by simpa using hle
    subst this
    cases a <;> simp [Builtin.firstCells, loadCells, loadCellsFrom]
  · have l1 := (show Lies w B o vs from by obtain ⟨c, e, fr, t, h1, h2⟩ := hl; exact ⟨c, e, fr, t, by rw [hw]; exact h1, h2⟩).take (n * r.size)
    have e1 : (vs.take (n * r.size)).length = n * r.size := by
      rw [List.length_take, RepAll.length hn hr]
      exact Nat.min_eq_left (Nat.mul_le_mul_right _ hle)
    have := run_cells (P := P) l1
    rw [e1] at this
    simp [Builtin.firstCells, this]
theorem src_cast {P : Program} {m : Mem} {r s : Row} (e : r.same s = true) {xs : List r.den} {v : Value} {vs : List Value} (k : Src P m r xs v vs) : Src P m s (castList e xs) v vs := by
  have := Row.same_eq r s e; subst this; exact k
theorem rep_bytes (w : World) (g : Nat → Prop) : (l : List UInt8) → RepAll (fun x cs => Row.rep w g (.one (.int .u8)) x cs) (l.map fun b => ((b.toNat : Nat) : Int)) (l.map fun b => Value.int .u8 b.toNat)
  | [] => rfl
  | b :: l => by
    refine ⟨[.int .u8 b.toNat], _, rfl, ⟨_, rfl, rfl, ?_⟩, rep_bytes w g l⟩
    have := b.toNat_lt
    simp [u8ok, kindEq]
    omega
theorem src_string {P : Program} {m : Mem} (s : ByteArray) : Src P m (.one (.int .u8)) (bytesOf s) (.string s) (s.data.toList.map fun b => Value.int .u8 b.toNat) := by
  refine ⟨rep_bytes _ _ _, fun w => ?_, fun w hw n hn => ?_⟩
  · have : (bytesOf s).length = s.size := by simp [bytesOf]
    show Result.ok s.size w = Result.ok (bytesOf s).length w
    rw [this]
  · have e : (s.extract 0 n).data.toList = s.data.toList.take n := by
      rw [ByteArray.data_extract]; simp
    simp only [Builtin.firstCells, Sem.run_pure, Row.size, Nat.mul_one]
    congr 1
    apply Array.ext'
    simp [e, List.map_take]

theorem rowsOf_ok {P : Program} {m : Mem} {h : Heap} (S : Sim m h) {r : Row} {a : AV} {xs : List r.den} (e : rowsOf h r a = some xs) {u : Value} (q : Rel m h a u) : ∃ vs, Src P m r xs u vs := by
  unfold rowsOf at e
  split at e
  · rename_i s l nn
    split at e
    · rename_i hs; injection e with e; subst e
      obtain ⟨a, n, c, rfl, rfl, hc, hh⟩ := q.1
      rcases hh with rfl | ⟨B, o, vs, rfl, hB, hr, hl⟩
      · exact ⟨[], src_cast hs (src_of_lies rfl (.inl rfl))⟩
      · exact ⟨vs, src_cast hs (src_of_lies hr (.inr ⟨B, o, rfl, hl⟩))⟩
    · cases e
  · injection e with e; subst e; simp only [Rel] at q; subst q; exact ⟨[], src_of_lies rfl (.inl rfl)⟩
  · injection e with e; subst e; simp only [Rel] at q; obtain ⟨a, rfl⟩ := q; exact ⟨[], src_of_lies rfl (.inl rfl)⟩
  · rename_i id
    split at e
    · rename_i s l hg
      split at e
      · rename_i hs; injection e with e; subst e
        simp only [Rel] at q
        rcases q.2 _ s l hg with ⟨rfl, _, a, rfl⟩ | ⟨B, o, cap, g1, rfl, g3, _⟩
        · exact ⟨[], src_cast hs (src_of_lies rfl (.inl rfl))⟩
        · obtain ⟨c, vs, t, k1, k2, k3, k4⟩ := arr_lies (S.blk id _ hg) g1
          exact ⟨vs, src_cast hs (src_of_lies k4 (.inr ⟨B, o, rfl, c, _, (0, 0), t, k1, k3⟩))⟩
      · cases e
    · cases e
  · rename_i id off len
    split at e
    · rename_i s l hg
      split at e
      · rename_i hs; injection e with e; subst e
        have hq := Row.same_eq s r hs; subst hq
        simp only [Rel] at q
        obtain ⟨a, cap, rfl, g2, g3, g4⟩ := msl_old (q.2 _ s l hg)
        have hlen : ((l.drop off).take len).length = len := by simp; omega
        show ∃ vs, Src P m s ((l.drop off).take len) (.slice a len cap) vs
        have key : ∀ vs, Src P m s ((l.drop off).take len) (.slice a ((l.drop off).take len).length cap) vs → Src P m s ((l.drop off).take len) (.slice a len cap) vs := fun vs k => by rw [hlen] at k; exact k
        rcases g4 with g4 | ⟨B, o, g4, g5⟩
        · have h0 : (l.drop off).take len = [] := List.eq_nil_of_length_eq_zero (by rw [hlen]; exact g4)
          exact ⟨[], key [] (src_of_lies (by rw [h0]; rfl) (.inl h0))⟩
        · obtain ⟨c, vs, t, k1, k2, k3, k4⟩ := arr_lies (S.blk id _ hg) g4
          have hn := fun x cs (hx : s.rep m.w m.good x cs) => Row.rep_length s x cs hx
          exact ⟨_, key _ (src_of_lies (RepAll.take hn len (RepAll.drop hn off k4)) (.inr ⟨B, _, g5, ((show Lies m.w B o vs from ⟨c, _, (0, 0), t, k1, k3⟩).drop _).take _⟩))⟩
      · cases e
    · cases e
  · rename_i l
    split at e
    · rename_i hs; injection e with e; subst e
      obtain ⟨s, rfl, rfl⟩ := q
      exact ⟨_, src_cast hs (src_string s)⟩
    · cases e
  · cases e

/-! ### writing into a block of its own -/
theorem wrote_setRow {w : World} {B : Nat} {c : Array Value} {e : TypeId} {fr : Nat × Nat} (h1 : w.heap[B]? = some (.cells c e fr)) (c' : Array Value) (hs : c'.size = c.size) : Wrote w (w.setRow B c') B where
  other := fun k hk => setRow_other w B k c' hk
  size := size_setRow w B c'
  shape := by simp [World.shape?, h1, setRow_heap w B c c' e fr h1, hs]
  os := rfl
  tape := rfl
  output := rfl
theorem run_store_at {P : Program} {w : World} {B o : Nat} {c : Array Value} {e : TypeId} (h1 : w.heap[B]? = some (.cells c e (0, 0))) (us : List Value) (ho : o + us.length ≤ c.size) (h1c : ∀ v ∈ us, v.oneCell' = true) :
    (storeCells ⟨B, o, none⟩ us).run P w = .ok () (w.setRow B (splice c.toList o us).toArray) := by
  have := run_storeCells_at P B o e us 0 c w h1 (by simpa using ho) h1c
  simpa [splice] using this
theorem splice_length {α : Type} (l : List α) (o : Nat) (us : List α) (h : o + us.length ≤ l.length) : (splice l o us).length = l.length := by
  simp [splice]; omega

theorem cells_rel {m : Mem} {h : Heap} {v : AV} {vs : List AV} (e : cells v = some vs) {u : Value} (q : Rel m h v u) : RelL m h true vs u.cells.toList := by
  cases v <;> simp only [cells] at e <;> first | (cases e; done) | skip
  all_goals (injection e with e; subst e)
  case agg cs => simp only [Rel] at q; obtain ⟨us, rfl, q⟩ := q; simpa [Value.cells] using q
  all_goals refine ⟨u, [], ?_, q, ?_, rfl⟩
  all_goals simp only [Rel] at q
  case bool => subst q; rfl
  case bool => subst q; intro _; rfl
  case int => rw [q.1]; rfl
  case int => rw [q.1]; intro _; rfl
  case str => obtain ⟨s, rfl, _⟩ := q; rfl
  case str => obtain ⟨s, rfl, _⟩ := q; intro _; rfl
  case list => obtain ⟨⟨a, n, c, rfl, _⟩, _⟩ := q; rfl
  case list => obtain ⟨⟨a, n, c, rfl, _⟩, _⟩ := q; intro _; rfl
  case nils => subst q; rfl
  case nils => subst q; intro _; rfl
  case zcap => obtain ⟨a, rfl⟩ := q; rfl
  case zcap => obtain ⟨a, rfl⟩ := q; intro _; rfl
  case nilptr => subst q; rfl
  case nilptr => subst q; intro _; rfl
  case rptr => obtain ⟨B, o, us, rfl, _⟩ := q; rfl
  case rptr => obtain ⟨B, o, us, rfl, _⟩ := q; intro _; rfl
  case fn => obtain ⟨us, rfl, _⟩ := q; rfl
  case fn => obtain ⟨us, rfl, _⟩ := q; intro _; rfl
  all_goals have q1 := q.1.2
  all_goals first | (exact fun _ => q1) | skip
  all_goals cases u <;> first | rfl | (simp [Value.oneCell'] at q1)

end Go.Proofs.YtklfdmnmiadgpaaAbs
