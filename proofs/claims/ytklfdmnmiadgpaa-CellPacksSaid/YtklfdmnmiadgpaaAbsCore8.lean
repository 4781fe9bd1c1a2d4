/- append, copy, make, literals of slices. -/
import Derived.Test.YtklfdmnmiadgpaaAbsCore7
namespace Go.Proofs.YtklfdmnmiadgpaaAbs
set_option linter.unusedVariables false
set_option linter.unusedSimpArgs false
open Go
variable {R : Type}

theorem castList_id {r : Row} (e : r.same r = true) (l : List r.den) : castList e l = l := rfl

/-- A new number without memory: an empty row. -/
theorem ext_none {m : Mem} {h : Heap} (S : Sim m h) (b : Blk) : Ext m h ⟨m.w, upd m.loc h.length none, m.good⟩ (h ++ [some b]) where
  os := rfl
  tape := rfl
  output := rfl
  size := Nat.le_refl _
  keep := fun B hB hn => ⟨rfl, fun ⟨id, b', o', e, l⟩ => by
    by_cases hid : id = h.length
    · subst hid; simp only [upd_same] at l; cases l
    · rw [hget_push_ne hid] at e; simp only [upd_ne _ _ hid] at l; exact hn ⟨id, b', o', e, l⟩⟩
  good := fun _ k => k
  back := fun _ k => .inl k
  len := by simp
  dead := fun id hi e => by rw [hget_push_ne (by omega)]; exact e
  live := fun id b1 b2 e1 e2 => by
    have hid : id ≠ h.length := by have := hget_lt e1; omega
    rw [hget_push_ne hid, e1] at e2; injection e2 with e2; subst e2
    exact ⟨by simp only [upd_ne _ _ hid], Blk.like_refl _, fun _ _ _ => rfl⟩
theorem sim_none {m : Mem} {h : Heap} (S : Sim m h) (et : TypeId) (r : Row) : Sim ⟨m.w, upd m.loc h.length none, m.good⟩ (h ++ [some (.arr et r [])]) := by
  refine S.of_ext (ext_none S _) (fun id b' e => ?_) (fun i j b1 b2 B o1 o2 e1 e2 l1 l2 => ?_) (fun i b1 B o1 e1 l1 => ?_) (fun B k => S.lt B k)
  · by_cases hid : id = h.length
    · subst hid; rw [hget_push_new] at e; injection e with e; subst e; exact .inr (.inl ⟨rfl, by simp only [upd_same]⟩)
    · rw [hget_push_ne hid] at e; exact .inl ⟨e, fun _ _ _ => rfl⟩
  · by_cases hi : i = h.length
    · subst hi; simp only [upd_same] at l1; cases l1
    · by_cases hj : j = h.length
      · subst hj; simp only [upd_same] at l2; cases l2
      · rw [hget_push_ne hi] at e1; rw [hget_push_ne hj] at e2; simp only [upd_ne _ _ hi] at l1; simp only [upd_ne _ _ hj] at l2
        exact S.inj i j b1 b2 B o1 o2 e1 e2 l1 l2
  · by_cases hi : i = h.length
    · subst hi; simp only [upd_same] at l1; cases l1
    · rw [hget_push_ne hi] at e1; simp only [upd_ne _ _ hi] at l1; exact S.sep i b1 B o1 e1 l1
theorem rel_none {m : Mem} {h : Heap} (et : TypeId) (r : Row) (a : Option Addr) : Rel ⟨m.w, upd m.loc h.length none, m.good⟩ (h ++ [some (.arr et r [])]) (.own h.length) (.slice a 0 0) := by
  simp only [Rel]
  refine ⟨⟨by simp, rfl⟩, fun et' s l e => ?_⟩
  rw [hget_push_new] at e; injection e with e; injection e with e0 e1 e2; subst e0; subst e1
  have := eq_of_heq e2; subst this
  exact .inl ⟨rfl, by simp only [upd_same], a, rfl⟩

/-- A new row in a new block. -/
theorem push_row {m : Mem} {h : Heap} (S : Sim m h) {w' : World} {r : Row} {l : List r.den} {c : Array Value} {et : TypeId} {vs t : List Value} {cap : Nat} (p : Pushed m.w w' (.cells c et)) (hc : c.toList = vs ++ t)
    (hr : RepAll (fun x cs => r.rep m.w m.good x cs) l vs) (hcap : List.length l ≤ cap) (hsz : c.size = cap * r.size) :
    Ext m h (m.push w' h.length 0) (h ++ [some (.arr et r l)]) ∧ Sim (m.push w' h.length 0) (h ++ [some (.arr et r l)]) ∧ Rel (m.push w' h.length 0) (h ++ [some (.arr et r l)]) (.own h.length) (.slice (some ⟨m.w.heap.size, 0, none⟩) (List.length l) cap) := by
  have E := ext_push S p (.arr et r l) 0
  refine ⟨E, sim_push S p _ 0 (.inr ⟨m.w.heap.size, 0, c, vs, t, by simp [Mem.push, upd_same], p.new, Nat.zero_le _, by simpa using hc, RepAll.mono (fun x cs => Row.rep_mono (E.frozen S) r x cs) hr⟩), ?_⟩
  simp only [Rel]
  refine ⟨⟨by simp, rfl⟩, fun et' s k e => ?_⟩
  rw [hget_push_new] at e; injection e with e; injection e with e0 e1 e2; subst e0; subst e1
  have := eq_of_heq e2; subst this
  refine .inr ⟨m.w.heap.size, 0, cap, by simp [Mem.push, upd_same], rfl, hcap, et, c.size, ?_, by omega⟩
  have := p.new
  simp [World.shape?, Mem.push, this]

def BinIs (P : Program) (op : Array TypeId → TypeId → Array Value → Sem Value) (ts : Array TypeId) (h : Heap) (as : List AV) (v : AV) (h' : Heap) : Prop :=
  ∀ (ty : TypeId) (m : Mem) (us : List Value), Sim m h → RelL m h false as us → ∃ cv m', (op ts ty us.toArray).run P m.w = .ok cv m'.w ∧ Ext m h m' h' ∧ Sim m' h' ∧ Rel m' h' v cv

theorem RelL.two {m : Mem} {h : Heap} {a b : AV} {us : List Value} (q : RelL m h false [a, b] us) : ∃ u v, us = [u, v] ∧ Rel m h a u ∧ Rel m h b v := by
  simp only [RelL] at q
  obtain ⟨u, rest, rfl, h1, _, v, rest', rfl, h2, _, rfl⟩ := q
  exact ⟨u, v, rfl, h1, h2⟩

theorem hset_same {h : Heap} {id : Nat} {b : Blk} (e : hget h id = some b) : hset h id (some b) = h := by
  induction h generalizing id with
  | nil => rfl
  | cons a h ih => cases id with
    | zero => simp only [hget] at e; subst e; rfl
    | succ id => simp only [hget] at e; simp only [hset, ih e]

theorem append_new {P : Program} {m : Mem} {h : Heap} (S : Sim m h) {r : Row} {elem st xt ty : TypeId} {i : TypeInfo} {z : Value} (hu : P.underlying st = some (.slice elem)) (hx : P.underlying xt = some .string ∨ ∃ e, P.underlying xt = some (.slice e))
    (hi : P.info? elem = some i) (hsz : i.size = r.size) (hby : i.bytes ≤ 256) (hz : i.zero = some z) (hzs : z.cells.size = r.size)
    {xs : List r.den} {xv : Value} {vs : List Value} {base : Option Addr} (hx' : Src P m r xs xv vs) (hb : List.length xs ≤ maxAppend) :
    ∃ cv m', (Builtin.append_ #[st, xt] ty #[.slice base 0 0, xv]).run P m.w = .ok cv m'.w ∧ Ext m h m' (h ++ [some (.arr elem r xs)]) ∧ Sim m' (h ++ [some (.arr elem r xs)]) ∧ Rel m' (h ++ [some (.arr elem r xs)]) (.own h.length) cv := by
  by_cases h0 : xs = []
  · subst h0
    exact ⟨_, ⟨m.w, upd m.loc h.length none, m.good⟩, append_room0 hu hx hi hsz rfl hx', ext_none S _, sim_none S elem r, rel_none elem r base⟩
  · have hlen : 0 < List.length xs := List.length_pos_iff.2 h0
    obtain ⟨w', c, cap', h1, h2, h3, h4, t, h5⟩ := append_grow (ty := ty) (l := ([] : List r.den)) hu hx hi hsz hby hz hzs (cap := 0) (by simp; exact hlen) (src_of_lies (c := 0) (a := base) rfl (.inl rfl)) hx' (by simpa using hb)
    simp only [List.length_nil, Nat.zero_add, List.nil_append] at h1 h3 h5
    obtain ⟨g1, g2, g3⟩ := push_row S h2 h5 hx'.rep h3 h4
    exact ⟨_, _, h1, g1, g2, g3⟩

theorem append_in {P : Program} {m : Mem} {h : Heap} (S : Sim m h) {r : Row} {elem st xt ty : TypeId} {i : TypeInfo} (hu : P.underlying st = some (.slice elem)) (hx : P.underlying xt = some .string ∨ ∃ e, P.underlying xt = some (.slice e))
    (hi : P.info? elem = some i) (hsz : i.size = r.size) {id off len : Nat} {et : TypeId} {l xs : List r.den} {v : Value} {vs : List Value} (hg : hget h id = some (.arr et r l)) (hsrc : Src P m r xs v vs) (hb : off + len + List.length xs ≤ List.length l) {u : Value} (q1 : Rel m h (.msl id off len) u) :
    ∃ cv m', (Builtin.append_ #[st, xt] ty #[u, v]).run P m.w = .ok cv m'.w ∧ Ext m h m' (hset h id (some (.arr et r (splice l (off + len) xs)))) ∧ Sim m' (hset h id (some (.arr et r (splice l (off + len) xs)))) ∧ Rel m' (hset h id (some (.arr et r (splice l (off + len) xs)))) (.msl id off (len + List.length xs)) cv := by
  simp only [Rel] at q1
  obtain ⟨a, cap, rfl, g2, g3, g5, g4⟩ := q1.2 _ r l hg
  have hlen' : (splice l (off + len) xs).length = l.length := splice_length _ _ _ hb
  have outRel : ∀ (m' : Mem), m'.loc = m.loc → ∀ cv, cv = .slice a (len + List.length xs) cap → Rel m' (hset h id (some (.arr et r (splice l (off + len) xs)))) (.msl id off (len + List.length xs)) cv := by
    intro m' hloc cv hcv
    subst hcv
    simp only [Rel]
    refine ⟨⟨by rw [hlen_hset]; exact q1.1.1, rfl⟩, fun et' s k e2 => ?_⟩
    rw [hget_hset_same (hget_lt hg)] at e2
    injection e2 with e2; injection e2 with e0 e3 e4; subst e0; subst e3
    have := eq_of_heq e4; subst this
    exact ⟨a, cap, rfl, by omega, by omega, by omega, by rw [hloc]; exact g4⟩
  rcases g4 with h0 | ⟨B, o, hl, rfl⟩
  · subst h0
    have hl0 : len = 0 := by omega
    have hx0 : xs = [] := List.eq_nil_of_length_eq_zero (by omega)
    subst hl0; subst hx0
    have hrun := append_room0 (ty := ty) (base := a) hu hx hi hsz rfl hsrc
    refine ⟨_, m, hrun, ?_, ?_, outRel m rfl _ (by simp)⟩
    · have e0 : splice l (off + 0) ([] : List r.den) = l := by unfold splice; simp
      rw [e0, hset_same hg]; exact Ext.refl m h
    · have e0 : splice l (off + 0) ([] : List r.den) = l := by unfold splice; simp
      rw [e0, hset_same hg]; exact S
  · obtain ⟨c, ws, t, k1, k2, k3, k4⟩ := arr_lies (S.blk id _ hg) hl
    have hn := fun x cs (hx : r.rep m.w m.good x cs) => Row.rep_length r x cs hx
    have hwl := RepAll.length hn k4
    have hvl := RepAll.length hn hsrc.rep
    have hws : ws.length + t.length = c.size - o := by have := congrArg List.length k3; simp at this; omega
    have hbd : (off + len + List.length xs) * r.size ≤ List.length l * r.size := Nat.mul_le_mul_right _ hb
    have hfit : (off + len) * r.size + vs.length ≤ ws.length := by rw [hwl, hvl, ← Nat.add_mul]; exact hbd
    have hrun := append_room (ty := ty) (o := o + off * r.size) (n := len) (cap := cap) hu hx hi hsz (by omega) hsrc k1 (by rw [Nat.add_mul] at hfit; omega) (RepAll.oneCell hsrc.rep)
    have eo : o + off * r.size + len * r.size = o + (off + len) * r.size := by rw [Nat.add_mul]; omega
    rw [eo] at hrun
    obtain ⟨E1, S1⟩ := arr_setRow S hg hlen' hl k1 k2 k3 ((off + len) * r.size) vs hfit (RepAll.splice hn (off + len) k4 hsrc.rep)
    exact ⟨_, _, hrun, E1, S1, outRel _ rfl _ rfl⟩

theorem appendA_ok {P : Program} {E : Env} (hE : ∀ t ti, tyFind E.tab t = some ti → TI.ok P t ti) {h : Heap} {st xt : TypeId} (hx : P.underlying xt = some .string ∨ ∃ e, P.underlying xt = some (.slice e)) {s x : AV} {K : AV → Heap → Option R} {res : R}
    (e : appendA E h st s x K = some res) : ∃ v h', K v h' = some res ∧ BinIs P Builtin.append_ #[st, xt] h [s, x] v h' := by
  unfold appendA at e
  split at e
  · cases e
  · rename_i et r te hsr
    obtain ⟨elem, i, z, het, hu, hok, hi, hsz, hby, hz, hzc, hzl, hts⟩ := sliceRow_ok hE hsr
    subst het
    have hzs : z.cells.size = r.size := by
      have := RelL.length (zero_rel (m := ⟨default, fun _ => none, fun _ => False⟩) (h := []) te.zero z.cells.toList hzc)
      rw [hzl] at this; simpa using this.symm
    split at e
    · cases e
    · rename_i xs hxs
      split at e
      · cases hb : (Nat.ble xs.length maxAppend && Nat.ble te.bytes 256) with
        | false => rw [hb] at e; cases e
        | true =>
          rw [hb] at e; simp only [cond_true] at e
          simp only [Bool.and_eq_true] at hb
          refine ⟨_, _, e, fun ty m us S q => ?_⟩
          obtain ⟨u, v, rfl, q1, q2⟩ := RelL.two q
          simp only [Rel] at q1; subst q1
          obtain ⟨vs, hsrc⟩ := rowsOf_ok (P := P) S hxs q2
          exact append_new S hu hx hi hsz (by rw [hby]; exact Nat.le_of_ble_eq_true hb.2) hz hzs hsrc (Nat.le_of_ble_eq_true hb.1)
      · cases hb : (Nat.ble xs.length maxAppend && Nat.ble te.bytes 256) with
        | false => rw [hb] at e; cases e
        | true =>
          rw [hb] at e; simp only [cond_true] at e
          simp only [Bool.and_eq_true] at hb
          refine ⟨_, _, e, fun ty m us S q => ?_⟩
          obtain ⟨u, v, rfl, q1, q2⟩ := RelL.two q
          simp only [Rel] at q1; obtain ⟨a, rfl⟩ := q1
          obtain ⟨vs, hsrc⟩ := rowsOf_ok (P := P) S hxs q2
          exact append_new S hu hx hi hsz (by rw [hby]; exact Nat.le_of_ble_eq_true hb.2) hz hzs hsrc (Nat.le_of_ble_eq_true hb.1)
      · rename_i id
        split at e
        · rename_i et0 q0 l hg
          split at e
          · rename_i hs
            have hq := Row.same_eq q0 r hs; subst hq
            rw [castList_id] at e
            cases hb : (Nat.beq et0 elem && (Nat.ble (l.length + xs.length) maxAppend && Nat.ble te.bytes 256)) with
            | false => rw [hb] at e; cases e
            | true =>
              rw [hb] at e; simp only [cond_true] at e
              simp only [Bool.and_eq_true] at hb
              have het0 : et0 = elem := Nat.eq_of_beq_eq_true hb.1
              subst het0
              have hb := hb.2
              refine ⟨_, _, e, fun ty m us S q => ?_⟩
              obtain ⟨u, v, rfl, q1, q2⟩ := RelL.two q
              obtain ⟨vs, hsrc⟩ := rowsOf_ok (P := P) S hxs q2
              have hk : (hset h id none).length = h.length := hlen_hset _ _ _
              have Sk := sim_kill S id
              have Ek := ext_kill m h id
              simp only [Rel] at q1
              rcases q1.2 _ q0 l hg with ⟨rfl, hl, a, rfl⟩ | ⟨B, o, cap, hl, rfl, hcap, ty', n', hsh, hle⟩
              · obtain ⟨cv, m', g1, g2, g3, g4⟩ := append_new (ty := ty) (base := a) Sk hu hx hi hsz (by rw [hby]; exact Nat.le_of_ble_eq_true hb.2) hz hzs hsrc (by have := Nat.le_of_ble_eq_true hb.1; simpa using this)
                rw [hk] at g4
                exact ⟨cv, m', g1, Ek.trans g2, g3, g4⟩
              · obtain ⟨c, ws, t, k1, k2, k3, k4⟩ := arr_lies (S.blk id _ hg) hl
                have hn := fun x cs (hx : q0.rep m.w m.good x cs) => Row.rep_length q0 x cs hx
                have hwl := RepAll.length hn k4
                have hvl := RepAll.length hn hsrc.rep
                by_cases hroom : List.length l + List.length xs ≤ cap
                · have hsize : n' = c.size := by simp [World.shape?, k1] at hsh; exact hsh.2.symm
                  have hws : ws.length + t.length = c.size - o := by have := congrArg List.length k3; simp at this; omega
                  have hbd : (List.length l + List.length xs) * q0.size ≤ cap * q0.size := Nat.mul_le_mul_right _ hroom
                  rw [Nat.add_mul, ← hwl, ← hvl] at hbd
                  have hfit : o + ws.length + vs.length ≤ c.size := by omega
                  have hvone : ∀ v ∈ vs, v.oneCell' = true := RepAll.oneCell hsrc.rep
                  have hrun := append_room (ty := ty) hu hx hi hsz hroom hsrc k1 (by rw [← hwl]; exact hfit) hvone
                  rw [← hwl] at hrun
                  have hlen2 : (splice c.toList (o + ws.length) vs).length = c.toList.length := splice_length _ _ _ (by simpa using hfit)
                  have wr := wrote_setRow k1 (splice c.toList (o + ws.length) vs).toArray (by simpa using hlen2)
                  have E1 := ext_moved (b' := .arr et0 q0 (l ++ xs)) S hg hl wr
                  refine ⟨_, _, hrun, E1, sim_moved S hg hl wr ?_, ?_⟩
                  · refine .inr ⟨B, o, _, ws ++ vs, t.drop vs.length, by simp [Mem.moved, upd_same, hl], setRow_heap _ B c _ _ (0, 0) k1, by simpa using Nat.le_trans k2 (by simp [hlen2]), ?_, RepAll.mono (fun x cs => Row.rep_mono (E1.frozen S) q0 x cs) (RepAll.append k4 hsrc.rep)⟩
                    simpa using splice_end k3 (by simpa using k2) vs (by omega)
                  · simp only [Rel]
                    refine ⟨⟨by simp [hk], rfl⟩, fun et' s k e2 => ?_⟩
                    rw [← hk, hget_push_new] at e2; injection e2 with e2; injection e2 with e0 e3 e4; subst e0; subst e3
                    have := eq_of_heq e4; subst this
                    refine .inr ⟨B, o, cap, by simp [Mem.moved, upd_same, hl], by simp, by simpa using hroom, ty', n', ?_, hle⟩
                    show (m.w.setRow B _).shape? B = _
                    rw [wr.shape]; exact hsh
                · obtain ⟨w', c2, cap', g1, g2, g3, g4, t2, g5⟩ := append_grow (ty := ty) hu hx hi hsz (by rw [hby]; exact Nat.le_of_ble_eq_true hb.2) hz hzs (l := l) (base := some ⟨B, o, none⟩) (cap := cap) (by omega) (src_of_lies k4 (.inr ⟨B, o, rfl, c, _, (0, 0), t, k1, k3⟩)) hsrc (Nat.le_of_ble_eq_true hb.1)
                  obtain ⟨r1, r2, r3⟩ := push_row Sk g2 g5 (RepAll.append k4 hsrc.rep) (by simpa using g3) g4
                  rw [hk] at r1 r2 r3
                  refine ⟨_, _, g1, Ek.trans r1, r2, by simpa using r3⟩
          · cases e
        · cases e
      · rename_i id off len
        split at e
        · rename_i q0 l hg
          split at e
          · rename_i hs
            have hq := Row.same_eq q0 r hs; subst hq
            rw [castList_id] at e
            cases hb : Nat.ble (off + len + xs.length) l.length with
            | false => rw [hb] at e; cases e
            | true =>
              rw [hb] at e; simp only [cond_true] at e
              have hb := Nat.le_of_ble_eq_true hb
              refine ⟨_, _, e, fun ty m us S q => ?_⟩
              obtain ⟨u, v, rfl, q1, q2⟩ := RelL.two q
              obtain ⟨vs, hsrc⟩ := rowsOf_ok (P := P) S hxs q2
              exact append_in S hu hx hi hsz hg hsrc hb q1
          · cases e
        · cases e
      · cases e

theorem Src.cut {P : Program} {m : Mem} {r : Row} {xs : List r.den} {xv : Value} {vs : List Value} (k : Src P m r xs xv vs) (n : Nat) : RepAll (fun x cs => r.rep m.w m.good x cs) (xs.take n) (vs.take (n * r.size)) :=
  RepAll.take (fun x cs hx => Row.rep_length r x cs hx) n k.rep

theorem copy_run {P : Program} {m : Mem} {h : Heap} (S : Sim m h) {dt xt ty elem : TypeId} {i : TypeInfo} {r : Row} (hu : P.underlying dt = some (.slice elem)) (hi : P.info? elem = some i) (hsz : i.size = r.size)
    {id : Nat} {et : TypeId} {l xs : List r.den} {xv : Value} {vs : List Value} (hg : hget h id = some (.arr et r l)) (hsrc : Src P m r xs xv vs) {off len cap : Nat} {a : Option Addr} (hoff : off + len ≤ List.length l)
    (ha : len = 0 ∨ ∃ B o, m.loc id = some (B, o) ∧ a = some ⟨B, o + off * r.size, none⟩) :
    ∃ m', (Builtin.copy_ #[dt, xt] ty #[.slice a len cap, xv]).run P m.w = .ok (.int .i64 (Nat.min (List.length xs) len : Nat)) m'.w ∧ Ext m h m' (hset h id (some (.arr et r (splice l off (xs.take len))))) ∧ Sim m' (hset h id (some (.arr et r (splice l off (xs.take len))))) := by
  have hn := fun x cs (hx : r.rep m.w m.good x cs) => Row.rep_length r x cs hx
  have hmin : Nat.min (List.length xs) len ≤ List.length xs := Nat.min_le_left _ _
  have f := hsrc.first m.w rfl _ hmin
  have ek : (xs.take len).length = Nat.min (List.length xs) len := by rw [List.length_take]; exact Nat.min_comm _ _
  have ev : vs.take (Nat.min (List.length xs) len * r.size) = vs.take (len * r.size) := by
    by_cases hle : len ≤ List.length xs
    · rw [show Nat.min (List.length xs) len = len from Nat.min_eq_right hle]
    · rw [show Nat.min (List.length xs) len = List.length xs from Nat.min_eq_left (by omega), ← RepAll.length hn hsrc.rep, List.take_length, List.take_of_length_le]
      rw [RepAll.length hn hsrc.rep]; exact Nat.mul_le_mul_right _ (by omega)
  have hrep := hsrc.cut len
  have hlen2 : (vs.take (len * r.size)).length = Nat.min (List.length xs) len * r.size := by rw [RepAll.length hn hrep, ek]
  have hll : (splice l off (xs.take len)).length = l.length := splice_length _ _ _ (by rw [ek]; have : Nat.min (List.length xs) len ≤ len := Nat.min_le_right _ _; omega)
  rcases ha with h0 | ⟨B, o, hl, rfl⟩
  · subst h0
    have e0 : splice l off (xs.take 0) = l := by unfold splice; simp
    rw [e0]
    have hm0 : Nat.min (List.length xs) 0 = 0 := Nat.min_zero _
    rw [hm0] at f ⊢
    rw [hset_same hg]
    refine ⟨m, ?_, Ext.refl m h, S⟩
    cases a <;> simp [Builtin.copy_, run_underlying hu, hsrc.len, hm0, sizeOf, typeInfo, hi, hsz, f, storeCells, goInt]
  · obtain ⟨c, ws, t, k1, k2, k3, k4⟩ := arr_lies (S.blk id _ hg) hl
    have hwl := RepAll.length hn k4
    have hfit : off * r.size + (vs.take (len * r.size)).length ≤ ws.length := by
      rw [hlen2, hwl, ← Nat.add_mul]
      exact Nat.mul_le_mul_right _ (by have : Nat.min (List.length xs) len ≤ len := Nat.min_le_right _ _; omega)
    obtain ⟨m', g1, g2, g3⟩ := arr_write S hg hll hl k1 k2 k3 (off * r.size) (vs.take (len * r.size)) hfit (RepAll.splice hn off k4 hrep) P (RepAll.oneCell hrep)
    refine ⟨m', ?_, g2, g3⟩
    rw [ev] at f
    simp [Builtin.copy_, run_underlying hu, hsrc.len, sizeOf, typeInfo, hi, hsz, f, g1, goInt]

theorem copyA_ok {P : Program} {E : Env} (hE : ∀ t ti, tyFind E.tab t = some ti → TI.ok P t ti) {h : Heap} {dt xt : TypeId} {d x : AV} {K : AV → Heap → Option R} {res : R}
    (e : copyA E h dt d x K = some res) : ∃ v h', K v h' = some res ∧ BinIs P Builtin.copy_ #[dt, xt] h [d, x] v h' := by
  unfold copyA at e
  split at e
  · cases e
  · rename_i et r te hsr
    obtain ⟨elem, i, z, het, hu, hok, hi, hsz, hby, hz, hzc, hzl, hts⟩ := sliceRow_ok hE hsr
    subst het
    split at e
    · cases e
    · rename_i xs hxs
      split at e
      · rename_i id
        split at e
        · rename_i q0 l hg
          split at e
          · rename_i hs
            have hq := Row.same_eq q0 r hs; subst hq
            rw [castList_id] at e
            refine ⟨_, _, e, fun ty m us S q => ?_⟩
            obtain ⟨u, v, rfl, q1, q2⟩ := RelL.two q
            obtain ⟨vs, hsrc⟩ := rowsOf_ok (P := P) S hxs q2
            simp only [Rel] at q1
            rcases q1.2 _ q0 l hg with ⟨rfl, hl, a, rfl⟩ | ⟨B, o, cap, hl, rfl, hcap, ty', n', hsh, hle⟩
            · obtain ⟨m', g1, g2, g3⟩ := copy_run (xt := xt) (ty := ty) S hu hi hsz hg hsrc (off := 0) (len := 0) (cap := 0) (a := a) (by simp) (.inl rfl)
              exact ⟨_, m', g1, g2, g3, rfl, rfl⟩
            · obtain ⟨m', g1, g2, g3⟩ := copy_run (xt := xt) (ty := ty) S hu hi hsz hg hsrc (off := 0) (len := List.length l) (cap := cap) (a := some ⟨B, o, none⟩) (by simp) (.inr ⟨B, o, hl, by simp⟩)
              exact ⟨_, m', g1, g2, g3, rfl, rfl⟩
          · cases e
        · cases e
      · rename_i id off len
        split at e
        · rename_i q0 l hg
          split at e
          · rename_i hs
            have hq := Row.same_eq q0 r hs; subst hq
            rw [castList_id] at e
            refine ⟨_, _, e, fun ty m us S q => ?_⟩
            obtain ⟨u, v, rfl, q1, q2⟩ := RelL.two q
            obtain ⟨vs, hsrc⟩ := rowsOf_ok (P := P) S hxs q2
            simp only [Rel] at q1
            obtain ⟨a, cap, rfl, g2, g3, g4⟩ := msl_old (q1.2 _ q0 l hg)
            obtain ⟨m', k1, k2, k3⟩ := copy_run (xt := xt) (ty := ty) S hu hi hsz hg hsrc (off := off) (len := len) (cap := cap) (a := a) g3 g4
            exact ⟨_, m', k1, k2, k3, rfl, rfl⟩
          · cases e
        · cases e
      · cases e


end Go.Proofs.YtklfdmnmiadgpaaAbs
