/- Writes: store, append, copy, make. -/
import Derived.Test.YtklfdmnmiadgpaaAbsCore6
namespace Go.Proofs.YtklfdmnmiadgpaaAbs
set_option linter.unusedVariables false
set_option linter.unusedSimpArgs false
open Go

theorem splice_mid {α : Type} (p q s us : List α) (j : Nat) (h : j + us.length ≤ q.length) : splice (p ++ (q ++ s)) (p.length + j) us = p ++ (splice q j us ++ s) := by
  unfold splice
  rw [List.take_length_add_append, Nat.add_assoc, List.drop_length_add_append, List.take_append_of_le_length (by omega), List.drop_append_of_le_length h]
  simp
theorem splice_drop {α : Type} {c vs t : List α} {o : Nat} (h : c.drop o = vs ++ t) (ho : o ≤ c.length) (k : Nat) (us : List α) (hk : k + us.length ≤ vs.length) : (splice c (o + k) us).drop o = splice vs k us ++ t := by
  have e : c = c.take o ++ (vs ++ t) := by rw [← h, List.take_append_drop]
  have l : (c.take o).length = o := by rw [List.length_take]; omega
  have := splice_mid (c.take o) vs t us k hk
  rw [l, ← e] at this
  rw [this, List.drop_append_of_le_length (by omega), List.drop_of_length_le (by omega)]
  rfl
theorem splice_end {α : Type} {c vs t : List α} {o : Nat} (h : c.drop o = vs ++ t) (ho : o ≤ c.length) (us : List α) (hk : us.length ≤ t.length) : (splice c (o + vs.length) us).drop o = (vs ++ us) ++ t.drop us.length := by
  have e := splice_drop (vs := vs ++ t) (t := []) (by simpa using h) ho vs.length us (by simp; exact hk)
  rw [e]
  unfold splice
  rw [List.take_left, List.drop_length_add_append]
  simp
section
variable {α : Type} {p : α → List Value → Prop} {n : Nat}
theorem RepAll.splice (hn : ∀ x cs, p x cs → cs.length = n) {l xs : List α} {vs us : List Value} (off : Nat) (h : RepAll p l vs) (k : RepAll p xs us) : RepAll p (Go.Proofs.YtklfdmnmiadgpaaAbs.splice l off xs) (Go.Proofs.YtklfdmnmiadgpaaAbs.splice vs (off * n) us) := by
  unfold Go.Proofs.YtklfdmnmiadgpaaAbs.splice
  have e : off * n + us.length = (off + xs.length) * n := by rw [RepAll.length hn k, Nat.add_mul]
  rw [e]
  exact RepAll.append (RepAll.append (RepAll.take hn off h) k) (RepAll.drop hn _ h)
end

/-- A block's row is written, its length kept. -/
theorem arr_write {m : Mem} {h : Heap} (S : Sim m h) {id : Nat} {et : TypeId} {r : Row} {l l' : List r.den} (e : hget h id = some (.arr et r l)) (hll : l'.length = l.length) {B o : Nat} (hl : m.loc id = some (B, o))
    {c : Array Value} {vs t : List Value} (h1 : m.w.heap[B]? = some (.cells c et (0, 0))) (h2 : o ≤ c.size) (h3 : c.toList.drop o = vs ++ t) (k : Nat) (us : List Value) (hk : k + us.length ≤ vs.length)
    (hr : RepAll (fun x cs => r.rep m.w m.good x cs) l' (splice vs k us)) (P : Program) (hone : ∀ v ∈ us, v.oneCell' = true) :
    ∃ m', (storeCells ⟨B, o + k, none⟩ us).run P m.w = .ok () m'.w ∧ Ext m h m' (hset h id (some (.arr et r l'))) ∧ Sim m' (hset h id (some (.arr et r l'))) := by
  have hlen : vs.length + t.length = c.size - o := by have := congrArg List.length h3; simp at this; omega
  have hsz : o + k + us.length ≤ c.toList.length := by simp; omega
  have wr := wrote_setRow h1 (splice c.toList (o + k) us).toArray (by simp [splice_length _ _ _ hsz])
  have hb : (Blk.arr et r l).like (.arr et r l') := ⟨rfl, rfl, hll.symm⟩
  refine ⟨⟨_, m.loc, m.good⟩, run_store_at h1 us (by simpa using hsz) hone, ext_wrote S e hl wr hb, sim_wrote S e hl wr hb ?_⟩
  have E := ext_wrote S e hl wr hb
  refine .inr ⟨B, o, _, splice vs k us, t, hl, setRow_heap _ B c _ et (0, 0) h1, by simpa [splice_length _ _ _ hsz] using h2, ?_, RepAll.mono (fun x cs => Row.rep_mono (E.frozen S) r x cs) hr⟩
  simpa using splice_drop h3 (by simpa using h2) k us hk

theorem arr_setRow {m : Mem} {h : Heap} (S : Sim m h) {id : Nat} {et : TypeId} {r : Row} {l l' : List r.den} (e : hget h id = some (.arr et r l)) (hll : l'.length = l.length) {B o : Nat} (hl : m.loc id = some (B, o))
    {c : Array Value} {vs t : List Value} (h1 : m.w.heap[B]? = some (.cells c et (0, 0))) (h2 : o ≤ c.size) (h3 : c.toList.drop o = vs ++ t) (k : Nat) (us : List Value) (hk : k + us.length ≤ vs.length)
    (hr : RepAll (fun x cs => r.rep m.w m.good x cs) l' (splice vs k us)) :
    Ext m h ⟨m.w.setRow B (splice c.toList (o + k) us).toArray, m.loc, m.good⟩ (hset h id (some (.arr et r l'))) ∧ Sim ⟨m.w.setRow B (splice c.toList (o + k) us).toArray, m.loc, m.good⟩ (hset h id (some (.arr et r l'))) := by
  have hlen : vs.length + t.length = c.size - o := by have := congrArg List.length h3; simp at this; omega
  have hsz : o + k + us.length ≤ c.toList.length := by simp; omega
  have wr := wrote_setRow h1 (splice c.toList (o + k) us).toArray (by simp [splice_length _ _ _ hsz])
  have hb : (Blk.arr et r l).like (.arr et r l') := ⟨rfl, rfl, hll.symm⟩
  refine ⟨ext_wrote S e hl wr hb, sim_wrote S e hl wr hb ?_⟩
  have E := ext_wrote S e hl wr hb
  refine .inr ⟨B, o, _, splice vs k us, t, hl, setRow_heap _ B c _ et (0, 0) h1, by simpa [splice_length _ _ _ hsz] using h2, ?_, RepAll.mono (fun x cs => Row.rep_mono (E.frozen S) r x cs) hr⟩
  simpa using splice_drop h3 (by simpa using h2) k us hk

theorem storeAt_ok {P : Program} {t : TypeId} {ti : TI} (k : TI.ok P t ti) {m : Mem} {h h' : Heap} (S : Sim m h) {a v : AV} (e : storeAt h ti a v = some h') {u x : Value} (q : Rel m h a u) (qv : Rel m h v x) :
    ∃ ad m', u = .pointer (some ad) ∧ (storeVar t ad x).run P m.w = .ok () m'.w ∧ Ext m h m' h' ∧ Sim m' h' := by
  unfold storeAt at e
  split at e
  · cases e
  · rename_i vs hv
    cases hb : Nat.beq vs.length ti.size with
    | false => simp only [hb, cond_false] at e; cases e
    | true =>
      simp only [hb, cond_true] at e
      have hcells := cells_rel hv qv
      have hlen : x.cells.toList.length = ti.size := by rw [← RelL.length hcells]; exact Nat.eq_of_beq_eq_true hb
      have hst : ∀ ad w', (storeCells ad x.cells.toList).run P m.w = .ok () w' → (storeVar t ad x).run P m.w = .ok () w' := fun ad w' hh => by
        have hs : x.cells.size = ti.size := by simpa using hlen
        simp [storeVar, k.size_run, hs, hh]
      have hone := RelL.cells1 hcells
      split at e
      · rename_i id off
        split at e
        · rename_i vt cs hg
          split at e
          · rename_i cs' hf
            injection e with e; subst e
            simp only [Rel] at q
            obtain ⟨B, hl, rfl⟩ := q.2 _ cs hg
            obtain ⟨B', c, h1, h2, h3⟩ := S.blk id _ hg
            rw [hl] at h1; injection h1 with h1; injection h1 with h1; subst h1
            obtain ⟨h4, h5⟩ := RelL.fillAt h3 hcells hf
            have hsz : off + x.cells.toList.length ≤ c.size := by simpa using h5
            have hl2 := splice_length c.toList off x.cells.toList h5
            have wr := wrote_setRow h2 (splice c.toList off x.cells.toList).toArray (by simpa using hl2)
            have hlike : (Blk.var vt cs).like (.var vt cs') := by
              refine ⟨rfl, ?_⟩
              show cs.length = cs'.length
              rw [RelL.length h3, RelL.length h4]; exact hl2.symm
            have E := ext_wrote S hg hl wr hlike
            refine ⟨_, ⟨_, m.loc, m.good⟩, rfl, hst _ _ (run_store_at h2 _ hsz hone), E, sim_wrote S hg hl wr hlike ⟨B, _, hl, setRow_heap _ B c _ _ (0, 0) h2, ?_⟩⟩
            rw [List.toList_toArray]
            exact RelL.mono S E true _ _ h4
          · cases e
        · cases e
      · rename_i id ix j
        split at e
        · rename_i vs' h1 hfz
          obtain ⟨m1, w1, E1, S1, r1⟩ := freezeL_ok vs S hfz hcells
          have q1 := Rel.mono S E1 _ _ q
          split at e
          · rename_i r l hg
            split at e
            · rename_i cs' hf
              split at e
              · rename_i y hy
                injection e with e; subst e
                simp only [Rel] at q1
                obtain ⟨B, o, hl, rfl, hix⟩ := q1.2 _ r l hg
                obtain ⟨c, us, t', h2, h3, h4, h5⟩ := arr_lies (S1.blk id _ hg) hl
                have hn := fun x cs (hx : r.rep m1.w m1.good x cs) => Row.rep_length r x cs hx
                have hrow := RepAll.get hn ix h5 hix
                have hul := RepAll.length hn h5
                have eg : l.getD ix r.dflt = l[ix] := by simp [List.getD, List.getElem?_eq_getElem hix]
                rw [eg] at hf
                obtain ⟨h6, h7⟩ := RelL.fillAt (Row.avs_rel (h := h1) r l[ix] _ hrow) r1 hf
                have hm : ix * r.size + r.size ≤ us.length := by rw [hul]; have := Nat.mul_le_mul_right r.size (Nat.succ_le_of_lt hix); rw [Nat.succ_mul] at this; exact this
                have hrl : ((us.drop (ix * r.size)).take r.size).length = r.size := by simp; omega
                rw [hrl] at h7
                have hrep := Row.of_rel r cs' y _ hy h6
                have hset := RepAll.set hn ix h5 hix y _ hrep
                have heq : us.take (ix * r.size) ++ ((us.drop (ix * r.size)).take r.size).take j ++ x.cells.toList ++ ((us.drop (ix * r.size)).take r.size).drop (j + x.cells.toList.length) ++ us.drop (ix * r.size + r.size) = splice us (ix * r.size + j) x.cells.toList := by
                  have := splice_mid (us.take (ix * r.size)) ((us.drop (ix * r.size)).take r.size) (us.drop (ix * r.size + r.size)) x.cells.toList j (by rw [hrl]; exact h7)
                  have l1 : (us.take (ix * r.size)).length = ix * r.size := by simp; omega
                  have e1 : us.take (ix * r.size) ++ ((us.drop (ix * r.size)).take r.size ++ us.drop (ix * r.size + r.size)) = us := by
                    rw [← List.drop_drop, List.take_append_drop, List.take_append_drop]
                  rw [l1, e1] at this
                  rw [this]; unfold splice; simp
                rw [← List.append_assoc, ← List.append_assoc, heq] at hset
                obtain ⟨m2, hs2, E2, S2⟩ := arr_write S1 hg (by simp : (l.set ix y).length = l.length) hl h2 h3 h4 (ix * r.size + j) x.cells.toList (by omega) hset P hone
                refine ⟨_, m2, rfl, hst _ _ ?_, E1.trans E2, S2⟩
                rw [w1] at hs2
                rw [Nat.add_assoc]
                exact hs2
              · cases e
            · cases e
          · cases e
        · cases e
      · cases e

/-! ### append, copy, make -/
theorem tyKind_ok {P : Program} {tab : List (TypeId × TI)} (hE : ∀ t ti, tyFind tab t = some ti → TI.ok P t ti) {t : TypeId} {k : TK} (e : tyKind tab t = some k) :
    ∃ ti, tyFind tab t = some ti ∧ ∃ d, P.underlying t = some d ∧ kindOk k d = true := by
  unfold tyKind at e
  split at e
  · rename_i ti h; injection e with e; subst e
    obtain ⟨d, h1, h2⟩ := (hE t ti h).desc
    exact ⟨ti, h, d, h1, h2⟩
  · cases e
theorem sliceRow_ok {P : Program} {E : Env} {et : TypeId} (hE : ∀ t ti, tyFind E.tab t = some ti → TI.ok P t ti) {t : TypeId} {r : Row} {te : TI} (e : sliceRow E t = some (et, r, te)) :
    ∃ elem i z, elem = et ∧ P.underlying t = some (.slice elem) ∧ TI.ok P elem te ∧ P.info? elem = some i ∧ i.size = r.size ∧ i.bytes = te.bytes ∧ i.zero = some z ∧ zeroCells te.zero z.cells.toList = true ∧ te.zero.length = r.size ∧ te.size = r.size := by
  unfold sliceRow at e
  split at e
  · rename_i el hk
    split at e
    · rename_i te' hte
      split at e
      · rename_i r' hr
        injection e with e; injection e with e0 e; injection e with e1 e2; subst e0; subst e1; subst e2
        obtain ⟨ti, hti, d, hd1, hd2⟩ := tyKind_ok hE hk
        have hok := hE _ _ hte
        obtain ⟨i, z, g1, g2, g3, g4, g5, g6⟩ := hok.info
        have hrs := hok.row _ hr
        refine ⟨el, i, z, rfl, ?_, hok, g1, g2.trans hrs.symm, g3, g4, g5, g6.trans hrs.symm, hrs.symm⟩
        cases d <;> simp [kindOk] at hd2
        rw [hd1, ← hd2]
      · cases e
    · cases e
  · cases e

theorem growBy_le (n : Nat) : ∀ (k c : Nat), Builtin.growBy n k c ≤ max c ((n - 1) + (n - 1 + 768) / 4)
  | 0, c => by simp [Builtin.growBy]; omega
  | k + 1, c => by
    simp only [Builtin.growBy]
    split
    · omega
    · have := growBy_le n k (c + (c + 768) / 4)
      omega
theorem nextcap_le (n c : Nat) (h : c < n) : Builtin.nextslicecap n c ≤ 2 * n + 768 := by
  unfold Builtin.nextslicecap
  split
  · omega
  · split
    · omega
    · have := growBy_le n 4 c
      omega

theorem zeros_size (z : Array Value) (n : Nat) : (Builtin.zeroCells z n).size = n * z.size := by simp [Builtin.zeroCells]

theorem append_grow {P : Program} {m : Mem} {r : Row} {elem st xt ty : TypeId} {i : TypeInfo} {z : Value} (hu : P.underlying st = some (.slice elem)) (hx : P.underlying xt = some .string ∨ ∃ e, P.underlying xt = some (.slice e))
    (hi : P.info? elem = some i) (hsz : i.size = r.size) (hby : i.bytes ≤ 256) (hz : i.zero = some z) (hzs : z.cells.size = r.size)
    {l xs : List r.den} {xv : Value} {us vs : List Value} {base : Option Addr} {cap : Nat} (hcap : cap < List.length l + List.length xs) (hs : Src P m r l (.slice base (List.length l) cap) us) (hx' : Src P m r xs xv vs)
    (hb : List.length l + List.length xs ≤ maxAppend) :
    ∃ w' c cap', (Builtin.append_ #[st, xt] ty #[.slice base (List.length l) cap, xv]).run P m.w = .ok (.slice (some ⟨m.w.heap.size, 0, none⟩) (List.length l + List.length xs) cap') w' ∧
      Pushed m.w w' (.cells c elem) ∧ List.length l + List.length xs ≤ cap' ∧ c.size = cap' * r.size ∧ ∃ t, c.toList = us ++ vs ++ t := by
  have hn := fun x cs (hx : r.rep m.w m.good x cs) => Row.rep_length r x cs hx
  have f1 := hs.first m.w.drew rfl _ (Nat.le_refl _)
  have f2 := hx'.first m.w.drew rfl _ (Nat.le_refl _)
  have l1 := RepAll.length hn hs.rep
  have l2 := RepAll.length hn hx'.rep
  rw [← l1, List.take_length] at f1
  rw [← l2, List.take_length] at f2
  have hge := grownCap_ge m.w (List.length l + List.length xs) cap elem
  have hnc := nextcap_le (List.length l + List.length xs) cap hcap
  unfold maxAppend at hb
  have hbig : ¬ (2 ^ 48 < Builtin.nextslicecap (List.length l + List.length xs) cap * i.bytes) := by
    have := Nat.mul_le_mul hnc hby
    omega
  have h64 : ¬ (IntKind.i64.max < ((List.length l : Int) + (List.length xs : Int))) := by simp [IntKind.max, IntKind.bits, IntKind.signed]; omega
  have hroom : ¬ (List.length l + List.length xs ≤ cap) := by omega
  have h64' : ¬ ((9223372036854775807 : Int) < (List.length l : Int) + (List.length xs : Int)) := by omega
  have hq : Question.forced (.appendCap (List.length l + List.length xs) cap elem) = false := rfl
  refine ⟨m.w.drew.alloc (.cells (us.toArray ++ vs.toArray ++ Builtin.zeroCells z.cells (grownCap m.w (List.length l + List.length xs) cap elem - (List.length l + List.length xs))) elem), _, grownCap m.w (List.length l + List.length xs) cap elem, ?_, Pushed.drewAlloc _ _, hge, ?_, Builtin.zeroCells z.cells (grownCap m.w (List.length l + List.length xs) cap elem - (List.length l + List.length xs)) |>.toList, by simp⟩
  · rcases hx with hx | ⟨e, hx⟩
    all_goals simp [Builtin.append_, run_underlying hu, run_underlying hx, sizeOf, typeInfo, hi, hx'.len, hroom, hbig, h64, hq, hsz, zeroValue, hz, newRow, f1, f2]
    all_goals rw [if_neg (fun h => h64' h.1)]
    all_goals unfold grownCap
    all_goals rw [← List.append_toArray, Array.append_assoc]
  · simp only [Array.size_append, List.size_toArray, zeros_size, hzs, l1, l2, ← Nat.add_mul]
    congr 1
    omega

theorem append_room {P : Program} {m : Mem} {r : Row} {elem st xt ty : TypeId} {i : TypeInfo} (hu : P.underlying st = some (.slice elem)) (hx : P.underlying xt = some .string ∨ ∃ e, P.underlying xt = some (.slice e))
    (hi : P.info? elem = some i) (hsz : i.size = r.size) {n : Nat} {xs : List r.den} {xv : Value} {vs : List Value} {B o cap : Nat} (hcap : n + List.length xs ≤ cap) (hx' : Src P m r xs xv vs)
    {c : Array Value} {e : TypeId} (h1 : m.w.heap[B]? = some (.cells c e (0, 0))) (ho : o + n * r.size + vs.length ≤ c.size) (hone : ∀ v ∈ vs, v.oneCell' = true) :
    (Builtin.append_ #[st, xt] ty #[.slice (some ⟨B, o, none⟩) n cap, xv]).run P m.w = .ok (.slice (some ⟨B, o, none⟩) (n + List.length xs) cap) (m.w.setRow B (splice c.toList (o + n * r.size) vs).toArray) := by
  have hn := fun x cs (hx : r.rep m.w m.good x cs) => Row.rep_length r x cs hx
  have f2 := hx'.first m.w rfl _ (Nat.le_refl _)
  rw [← RepAll.length hn hx'.rep, List.take_length] at f2
  have st' := run_store_at (P := P) h1 vs ho hone
  rcases hx with hx | ⟨e, hx⟩
  all_goals simp [Builtin.append_, run_underlying hu, run_underlying hx, sizeOf, typeInfo, hi, hx'.len, hcap, hsz, f2, addr_add, st']
theorem append_room0 {P : Program} {m : Mem} {r : Row} {elem st xt ty : TypeId} {i : TypeInfo} (hu : P.underlying st = some (.slice elem)) (hx : P.underlying xt = some .string ∨ ∃ e, P.underlying xt = some (.slice e))
    (hi : P.info? elem = some i) (hsz : i.size = r.size) {xs : List r.den} {xv : Value} {vs : List Value} {base : Option Addr} (hxs : xs = []) (hx' : Src P m r xs xv vs) :
    (Builtin.append_ #[st, xt] ty #[.slice base 0 0, xv]).run P m.w = .ok (.slice base 0 0) m.w := by
  subst hxs
  have hv : vs = [] := by have := RepAll.length (fun x cs (hx : r.rep m.w m.good x cs) => Row.rep_length r x cs hx) hx'.rep; exact List.eq_nil_of_length_eq_zero (by simpa using this)
  subst hv
  have f2 := hx'.first m.w rfl 0 (Nat.le_refl _)
  have hl := hx'.len m.w
  simp only [List.length_nil] at hl
  rcases hx with hx | ⟨e, hx⟩
  all_goals (cases base <;> simp [Builtin.append_, run_underlying hu, run_underlying hx, sizeOf, typeInfo, hi, hl, hsz, f2, storeCells])

end Go.Proofs.YtklfdmnmiadgpaaAbs
