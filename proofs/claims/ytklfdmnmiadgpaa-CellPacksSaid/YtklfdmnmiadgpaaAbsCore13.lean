/- Conversions, lengths, cuts, addresses. -/
import Derived.Lib.ConvBytes
import Derived.Lib.Builder
import Derived.Lib.UnsafeStr
import Derived.Laws.BytesArg
import Derived.Laws.BytesString
import Derived.Test.YtklfdmnmiadgpaaAbsCore12
namespace Go.Proofs.YtklfdmnmiadgpaaAbs
set_option linter.unusedVariables false
set_option linter.unusedSimpArgs false
open Go
variable {R : Type}

theorem castList_as {α : Type} {r s : Row} (e : r.same s = true) (l : List r.den) : castList e l = (Row.same_eq r s e) ▸ l := rfl

/-- A row of bytes in memory is a row of numbers. -/
theorem bytes_vals {w : World} {g : Nat → Prop} : (l : List Int) → (vs : List Value) → RepAll (fun x cs => Row.rep w g (.one (.int .u8)) x cs) l vs → vs = l.map (Value.int .u8) ∧ ∀ n ∈ l, 0 ≤ n ∧ n < 256
  | [], vs, h => by simp only [RepAll] at h; subst h; simp
  | n :: l, vs, h => by
    obtain ⟨cs, rest, rfl, h1, h2⟩ := h
    simp only [Row.rep, CTy.rep] at h1
    obtain ⟨v, rfl, rfl, h3⟩ := h1
    obtain ⟨h4, h5⟩ := bytes_vals l rest h2
    subst h4
    refine ⟨rfl, fun k hk => ?_⟩
    rcases List.mem_cons.1 hk with rfl | hk
    · simpa [u8ok, kindEq] using h3
    · exact h5 k hk
theorem bytes_back (l : List Int) (h : ∀ n ∈ l, 0 ≤ n ∧ n < 256) : bytesOf (l.foldl (fun r n => r.push (UInt8.ofNat n.toNat)) ByteArray.empty) = l := by
  rw [foldl_push_bytes]
  unfold bytesOf
  have e0 : (⟨ByteArray.empty.data ++ (l.map fun n => UInt8.ofNat n.toNat).toArray⟩ : ByteArray).data.toList = l.map fun n => UInt8.ofNat n.toNat := by
    show (ByteArray.empty.data ++ (l.map fun n => UInt8.ofNat n.toNat).toArray).toList = _
    rw [Array.toList_append, List.toList_toArray]
    rfl
  rw [e0, List.map_map]
  have : ∀ (k : List Int), (∀ n ∈ k, 0 ≤ n ∧ n < 256) → k.map (fun n => ((UInt8.ofNat n.toNat).toNat : Int)) = k := fun k hk => by
    induction k with
    | nil => rfl
    | cons n k ih =>
      simp only [List.map_cons]
      rw [ih (fun x hx => hk x (by simp [hx]))]
      have := hk n (by simp)
      congr 1
      simp
      omega
  exact this l h

theorem conv_bytes {P : Program} {m : Mem} {h : Heap} {src dst e : TypeId} (hs : P.underlying src = some (.slice e)) (he : P.underlying e = some (.int .u8)) (hd : P.underlying dst = some .string)
    {l : List Int} {u : Value} {vs : List Value} (k : Src P m (.one (.int .u8)) l u vs) (hu : ∃ a n c, u = .slice a n c) : ∃ cv, (Go.convert src dst u).run P m.w = .ok cv m.w ∧ Rel m h (.str l) cv := by
  obtain ⟨a, n, c, rfl⟩ := hu
  rw [run_convert_bytes_string m.w src dst e a n c hs he hd]
  have hb := bytes_vals l vs k.rep
  have hn : n = List.length l := by have := k.len m.w; simp [Builtin.lenOf] at this; exact this
  cases a with
  | none =>
    have h0 := k.first m.w rfl (List.length l) (Nat.le_refl _)
    simp [Builtin.firstCells] at h0
    have : l = [] := by
      have h1 := RepAll.length (fun x cs (hx : (Row.one (.int .u8)).rep m.w m.good x cs) => Row.rep_length _ x cs hx) k.rep
      simp [Row.size] at h1 h0
      rcases h0 with h0 | h0
      · exact h0
      · rw [h0] at h1; exact List.eq_nil_of_length_eq_zero h1.symm
    subst this
    exact ⟨.string .empty, by simp [Conv.bytesToString], .empty, rfl, rfl⟩
  | some a =>
    have h0 := k.first m.w rfl (List.length l) (Nat.le_refl _)
    have h1 := RepAll.length (fun x cs (hx : (Row.one (.int .u8)).rep m.w m.good x cs) => Row.rep_length _ x cs hx) k.rep
    rw [List.take_of_length_le (by rw [h1]; exact Nat.le_refl _)] at h0
    simp only [Builtin.firstCells, Row.size, Nat.mul_one] at h0
    rw [hb.1] at h0
    refine ⟨_, run_bytesToString m.w a n c l (by rw [hn]; exact h0), _, rfl, bytes_back l hb.2⟩

theorem rowsOf_slice {m : Mem} {h : Heap} {r : Row} {a : AV} {xs : List r.den} (e : rowsOf h r a = some xs) (hs : ∀ l, a ≠ .str l) {u : Value} (q : Rel m h a u) : ∃ x n c, u = .slice x n c := by
  unfold rowsOf at e
  split at e
  · obtain ⟨a, n, c, rfl, _⟩ := q.1; exact ⟨_, _, _, rfl⟩
  · simp only [Rel] at q; subst q; exact ⟨_, _, _, rfl⟩
  · simp only [Rel] at q; obtain ⟨a, rfl⟩ := q; exact ⟨_, _, _, rfl⟩
  · split at e
    · rename_i s l hg
      simp only [Rel] at q
      rcases q.2 _ s l hg with ⟨_, _, a, rfl⟩ | ⟨B, o, cap, g1, rfl, _⟩ <;> exact ⟨_, _, _, rfl⟩
    · cases e
  · split at e
    · rename_i s l hg
      simp only [Rel] at q
      obtain ⟨a, cap, rfl, _⟩ := q.2 _ s l hg
      exact ⟨_, _, _, rfl⟩
    · cases e
  · rename_i l; exact absurd rfl (hs l)
  · cases e

theorem lies_self {P : Program} {u : TypeId} {n : Nat} (hc : P.cellsOf u = n) (hn : 0 < n) : liesAt P P.depth u 1 0 u 1 = true := by
  have hd : P.depth = (2 * (P.types.size + Made.depth) + 1) + 1 := rfl
  rw [hd]
  simp only [liesAt, Bool.or_eq_true]
  left
  rw [hd]
  have : ¬ n = 0 := by omega
  simp [rowAt, hc, this, sameLayout]

theorem convA_ok {P : Program} {E : Env} (hT : TabOk P E.tab) {h : Heap} {src dst : TypeId} {x v : AV} (e : convA E h src dst x = some v) (m : Mem) (u : Value) (S : Sim m h) (q : Rel m h x u) :
    ∃ cv m', (Go.convert src dst u).run P m.w = .ok cv m'.w ∧ Ext m h m' h ∧ Sim m' h ∧ Rel m' h v cv := by
  unfold convA at e
  split at e
  · rename_i ts td hts htd
    obtain ⟨ds, hs1, hs2⟩ := (hT.ti _ _ hts).desc
    obtain ⟨dd, hd1, hd2⟩ := (hT.ti _ _ htd).desc
    split at e
    · rename_i k j n hk
      injection e with e; subst e
      rw [hk] at hd2
      cases dd <;> simp [kindOk] at hd2
      have := kindEq_eq hd2; subst this
      rw [q.1]
      refine ⟨_, m, ?_, Ext.refl m h, S, rfl, u8_wrap _ _⟩
      simp [Go.convert, run_underlying hs1, run_underlying hd1, Conv.intToInt]
    · rename_i l hk
      injection e with e; subst e
      rw [hk] at hd2
      cases dd <;> simp [kindOk] at hd2
      obtain ⟨s, rfl, rfl⟩ := str_rel q
      refine ⟨_, m, ?_, Ext.refl m h, S, s, rfl, rfl⟩
      simp [Go.convert, run_underlying hs1, run_underlying hd1]
    · rename_i hk hstr
      rw [hk] at hd2
      cases dd <;> simp [kindOk] at hd2
      split at e
      · rename_i el hk2
        split at e
        · rename_i hk3
          split at e
          · rename_i l hl
            injection e with e; subst e
            obtain ⟨te, hte, de, he1, he2⟩ := tyKind_ok hT.ti hk3
            cases de <;> simp [kindOk] at he2
            have := kindEq_eq he2; subst this
            rw [hk2] at hs2
            cases ds <;> simp [kindOk] at hs2
            obtain ⟨vs, hsrc⟩ := rowsOf_ok (P := P) S hl q
            subst hs2
            obtain ⟨cv, g1, g2⟩ := conv_bytes (h := h) hs1 he1 hd1 hsrc (rowsOf_slice hl (fun l' => hstr l') q)
            exact ⟨cv, m, g1, Ext.refl m h, S, g2⟩
          · cases e
        · cases e
      · cases e
    · rename_i el l hk
      split at e
      · rename_i hk3
        injection e with e; subst e
        obtain ⟨te, hte, de, he1, he2⟩ := tyKind_ok hT.ti hk3
        cases de <;> simp [kindOk] at he2
        have := kindEq_eq he2; subst this
        rw [hk] at hd2
        cases dd <;> simp [kindOk] at hd2
        subst hd2
        obtain ⟨s, rfl, rfl⟩ := str_rel q
        have hrun := Lib.run_convert_string_bytes (P := P) m.w src dst el s hs1 hd1 he1
        have p : Pushed m.w (Lib.bytesWorld m.w el s) (.cells (Lib.bytesCells m.w el s) el ((Lib.bytesCells m.w el s).size, (Lib.bytesCells m.w el s).size + 1)) := by
          refine ⟨?_, rfl, rfl, rfl⟩
          apply Array.ext_getElem?
          intro j
          by_cases hj : j < m.w.heap.size
          · rw [Lib.bytesWorld_at_old m.w el s j hj, Array.getElem?_push, if_neg (by omega)]
          · by_cases hj2 : j = m.w.heap.size
            · subst hj2; rw [Lib.bytesWorld_at_new]; simp
            · rw [Array.getElem?_eq_none (by rw [Lib.bytesWorld_size]; omega), Array.getElem?_eq_none (by simp; omega)]
        have E2 := ext_free S p
        refine ⟨_, _, hrun, E2, sim_free S p, ?_, fun _ => ⟨_, _, _, rfl⟩⟩
        refine ⟨some ⟨m.w.heap.size, 0, none⟩, s.size, _, rfl, (bytesOf_length s).symm, grownCap_ge m.w s.size 0 el, .inr ⟨m.w.heap.size, 0, s.data.toList.map fun b => Value.int .u8 b.toNat, rfl, .inr rfl, rep_bytes _ _ _, ?_⟩⟩
        exact ⟨_, el, _, List.replicate (grownCap m.w s.size 0 el - s.size) (.int .u8 0), p.new, by simp [Lib.bytesCells]⟩
      · cases e
    · rename_i id off hk
      split at e
      · rename_i el _ cs hk2 hg
        split at e
        · rename_i te hte
          obtain ⟨hb, e⟩ := cond_some e
          simp only [Bool.and_eq_true, Nat.blt_eq] at hb
          injection e with e; subst e
          rw [hk] at hd2; rw [hk2] at hs2
          cases dd <;> simp [kindOk] at hd2
          cases ds <;> simp [kindOk] at hs2
          subst hs2
          have q0 := q
          simp only [Rel] at q
          obtain ⟨B, hl, rfl⟩ := q.2 _ cs hg
          obtain ⟨B', c, h1, h2, h3⟩ := S.blk id _ hg
          rw [hl] at h1; injection h1 with h1; injection h1 with h1; subst h1
          obtain ⟨i, z, i1, i2, i3, _⟩ := (hT.ti _ _ hte).info
          have hlen : cs.length = c.size := by have := RelL.length h3; simpa using this
          exact ⟨_, m, Lib.run_to_unsafe m.w ⟨B, off, none⟩ hs1 hd1 i1 (by rw [i2]; omega) (by simp [World.shape?, h2]; exact ⟨rfl, rfl⟩) (by simp; omega), Ext.refl m h, S, q0⟩
        · cases e
      · cases e
    · rename_i u' id off hk
      split at e
      · rename_i vt cs hk2 hg
        split at e
        · rename_i tu htu
          obtain ⟨hb, e⟩ := cond_some e
          simp only [Bool.and_eq_true, Nat.blt_eq] at hb
          obtain ⟨b1, b2, b3, b4⟩ := hb
          have b1 := Nat.eq_of_beq_eq_true b1; have b2 := Nat.eq_of_beq_eq_true b2; have b3 := Nat.eq_of_beq_eq_true b3
          injection e with e; subst e
          subst b1; subst b2
          rw [hk] at hd2; rw [hk2] at hs2
          cases dd <;> simp [kindOk] at hd2
          cases ds <;> simp [kindOk] at hs2
          subst hd2
          have q0 := q
          simp only [Rel] at q
          obtain ⟨B, hl, rfl⟩ := q.2 _ cs hg
          obtain ⟨B', c, h1, h2, h3⟩ := S.blk id _ hg
          rw [hl] at h1; injection h1 with h1; injection h1 with h1; subst h1
          obtain ⟨i, z, i1, i2, i3, _⟩ := (hT.ti _ _ htu).info
          have hlen : cs.length = c.size := by have := RelL.length h3; simpa using this
          have hco : P.cellsOf vt = c.size := by simp [Program.cellsOf, i1]; omega
          refine ⟨_, m, Lib.run_from_unsafe m.w ⟨B, 0, none⟩ (e := vt) (cells := c.size) hs1 hd1 i1 (by simp [World.shape?, h2]) ?_, Ext.refl m h, S, q0⟩
          rw [hco, Nat.div_self (by omega)]
          exact lies_self hco (by omega)
        · cases e
      · cases e
    · cases e
  · cases e

theorem lenOf_ok {P : Program} {m : Mem} {h : Heap} {x : AV} {n : Nat} (e : lenOf h x = some n) {u : Value} (q : Rel m h x u) : (∃ a c, u = .slice a n c) ∨ (∃ s, u = .string s ∧ s.size = n ∧ ∃ l, x = .str l) := by
  unfold lenOf at e
  split at e
  · injection e with e; subst e; obtain ⟨a, n, c, rfl, rfl, _⟩ := q.1; exact .inl ⟨_, _, rfl⟩
  · injection e with e; subst e; obtain ⟨s, rfl, rfl⟩ := str_rel q; exact .inr ⟨s, rfl, (bytesOf_length s).symm, _, rfl⟩
  · injection e with e; subst e; simp only [Rel] at q; subst q; exact .inl ⟨_, _, rfl⟩
  · injection e with e; subst e; simp only [Rel] at q; obtain ⟨a, rfl⟩ := q; exact .inl ⟨_, _, rfl⟩
  · split at e
    · rename_i s l hg
      injection e with e; subst e
      simp only [Rel] at q
      rcases q.2 _ s l hg with ⟨rfl, _, a, rfl⟩ | ⟨B, o, cap, g1, rfl, _⟩ <;> exact .inl ⟨_, _, rfl⟩
    · cases e
  · split at e
    · rename_i s l hg
      injection e with e; subst e
      simp only [Rel] at q
      obtain ⟨a, cap, rfl, _⟩ := q.2 _ s l hg
      exact .inl ⟨_, _, rfl⟩
    · cases e
  · cases e

theorem max1_ok {m : Mem} {h : Heap} {x y v : AV} (e : max1 x y = some v) {u w0 : Value} (q : Rel m h x u) (q' : Rel m h y w0) : ∃ cv, (∀ P w, (Builtin.max2 u w0).run P w = .ok cv w) ∧ Rel m h v cv := by
  unfold max1 at e
  split at e
  · rename_i k a j b
    obtain ⟨hk, e1⟩ := cond_some e
    have hkj := kindEq_eq hk; subst hkj
    injection e1 with e1; subst e1
    obtain ⟨rfl, ha⟩ := q
    obtain ⟨rfl, hb⟩ := q'
    refine ⟨_, fun P w => by simp only [Builtin.max2, Sem.run_pure], rfl, ?_⟩
    split
    · exact hb
    · exact ha
  · cases e
theorem maxA_ok {m : Mem} {h : Heap} : (xs : List AV) → {x v : AV} → maxA x xs = some v → {u : Value} → {us : List Value} → Rel m h x u → RelL m h false xs us → ∃ cv, (∀ P w, (us.foldlM Builtin.max2 u : Sem Value).run P w = .ok cv w) ∧ Rel m h v cv
  | [], x, v, e, u, us, q, q' => by
    simp only [RelL] at q'; subst q'
    simp only [maxA] at e; injection e with e; subst e
    exact ⟨u, fun P w => by simp, q⟩
  | y :: xs, x, v, e, u, us, q, q' => by
    simp only [RelL] at q'
    obtain ⟨w0, rest, rfl, q1, _, q2⟩ := q'
    simp only [maxA] at e
    split at e
    · rename_i z hz
      obtain ⟨c1, g1, g2⟩ := max1_ok hz q q1
      obtain ⟨cv, g3, g4⟩ := maxA_ok xs e g2 q2
      refine ⟨cv, fun P w => ?_, g4⟩
      simp only [List.foldlM_cons, Sem.run_bind, g1, Result.andThen_ok]
      exact g3 P w
    · cases e
theorem min1_ok {m : Mem} {h : Heap} {x y v : AV} (e : min1 x y = some v) {u w0 : Value} (q : Rel m h x u) (q' : Rel m h y w0) : ∃ cv, (∀ P w, (Builtin.min2 u w0).run P w = .ok cv w) ∧ Rel m h v cv := by
  unfold min1 at e
  split at e
  · rename_i k a j b
    obtain ⟨hk, e1⟩ := cond_some e
    have hkj := kindEq_eq hk; subst hkj
    injection e1 with e1; subst e1
    obtain ⟨rfl, ha⟩ := q
    obtain ⟨rfl, hb⟩ := q'
    refine ⟨_, fun P w => by simp only [Builtin.min2, Sem.run_pure], rfl, ?_⟩
    split
    · exact hb
    · exact ha
  · cases e
theorem minA_ok {m : Mem} {h : Heap} : (xs : List AV) → {x v : AV} → minA x xs = some v → {u : Value} → {us : List Value} → Rel m h x u → RelL m h false xs us → ∃ cv, (∀ P w, (us.foldlM Builtin.min2 u : Sem Value).run P w = .ok cv w) ∧ Rel m h v cv
  | [], x, v, e, u, us, q, q' => by
    simp only [RelL] at q'; subst q'
    simp only [minA] at e; injection e with e; subst e
    exact ⟨u, fun P w => by simp, q⟩
  | y :: xs, x, v, e, u, us, q, q' => by
    simp only [RelL] at q'
    obtain ⟨w0, rest, rfl, q1, _, q2⟩ := q'
    simp only [minA] at e
    split at e
    · rename_i z hz
      obtain ⟨c1, g1, g2⟩ := min1_ok hz q q1
      obtain ⟨cv, g3, g4⟩ := minA_ok xs e g2 q2
      refine ⟨cv, fun P w => ?_, g4⟩
      simp only [List.foldlM_cons, Sem.run_bind, g1, Result.andThen_ok]
      exact g3 P w
    · cases e

end Go.Proofs.YtklfdmnmiadgpaaAbs
