/- Literals, made slices. -/
import Derived.Test.YtklfdmnmiadgpaaAbsCore8
namespace Go.Proofs.YtklfdmnmiadgpaaAbs
set_option linter.unusedVariables false
set_option linter.unusedSimpArgs false
open Go
variable {R : Type}

theorem set_fold (off : Nat) : (vs : List Value) → (k : Nat) → (cs : Array Value) → off + k + vs.length ≤ cs.size →
    ((vs.zipIdx k).foldl (fun (cs : Array Value) (x : Value × Nat) => cs.setIfInBounds (off + x.2) x.1) cs).toList = splice cs.toList (off + k) vs
  | [], k, cs, h => by simp [splice]
  | v :: vs, k, cs, h => by
    simp only [List.zipIdx_cons, List.foldl_cons]
    rw [set_fold off vs (k + 1) (cs.setIfInBounds (off + k) v) (by simp at h ⊢; omega)]
    have := list_seg_step cs.toList (off + k) v vs (by simp at h ⊢; omega)
    unfold splice
    simp only [Array.toList_setIfInBounds]
    rw [show off + (k + 1) = off + k + 1 by omega]
    exact this

def PartsRel (m : Mem) (h : Heap) : List (Nat × AV) → List (Nat × Value) → Prop
  | [], us => us = []
  | p :: ps, us => ∃ v rest, us = (p.1, v) :: rest ∧ Rel m h p.2 v ∧ PartsRel m h ps rest

theorem fill_ok {m : Mem} {h : Heap} {place : Nat → Option (Nat × Nat)} : (ps : List (Nat × AV)) → {cs ws : List AV} → {us : List (Nat × Value)} → {c : Array Value} → fillParts place cs ps = some ws → PartsRel m h ps us → RelL m h true cs c.toList →
    ∃ d, Instr.fill place c us = some d ∧ RelL m h true ws d.toList
  | [], cs, ws, us, c, e, q, qc => by
    simp only [fillParts] at e; injection e with e; subst e
    simp only [PartsRel] at q; subst q
    exact ⟨c, rfl, qc⟩
  | (i, v) :: ps, cs, ws, us, c, e, q, qc => by
    simp only [PartsRel] at q
    obtain ⟨u, rest, rfl, q1, q2⟩ := q
    simp only [fillParts] at e
    split at e
    · rename_i off size vs hp hv
      cases hb : Nat.beq vs.length size with
      | false => simp only [hb, cond_false] at e; cases e
      | true =>
        simp only [hb, cond_true] at e
        split at e
        · rename_i cs' hf
          have hcells := cells_rel hv q1
          obtain ⟨h1, h2⟩ := RelL.fillAt qc hcells hf
          have hlen : u.cells.size = size := by have := RelL.length hcells; rw [Nat.eq_of_beq_eq_true hb] at this; simpa using this.symm
          have hle : off + u.cells.size ≤ c.size := by simpa using h2
          have hs := set_fold off u.cells.toList 0 c (by simpa using h2)
          obtain ⟨d, g1, g2⟩ := fill_ok ps (c := (u.cells.toList.zipIdx.foldl (fun (cs : Array Value) (x : Value × Nat) => cs.setIfInBounds (off + x.2) x.1) c)) e q2 (by rw [hs]; exact h1)
          refine ⟨d, ?_, g2⟩
          simp only [Instr.fill, hp]
          rw [if_neg (by simp [hlen]; omega)]
          rw [← g1]
          congr 1
          rw [← Array.foldl_toList]
          simp
        · cases e
    · cases e

theorem rows_len {m : Mem} {h : Heap} {r : Row} : (n : Nat) → {cs : List AV} → {us : List Value} → {l : List r.den} → rowsOfCells r r.size n cs = some l → RelL m h true cs us → n * r.size ≤ us.length → l.length = n ∧ RepAll (fun x cs => r.rep m.w m.good x cs) l (us.take (n * r.size))
  | 0, cs, us, l, e, q, hl => by
    simp only [rowsOfCells] at e; injection e with e; subst e
    exact ⟨rfl, by simp [RepAll]⟩
  | n + 1, cs, us, l, e, q, hl => by
    simp only [rowsOfCells] at e
    split at e
    · rename_i x l' h1 h2
      injection e with e; subst e
      rw [Nat.add_mul, Nat.one_mul] at hl ⊢
      obtain ⟨g1, g2⟩ := rows_len n h2 (RelL.drop r.size q) (by simp; omega)
      refine ⟨by simp [g1], us.take r.size, (us.drop r.size).take (n * r.size), ?_, Row.of_rel r _ x _ h1 (RelL.take r.size q), g2⟩
      rw [Nat.add_comm, List.take_add]
    · cases e

theorem range_flat (zs : List Value) : (k : Nat) → (List.range (k * zs.length)).map (fun i => zs.toArray[i % zs.length]!) = (List.replicate k zs).flatten
  | 0 => by simp
  | k + 1 => by
    rw [Nat.add_mul, Nat.one_mul, List.range_add, List.map_append, range_flat zs k, List.replicate_succ', List.flatten_append]
    congr 1
    rw [List.map_map]
    apply List.ext_getElem?
    intro i
    by_cases hi : i < zs.length
    · simp [hi, Nat.mul_add_mod_self_right, Nat.mod_eq_of_lt hi]
    · simp [hi]

theorem replicate_rep {α : Type} {p : α → List Value → Prop} {x : α} {zs : List Value} (h : p x zs) : (k : Nat) → RepAll p (List.replicate k x) (List.replicate k zs).flatten
  | 0 => rfl
  | k + 1 => ⟨zs, _, by simp [List.replicate_succ], h, replicate_rep h k⟩

theorem makeA_ok {P : Program} {E : Env} (hE : ∀ t ti, tyFind E.tab t = some ti → TI.ok P t ti) {h : Heap} {t : TypeId} {n c : Int} {K : AV → Heap → Option R} {res : R}
    (e : makeA E h t n c K = some res) : ∃ v h', K v h' = some res ∧ ∀ (m : Mem) (kl kc : IntKind), Sim m h →
      ∃ cv m', (Instr.makeSlice t (.int kl n) (.int kc c)).run P m.w = .ok cv m'.w ∧ Ext m h m' h' ∧ Sim m' h' ∧ Rel m' h' v cv := by
  unfold makeA at e
  split at e
  · cases e
  · rename_i et r te hsr
    obtain ⟨elem, i, z, het, hu, hok, hi, hsz, hby, hz, hzc, hzl, hts⟩ := sliceRow_ok hE hsr
    subst het
    split at e
    · cases e
    · rename_i x hx
      cases hb : (decide (0 ≤ n) && decide (n ≤ c) && decide (c ≤ (maxAppend : Int)) && Nat.ble te.bytes 256) with
      | false => rw [hb] at e; cases e
      | true =>
        rw [hb] at e; simp only [cond_true] at e
        simp only [Bool.and_eq_true, decide_eq_true_eq] at hb
        obtain ⟨⟨⟨h0, hnc⟩, hcm⟩, hbb⟩ := hb
        have hbb' := Nat.le_of_ble_eq_true hbb
        refine ⟨_, _, e, fun m kl kc S => ?_⟩
        have hzr := zero_rel (m := m) (h := h) te.zero z.cells.toList hzc
        have hzlen : z.cells.toList.length = r.size := by rw [← RelL.length hzr]; exact hzl
        have hrep := Row.of_rel r te.zero x _ hx hzr
        have hbytes : (i.bytes : Int) * c ≤ 281474976710656 := by
          have h1 : (i.bytes : Int) ≤ 256 := by rw [hby]; exact Int.ofNat_le.2 hbb'
          have h2 : (0 : Int) ≤ c := by omega
          unfold maxAppend at hcm
          have := Int.mul_le_mul_of_nonneg_right h1 h2
          omega
        have hrun := run_make (P := P) m.w t elem i z hu hi hz kl kc n c h0 hnc hbytes (by unfold maxAppend at hcm; omega)
        have hflat : (madeCells z.cells (c.toNat * i.size)).toList = (List.replicate n.toNat z.cells.toList).flatten ++ (List.replicate (c.toNat - n.toNat) z.cells.toList).flatten := by
          rw [← List.flatten_append, List.replicate_append_replicate]
          have := range_flat z.cells.toList c.toNat
          rw [hzlen] at this
          unfold madeCells
          rw [hsz, Array.toList_map, Array.toList_range, show n.toNat + (c.toNat - n.toNat) = c.toNat by omega, ← this]
          apply List.map_congr_left
          intro k _
          have : z.cells.size = r.size := by simpa using hzlen
          rw [this]
        obtain ⟨g1, g2, g3⟩ := push_row S (Pushed.alloc m.w _) hflat (replicate_rep hrep n.toNat) (l := List.replicate n.toNat x) (cap := c.toNat) (by simp; omega) (by simp [madeCells, hsz])
        refine ⟨_, _, hrun, g1, g2, ?_⟩
        rw [List.length_replicate] at g3
        exact g3

theorem appendZ_ok {P : Program} {E : Env} (hE : ∀ t ti, tyFind E.tab t = some ti → TI.ok P t ti) {h : Heap} {t xt : TypeId} {n : Int} {kx : IntKind} (hxt : P.underlying xt = some (.int kx)) {K : AV → Heap → Option R} {res : R}
    (e : appendZ E h t n K = some res) : ∃ v h', K v h' = some res ∧ ∀ (m : Mem) (k : IntKind) (base : Option Addr) (ty : TypeId), Sim m h →
      ∃ cv m', (Builtin.append_ #[t, xt] ty #[.slice base 0 0, .int k n]).run P m.w = .ok cv m'.w ∧ Ext m h m' h' ∧ Sim m' h' ∧ Rel m' h' v cv := by
  unfold appendZ at e
  split at e
  · cases e
  · rename_i et r te hsr
    obtain ⟨elem, i, z, het, hu, hok, hi, hsz, hby, hz, hzc, hzl, hts⟩ := sliceRow_ok hE hsr
    subst het
    split at e
    · cases e
    · rename_i x hx
      cases hb : (decide (0 < n) && decide (n ≤ (maxAppend : Int)) && Nat.ble te.bytes 256) with
      | false => rw [hb] at e; cases e
      | true =>
        rw [hb] at e; simp only [cond_true] at e
        simp only [Bool.and_eq_true, decide_eq_true_eq] at hb
        obtain ⟨⟨h0, hcm⟩, hbb⟩ := hb
        have hbb' := Nat.le_of_ble_eq_true hbb
        refine ⟨_, _, e, fun m k base ty S => ?_⟩
        obtain ⟨q, rfl⟩ : ∃ q : Nat, n = (q : Int) := ⟨n.toNat, by omega⟩
        have hq0 : 0 < q := by omega
        unfold maxAppend at hcm
        have hqm : q ≤ 274877906944 := by omega
        have hzr := zero_rel (m := m) (h := h) te.zero z.cells.toList hzc
        have hzlen : z.cells.toList.length = r.size := by rw [← RelL.length hzr]; exact hzl
        have hzs : z.cells.size = r.size := by simpa using hzlen
        have hrep := Row.of_rel r te.zero x _ hx hzr
        have hrp := Row.size_pos r
        have hge := grownCap_ge m.w q 0 elem
        have hwrap : IntKind.i64.wrap (q : Int) = (q : Int) := by simp [IntKind.wrap, IntKind.bits, IntKind.signed]; omega
        have hbytes : ¬ ((281474976710656 : Int) < (q : Int) * (i.bytes : Int)) := by
          have h1 : q * i.bytes ≤ 274877906944 * 256 := Nat.mul_le_mul hqm (by rw [hby]; exact hbb')
          have h2 : ((q * i.bytes : Nat) : Int) ≤ 70368744177664 := by omega
          rw [Int.natCast_mul] at h2
          omega
        have hnc : Builtin.nextslicecap q 0 = q := by unfold Builtin.nextslicecap; rw [if_pos (by omega)]
        have hbig : ¬ (281474976710656 < q * i.bytes) := by
          have h1 : q * i.bytes ≤ 274877906944 * 256 := Nat.mul_le_mul hqm (by rw [hby]; exact hbb')
          omega
        have h64 : ¬ ((9223372036854775807 : Int) < (q : Int)) := by omega
        have hqq : Question.forced (.appendCap q 0 elem) = false := rfl
        have hflatN : ∀ k : Nat, (Builtin.zeroCells z.cells k).toList = (List.replicate k z.cells.toList).flatten := fun k => by
          have := range_flat z.cells.toList k
          rw [← this]
          unfold Builtin.zeroCells
          rw [Array.toList_map, Array.toList_range]
          rw [Array.length_toList]
        have hrun : (Builtin.append_ #[t, xt] ty #[.slice base 0 0, .int k (q : Int)]).run P m.w = .ok (.slice (some ⟨m.w.heap.size, 0, none⟩) q (grownCap m.w q 0 elem)) (m.w.drew.alloc (.cells (Builtin.zeroCells z.cells q ++ Builtin.zeroCells z.cells (grownCap m.w q 0 elem - q)) elem)) := by
          have hneg : ¬ ((q : Int) < 0) := by omega
          have hmul : ¬ (q * i.size = 0) := by rw [hsz]; exact Nat.ne_of_gt (Nat.mul_pos hq0 hrp)
          have hq1 : ¬ (q = 0) := by omega
          cases base with
          | none =>
            simp [Builtin.append_, run_underlying hu, run_underlying hxt, sizeOf, typeInfo, hi, asInt, asIntOf, hwrap, hneg, hmul, hq1, hbytes, hnc, hbig, h64, hqq, zeroValue, hz, newRow, Builtin.firstCells]
            unfold grownCap
            exact ⟨rfl, rfl⟩
          | some a =>
            simp [Builtin.append_, run_underlying hu, run_underlying hxt, sizeOf, typeInfo, hi, asInt, asIntOf, hwrap, hneg, hmul, hq1, hbytes, hnc, hbig, h64, hqq, zeroValue, hz, newRow, Builtin.firstCells, loadCells, loadCellsFrom]
            unfold grownCap
            exact ⟨rfl, rfl⟩
        obtain ⟨g1, g2, g3⟩ := push_row S (Pushed.drewAlloc m.w (.cells (Builtin.zeroCells z.cells q ++ Builtin.zeroCells z.cells (grownCap m.w q 0 elem - q)) elem)) (by rw [Array.toList_append, hflatN, hflatN]) (replicate_rep hrep q) (l := List.replicate q x) (cap := grownCap m.w q 0 elem) (by simp; exact hge)
          (by rw [Array.size_append, zeros_size, zeros_size, hzs, ← Nat.add_mul]; congr 1; omega)
        refine ⟨_, _, hrun, g1, g2, ?_⟩
        simpa [rowN] using g3

theorem partsOf_rel {m : Mem} {h : Heap} {T : List AV} {f : Operand → Value} : (ps : List (Nat × Operand)) → (∀ x ∈ ps.map (·.2), Rel m h (ev T x) (f x)) → PartsRel m h (ps.map fun p => (p.1, ev T p.2)) (ps.map fun p => (p.1, f p.2))
  | [], _ => rfl
  | p :: ps, hq => ⟨f p.2, _, rfl, hq _ (by simp), partsOf_rel ps (fun x hx => hq x (by simp at hx ⊢; exact .inr hx))⟩

theorem flat_rel {m : Mem} {h : Heap} {l : List AV} {vs : List Value} (q : RelL m h true l vs) : (k : Nat) → RelL m h true (List.replicate k l).flatten (List.replicate k vs).flatten
  | 0 => rfl
  | k + 1 => by
    simp only [List.replicate_succ, List.flatten_cons]
    exact RelL.append q (flat_rel q k)

/-- Frozen at birth: nobody owns the new block. -/
theorem ext_free {m : Mem} {h : Heap} (S : Sim m h) {w' : World} {ob : Obj} (p : Pushed m.w w' ob) : Ext m h ⟨w', m.loc, fun B => m.good B ∨ B = m.w.heap.size⟩ h where
  os := p.os
  tape := p.tape
  output := p.output
  size := by show m.w.heap.size ≤ w'.heap.size; rw [p.size]; omega
  keep := fun B hB hn => ⟨p.old hB, hn⟩
  good := fun B k => .inl k
  back := fun B k => by
    rcases k with k | k
    · exact .inl k
    · subst k; exact .inr (.inr (Nat.le_refl _))
  len := Nat.le_refl _
  dead := fun _ _ e => e
  live := fun id b1 b2 e1 e2 => by
    rw [e1] at e2; injection e2 with e2; subst e2
    exact ⟨rfl, Blk.like_refl _, fun B o l => shape_of_heap (p.old ((S.blk id b1 e1).lt l))⟩
theorem sim_free {m : Mem} {h : Heap} (S : Sim m h) {w' : World} {ob : Obj} (p : Pushed m.w w' ob) : Sim ⟨w', m.loc, fun B => m.good B ∨ B = m.w.heap.size⟩ h := by
  refine S.of_ext (ext_free S p) (fun id b' e => .inl ⟨e, fun B o l => p.old ((S.blk id b' e).lt l)⟩) S.inj (fun i b B o e l k => ?_) (fun B k => ?_)
  · rcases k with k | k
    · exact S.sep i b B o e l k
    · have := (S.blk i b e).lt l; omega
  · show B < w'.heap.size
    rw [p.size]
    rcases k with k | k
    · have := S.lt B k; omega
    · omega

theorem fillParts_length {place : Nat → Option (Nat × Nat)} : (ps : List (Nat × AV)) → {cs ws : List AV} → fillParts place cs ps = some ws → ws.length = cs.length
  | [], cs, ws, e => by simp only [fillParts] at e; injection e with e; subst e; rfl
  | (i, v) :: ps, cs, ws, e => by
    simp only [fillParts] at e
    split at e
    · rename_i off size vs hp hv
      cases hb : Nat.beq vs.length size with
      | false => simp only [hb, cond_false] at e; cases e
      | true =>
        simp only [hb, cond_true] at e
        split at e
        · rename_i cs' hf
          rw [fillParts_length ps e]
          unfold fillAt at hf
          cases hc : Nat.ble (off + vs.length) cs.length with
          | false => simp only [hc, cond_false] at hf; cases hf
          | true =>
            simp only [hc, cond_true] at hf; injection hf with hf; subst hf
            exact splice_length _ _ _ (Nat.le_of_ble_eq_true hc)
        · cases e
    · cases e

theorem buildSl_ok {P : Program} {E : Env} (hE : ∀ t ti, tyFind E.tab t = some ti → TI.ok P t ti) {h : Heap} {t : TypeId} {len : Nat} {ps : List (Nat × AV)} {own : Bool} {K : AV → Heap → Option R} {res : R}
    (e : buildSl E h t len ps own K = some res) : ∃ v h', K v h' = some res ∧ ∀ (m : Mem) (us : Array (Nat × Value)), Sim m h → PartsRel m h ps us.toList →
      ∃ cv m', (Instr.buildSlice t len us).run P m.w = .ok cv m'.w ∧ Ext m h m' h' ∧ Sim m' h' ∧ Rel m' h' v cv := by
  unfold buildSl at e
  split at e
  · cases e
  · rename_i et r te hsr
    obtain ⟨elem, i, z, het, hu, hok, hi, hsz, hby, hz, hzc, hzl, hts⟩ := sliceRow_ok hE hsr
    subst het
    cases h0 : Nat.beq len 0 with
    | true =>
      simp only [h0, cond_true] at e
      have hl := Nat.eq_of_beq_eq_true h0; subst hl
      split at e
      · refine ⟨_, _, e, fun m us S q => ?_⟩
        simp only [PartsRel] at q
        have hus : us = #[] := by cases us; simp at q; subst q; rfl
        subst hus
        have p : Pushed m.w (m.w.alloc (.cells #[] elem)) (.cells #[] elem) := Pushed.alloc _ _
        refine ⟨.slice (some ⟨m.w.heap.size, 0, none⟩) 0 0, _, ?_, ext_free S p, sim_free S p, ⟨_, rfl⟩⟩
        simp [Instr.buildSlice, run_underlying hu, sizeOf, typeInfo, hi, Instr.fill, newRow]
        congr 2
        apply Array.ext'
        simp
      · cases e
    | false =>
      simp only [h0, cond_false] at e
      split at e
      · cases e
      · rename_i cs hcs
        split at e
        · cases e
        · rename_i cs' h' hfz
          split at e
          · cases e
          · rename_i l hl
            cases hb : Nat.ble (len * te.size) 65536 with
            | false => rw [hb] at e; cases e
            | true =>
              rw [hb] at e; simp only [cond_true] at e
              have hbl := Nat.le_of_ble_eq_true hb
              rw [hts] at hl hcs hbl
              have hlen0 : len ≠ 0 := fun q => by subst q; simp at h0
              have hpos := Row.size_pos r
              have key : ∀ (m : Mem) (us : Array (Nat × Value)), Sim m h → PartsRel m h ps us.toList → ∃ m1 d, m1.w = m.w ∧ Ext m h m1 h' ∧ Sim m1 h' ∧ (Instr.buildSlice t len us).run P m.w = .ok (.slice (some ⟨m.w.heap.size, 0, none⟩) len len) (m.w.alloc (.cells d elem)) ∧
                  l.length = len ∧ RepAll (fun x cs => r.rep m1.w m1.good x cs) l d.toList ∧ d.size = len * r.size := fun m us S q => by
                have hzr := zero_rel (m := m) (h := h) te.zero z.cells.toList hzc
                have hzlen : z.cells.toList.length = r.size := by rw [← RelL.length hzr]; exact hzl
                have hfl := flat_rel hzr len
                have hrf := range_flat z.cells.toList len
                rw [hzlen] at hrf
                have hinit : ((Array.range (len * r.size)).map (fun k => z.cells[k % z.cells.size]!)).toList = (List.replicate len z.cells.toList).flatten := by
                  rw [Array.toList_map, Array.toList_range, ← hrf]
                  apply List.map_congr_left
                  intro k _
                  have : z.cells.size = r.size := by simpa using hzlen
                  rw [this]
                rw [← hinit] at hfl
                obtain ⟨d, g1, g2⟩ := fill_ok ps hcs q hfl
                obtain ⟨m1, w1, E1, S1, r1⟩ := freezeL_ok cs S hfz g2
                have hdl : d.toList.length = len * r.size := by
                  rw [← RelL.length g2, fillParts_length ps hcs]
                  simp [hzl]
                obtain ⟨k1, k2⟩ := rows_len len hl r1 (by omega)
                rw [← hdl, List.take_length] at k2
                refine ⟨m1, d, w1, E1, S1, ?_, k1, k2, by simpa using hdl⟩
                have hne : ¬ (len * r.size = 0) := by
                  intro hq
                  rcases Nat.mul_eq_zero.1 hq with hq | hq <;> omega
                have hbig : ¬ (16777216 < len * r.size) := by omega
                have g1' : Instr.fill (fun i => some (i * r.size, r.size)) ((Array.range (len * r.size)).map (fun k => z.cells[k % z.cells.size]!)) us.toList = some d := g1
                simp [Instr.buildSlice, run_underlying hu, sizeOf, typeInfo, hi, hsz, hbig, hne, zeroValue, hz, g1', newRow]
              cases own with
              | true =>
                simp only [cond_true] at e
                refine ⟨_, _, e, fun m us S q => ?_⟩
                obtain ⟨m1, d, w1, E1, S1, hrun, k1, k2, k3⟩ := key m us S q
                have p : Pushed m1.w (m.w.alloc (.cells d elem)) (.cells d elem) := by rw [w1]; exact Pushed.alloc _ _
                obtain ⟨g1, g2, g3⟩ := push_row S1 p (List.append_nil _).symm k2 (cap := len) (by omega) k3
                rw [k1, w1] at g3
                exact ⟨_, _, hrun, E1.trans g1, g2, g3⟩
              | false =>
                simp only [cond_false] at e
                refine ⟨_, _, e, fun m us S q => ?_⟩
                obtain ⟨m1, d, w1, E1, S1, hrun, k1, k2, k3⟩ := key m us S q
                have p : Pushed m1.w (m.w.alloc (.cells d elem)) (.cells d elem) := by rw [w1]; exact Pushed.alloc _ _
                have E2 := ext_free S1 p
                refine ⟨_, _, hrun, E1.trans E2, sim_free S1 p, ?_, fun _ => ⟨_, _, _, rfl⟩⟩
                refine ⟨some ⟨m.w.heap.size, 0, none⟩, len, len, rfl, k1.symm, Nat.le_refl _, .inr ⟨m.w.heap.size, 0, d.toList, rfl, .inr (by rw [w1]), RepAll.mono (fun x cs => Row.rep_mono (E2.frozen S1) r x cs) k2, ?_⟩⟩
                exact ⟨d, elem, (0, 0), [], by have := p.new; rw [w1] at this; exact this, by simp⟩

end Go.Proofs.YtklfdmnmiadgpaaAbs
