/- One operation: what the abstract step says holds of the model. -/
import Derived.Test.YtklfdmnmiadgpaaAbsCore26
namespace Go.Proofs.YtklfdmnmiadgpaaAbs
set_option linter.unusedVariables false
set_option linter.unusedSimpArgs false
open Go
variable {R : Type}

def CallRuns (P : Program) (f : FuncId) (args : List AV) (h : Heap) (v : AV) (h' : Heap) : Prop :=
  ∀ (m : Mem) (us : List Value), Sim m h → RelL m h false args us →
    Calls P f us.toArray m.w fun e w' => ∃ m' cv, m'.w = w' ∧ e = .returned cv ∧ Ext m h m' h' ∧ Sim m' h' ∧ Rel m' h' v cv
def FnOk (P : Program) (f : FuncId) : Prop := ∃ fn, P.funcs[f]? = some fn ∧ fn.body.isSome = true ∧ (fn.name == "runtime.NumGoroutine") = false
def CallOk (P : Program) (call : CallF R) : Prop :=
  ∀ f args h K res, call f args h K = some res → ∃ v h', K v h' = some res ∧ FnOk P f ∧ CallRuns P f args h v h'

def OpSem (P : Program) (o : Oper) (T : List AV) (h : Heap) (v : AV) (h' : Heap) : Prop :=
  ∀ (m : Mem) (a : Act), Sim m h → (∀ x ∈ o.op.operands.toList, Rel m h (ev T x) (a.eval x)) → ∀ (next : Act → World → Prop) (Q : Exit → Act → World → Prop),
    (∀ m' cv, Ext m h m' h' → Sim m' h' → Rel m' h' v cv → next (a.put o.dst cv) m'.w) → o.wp P a m.w next Q

theorem opsem_val {P : Program} {o : Oper} {T : List AV} {h h' : Heap} {v : AV}
    (k : ∀ (m : Mem) (a : Act), Sim m h → (∀ x ∈ o.op.operands.toList, Rel m h (ev T x) (a.eval x)) → ∃ cv m', (execOp a.eval o).run P m.w = .ok (.value cv) m'.w ∧ Ext m h m' h' ∧ Sim m' h' ∧ Rel m' h' v cv) : OpSem P o T h v h' := by
  intro m a S q next Q hn
  obtain ⟨cv, m', h1, h2, h3, h4⟩ := k m a S q
  unfold Oper.wp
  rw [h1, Oper.upon_value]
  exact hn m' cv h2 h3 h4
theorem opsem_same {P : Program} {o : Oper} {T : List AV} {h : Heap} {v : AV}
    (k : ∀ (m : Mem) (a : Act), Sim m h → (∀ x ∈ o.op.operands.toList, Rel m h (ev T x) (a.eval x)) → ∃ cv, (execOp a.eval o).run P m.w = .ok (.value cv) m.w ∧ Rel m h v cv) : OpSem P o T h v h :=
  opsem_val fun m a S q => by
    obtain ⟨cv, h1, h2⟩ := k m a S q
    exact ⟨cv, m, h1, Ext.refl m h, S, h2⟩

theorem optK_ok {α : Type} {x : Option α} {K : α → Option R} {res : R} (e : optK x K = some res) : ∃ y, x = some y ∧ K y = some res := by
  cases x with
  | none => simp [optK] at e
  | some y => exact ⟨y, rfl, e⟩

theorem bndIs {m : Mem} {h : Heap} {T : List AV} {a : Act} {lo : Option Operand} {x : Option Int} (e : optI T lo = some x) (q : ∀ y, lo = some y → Rel m h (ev T y) (a.eval y)) : BndIs x (lo.map a.eval) := by
  cases lo with
  | none => simp only [optI] at e; injection e with e; subst e; exact .inl ⟨rfl, rfl⟩
  | some y =>
    simp only [optI] at e
    split at e
    · rename_i k n hk
      injection e with e; subst e
      have := q y rfl
      rw [hk] at this
      exact .inr ⟨k, n, rfl, by simp [this.1]⟩
    · cases e

theorem arr_map {α β : Type} (f : α → β) (l : Array α) : l.map f = (l.toList.map f).toArray := by apply Array.ext'; simp
theorem part_ok {P : Program} {t : TypeId} {tu : TI} (k : TI.ok P t tu) {m : Mem} {h : Heap} {cs c : List AV} {vs : List Value} {v : AV} {off : Nat} (q : RelL m h true cs vs) (hcut : cut cs off tu.size = some c) (hv : mkVal tu.isAgg c = some v) :
    ∃ cv, (part t vs.toArray off).run P m.w = .ok cv m.w ∧ Rel m h v cv := by
  obtain ⟨h1, h2⟩ := RelL.cut q hcut
  unfold mkVal at hv
  cases ha : tu.isAgg with
  | true =>
    rw [ha] at hv; simp only [cond_true] at hv; injection hv with hv; subst hv
    refine ⟨.agg ((vs.drop off).take tu.size).toArray, ?_, _, rfl, h1⟩
    simp only [part, Sem.run_bind, k.isAgg_run, ha, Result.andThen_ok, if_true, k.size_run, Sem.run_pure]
    congr 2
    apply Array.ext'
    simp [List.extract_eq_take_drop]
  | false =>
    rw [ha] at hv; simp only [cond_false] at hv
    split at hv
    · rename_i a
      injection hv with hv; subst hv
      simp only [RelL] at h1
      obtain ⟨u, rest, h3, h4, _, h5⟩ := h1
      subst h5
      refine ⟨u, ?_, h4⟩
      have e1 : vs[off]? = some u := by
        have e2 : (vs.drop off)[0]? = some u := by
          have : ((vs.drop off).take tu.size)[0]? = some u := by rw [h3]; rfl
          rw [List.getElem?_take] at this
          split at this
          · exact this
          · cases this
        simpa using e2
      simp [part, k.isAgg_run, ha, e1]
    · cases hv

theorem fillParts_mono {place place' : Nat → Option (Nat × Nat)} (hp : ∀ i p, place i = some p → place' i = some p) : (ps : List (Nat × AV)) → {cs ws : List AV} → fillParts place cs ps = some ws → fillParts place' cs ps = some ws
  | [], cs, ws, e => e
  | (i, v) :: ps, cs, ws, e => by
    simp only [fillParts] at e ⊢
    split at e
    · rename_i off size vs h1 h2
      rw [hp i _ h1, h2]
      simp only
      cases hb : Nat.beq vs.length size with
      | false => simp only [hb, cond_false] at e; cases e
      | true =>
        simp only [hb, cond_true] at e ⊢
        split at e
        · rename_i cs' hf; exact fillParts_mono hp ps e
        · cases e
    · cases e
theorem fill_ok' {m : Mem} {h : Heap} {place : Nat → Option (Nat × Nat)} {places : Array (Nat × Nat)} (hp : ∀ i p, place i = some p → places[i]? = some p) (ps : List (Nat × AV)) {cs ws : List AV} {us : List (Nat × Value)} {c : Array Value} (e : fillParts place cs ps = some ws) (q : PartsRel m h ps us) (qc : RelL m h true cs c.toList) :
    ∃ d, Instr.fill (places[·]?) c us = some d ∧ RelL m h true ws d.toList := fill_ok ps (fillParts_mono hp ps e) q qc

theorem mapM_sizes {P : Program} {w : World} : (gs : List Field) → (∀ g ∈ gs, ∃ n, (sizeOf g.type).run P w = .ok n w) → ∃ l : List (Nat × Nat), (gs.mapM fun f => do pure (f.offset, ← sizeOf f.type) : Sem (List (Nat × Nat))).run P w = .ok l w ∧ ∀ (i : Nat) (g : Field) (n : Nat), gs[i]? = some g → (sizeOf g.type).run P w = .ok n w → l[i]? = some (g.offset, n)
  | [], _ => ⟨[], by simp, by simp⟩
  | g :: gs, hq => by
    obtain ⟨n, hn⟩ := hq g (by simp)
    obtain ⟨l, h1, h2⟩ := mapM_sizes gs fun x hx => hq x (by simp [hx])
    refine ⟨(g.offset, n) :: l, by simp only [List.mapM_cons, Sem.run_bind, hn, Result.andThen_ok, Sem.run_pure, h1], fun i g' n' hi hs => ?_⟩
    cases i with
    | zero =>
      simp only [List.getElem?_cons_zero] at hi ⊢
      injection hi with hi; subst hi
      rw [hn] at hs; injection hs with hs; subst hs; rfl
    | succ i => simp only [List.getElem?_cons_succ] at hi ⊢; exact h2 i g' n' hi hs

theorem RelL.one1 {m : Mem} {h : Heap} {a : AV} {us : List Value} (q : RelL m h false [a] us) : ∃ u, us = [u] ∧ Rel m h a u := by
  simp only [RelL] at q
  obtain ⟨u, rest, rfl, h1, _, rfl⟩ := q
  exact ⟨u, rfl, h1⟩

theorem builtinA_ok {P : Program} {E : Env} (hT : TabOk P E.tab) {h : Heap} {b : Builtin} {ts : Array TypeId} {args : List AV} {K : AV → Heap → Option R} {res : R} (e : builtinA E h b ts.toList args K = some res) :
    ∃ v h', K v h' = some res ∧ ((b = .len ∨ b = .min ∨ b = .max) → h' = h) ∧ ∀ (ty : TypeId) (cs : Array Bool) (m : Mem) (us : List Value), Sim m h → RelL m h false args us → ∃ cv m', (builtin b ts ty cs us.toArray).run P m.w = .ok (.value cv) m'.w ∧ Ext m h m' h' ∧ Sim m' h' ∧ Rel m' h' v cv := by
  unfold builtinA at e
  split at e
  · rename_i t x hts
    have ht : ts = #[t] := by cases ts; simp at hts; subst hts; rfl
    subst ht
    have gi : ∀ (m : Mem) (n : Nat), Rel m h (.int .i64 (n : Int)) (.int .i64 (n : Int)) := fun m n => ⟨rfl, rfl⟩
    split at e
    · rename_i n el hk
      obtain ⟨ti, _, d, hd1, hd2⟩ := tyKind_ok hT.ti hk
      cases d <;> simp [kindOk] at hd2
      obtain ⟨rfl, rfl⟩ := hd2
      refine ⟨_, h, e, fun _ => rfl, fun ty cs m us S q => ?_⟩
      obtain ⟨u, hu, q1⟩ := RelL.one1 q; subst hu
      exact ⟨_, m, by simp [builtin, Builtin.len_, run_underlying hd1, goInt], Ext.refl m h, S, gi m n⟩
    · rename_i el hk
      split at e
      · rename_i n el2 hk2
        obtain ⟨ti, _, d, hd1, hd2⟩ := tyKind_ok hT.ti hk
        obtain ⟨ti2, _, d2, hd3, hd4⟩ := tyKind_ok hT.ti hk2
        cases d <;> simp [kindOk] at hd2
        cases d2 <;> simp [kindOk] at hd4
        obtain ⟨rfl, rfl⟩ := hd4
        subst hd2
        refine ⟨_, h, e, fun _ => rfl, fun ty cs m us S q => ?_⟩
        obtain ⟨u, hu, q1⟩ := RelL.one1 q; subst hu
        exact ⟨_, m, by simp [builtin, Builtin.len_, run_underlying hd1, run_underlying hd3, goInt], Ext.refl m h, S, gi m n⟩
      · cases e
    · rename_i hk
      split at e
      · rename_i l
        obtain ⟨ti, _, d, hd1, hd2⟩ := tyKind_ok hT.ti hk
        cases d <;> simp [kindOk] at hd2
        refine ⟨_, h, e, fun _ => rfl, fun ty cs m us S q => ?_⟩
        obtain ⟨u, hu, q1⟩ := RelL.one1 q
        obtain ⟨s, hs1, hs2⟩ := str_rel q1
        subst hu; subst hs1; subst hs2
        rw [bytesOf_length]
        exact ⟨_, m, by simp [builtin, Builtin.len_, run_underlying hd1, goInt], Ext.refl m h, S, gi m _⟩
      · cases e
    · rename_i kt et hk
      obtain ⟨n, hn, e⟩ := optK_ok e
      obtain ⟨ti, _, d, hd1, hd2⟩ := tyKind_ok hT.ti hk
      cases d <;> simp [kindOk] at hd2
      obtain ⟨rfl, rfl⟩ := hd2
      refine ⟨_, h, e, fun _ => rfl, fun ty cs m us S q => ?_⟩
      obtain ⟨u, hu, q1⟩ := RelL.one1 q
      subst hu
      obtain ⟨B, mes, rfl, hb, hn2⟩ := mapLen_ok S hn q1
      refine ⟨_, m, ?_, Ext.refl m h, S, gi m n⟩
      simp [builtin, Builtin.len_, run_underlying hd1, MapKept.run_getObj_map hb, goInt, hn2, Result.andThen]
    · rename_i el hk
      split at e
      · cases e
      · rename_i hns
        obtain ⟨n, hn, e⟩ := optK_ok e
        obtain ⟨ti, _, d, hd1, hd2⟩ := tyKind_ok hT.ti hk
        cases d <;> simp [kindOk] at hd2
        refine ⟨_, h, e, fun _ => rfl, fun ty cs m us S q => ?_⟩
        obtain ⟨u, hu, q1⟩ := RelL.one1 q
        subst hu
        rcases lenOf_ok (P := P) hn q1 with ⟨a, c, rfl⟩ | ⟨s, rfl, _, l, hl⟩
        · exact ⟨_, m, by simp [builtin, Builtin.len_, run_underlying hd1, goInt], Ext.refl m h, S, gi m n⟩
        · exact absurd hl (hns l)
    · cases e
  · rename_i t x hts
    have ht : ts = #[t] := by cases ts; simp at hts; subst hts; rfl
    subst ht
    split at e
    · rename_i el hk
      obtain ⟨ti, _, d, hd1, hd2⟩ := tyKind_ok hT.ti hk
      cases d <;> simp [kindOk] at hd2
      refine ⟨_, h, e, fun _ => rfl, fun ty cs m us S q => ?_⟩
      obtain ⟨u, hu, q1⟩ := RelL.one1 q; subst hu
      simp only [Rel] at q1; subst q1
      exact ⟨_, m, by simp [builtin, Builtin.cap_, run_underlying hd1, goInt], Ext.refl m h, S, rfl, rfl⟩
    · rename_i el hk
      obtain ⟨ti, _, d, hd1, hd2⟩ := tyKind_ok hT.ti hk
      cases d <;> simp [kindOk] at hd2
      refine ⟨_, h, e, fun _ => rfl, fun ty cs m us S q => ?_⟩
      obtain ⟨u, hu, q1⟩ := RelL.one1 q; subst hu
      simp only [Rel] at q1; obtain ⟨a, rfl⟩ := q1
      exact ⟨_, m, by simp [builtin, Builtin.cap_, run_underlying hd1, goInt], Ext.refl m h, S, rfl, rfl⟩
    · cases e
  · rename_i ts' x xs
    obtain ⟨v, hv, e⟩ := optK_ok e
    refine ⟨v, h, e, fun _ => rfl, fun ty cs m us S q => ?_⟩
    simp only [RelL] at q
    obtain ⟨u, rest, rfl, q1, _, q2⟩ := q
    obtain ⟨cv, g1, g2⟩ := minA_ok xs hv q1 q2
    exact ⟨cv, m, by simp [builtin, Builtin.min_, g1], Ext.refl m h, S, g2⟩
  · rename_i ts' x xs
    obtain ⟨v, hv, e⟩ := optK_ok e
    refine ⟨v, h, e, fun _ => rfl, fun ty cs m us S q => ?_⟩
    simp only [RelL] at q
    obtain ⟨u, rest, rfl, q1, _, q2⟩ := q
    obtain ⟨cv, g1, g2⟩ := maxA_ok xs hv q1 q2
    exact ⟨cv, m, by simp [builtin, Builtin.max_, g1], Ext.refl m h, S, g2⟩
  · rename_i t u s x hts
    have ht : ts = #[t, u] := by cases ts; simp at hts; subst hts; rfl
    subst ht
    have fin : (P.underlying u = some .string ∨ ∃ e, P.underlying u = some (.slice e)) → appendA E h t s x K = some res → ∃ v h', K v h' = some res ∧ (((Builtin.append : Builtin) = .len ∨ (Builtin.append : Builtin) = .min ∨ (Builtin.append : Builtin) = .max) → h' = h) ∧ ∀ (ty : TypeId) (cs : Array Bool) (m : Mem) (us : List Value), Sim m h → RelL m h false [s, x] us → ∃ cv m', (builtin .append #[t, u] ty cs us.toArray).run P m.w = .ok (.value cv) m'.w ∧ Ext m h m' h' ∧ Sim m' h' ∧ Rel m' h' v cv := fun hx e => by
      obtain ⟨v, h', e, k⟩ := appendA_ok hT.ti hx e
      refine ⟨v, h', e, (by rintro (q | q | q) <;> cases q), fun ty cs m us S q => ?_⟩
      obtain ⟨cv, m', g1, g2, g3, g4⟩ := k ty m us S q
      exact ⟨cv, m', by simp [builtin, g1], g2, g3, g4⟩
    split at e
    · rename_i el hk
      obtain ⟨ti, _, d, hd1, hd2⟩ := tyKind_ok hT.ti hk
      cases d <;> simp [kindOk] at hd2
      exact fin (.inr ⟨_, hd1⟩) e
    · rename_i hk
      obtain ⟨ti, _, d, hd1, hd2⟩ := tyKind_ok hT.ti hk
      cases d <;> simp [kindOk] at hd2
      exact fin (.inl hd1) e
    · rename_i kx hk
      obtain ⟨ti, _, d, hd1, hd2⟩ := tyKind_ok hT.ti hk
      cases d <;> simp [kindOk] at hd2
      have finz : ∀ (n : Int), (∀ (m : Mem) (us : List Value), RelL m h false [s, x] us → ∃ base k, us = [.slice base 0 0, .int k n]) → appendZ E h t n K = some res → ∃ v h', K v h' = some res ∧ (((Builtin.append : Builtin) = .len ∨ (Builtin.append : Builtin) = .min ∨ (Builtin.append : Builtin) = .max) → h' = h) ∧ ∀ (ty : TypeId) (cs : Array Bool) (m : Mem) (us : List Value), Sim m h → RelL m h false [s, x] us → ∃ cv m', (builtin .append #[t, u] ty cs us.toArray).run P m.w = .ok (.value cv) m'.w ∧ Ext m h m' h' ∧ Sim m' h' ∧ Rel m' h' v cv := fun n hus e => by
        obtain ⟨v, h', e, k⟩ := appendZ_ok hT.ti hd1 e
        refine ⟨v, h', e, (by rintro (q | q | q) <;> cases q), fun ty cs m us S q => ?_⟩
        obtain ⟨base, kk, rfl⟩ := hus m us q
        obtain ⟨cv, m', g1, g2, g3, g4⟩ := k m kk base ty S
        exact ⟨cv, m', by simp [builtin, g1], g2, g3, g4⟩
      split at e
      · refine finz _ (fun m us q => ?_) e
        obtain ⟨a, b, rfl, q1, q2⟩ := RelL.two q
        simp only [Rel] at q1 q2
        exact ⟨none, _, by rw [q1, q2.1]⟩
      · refine finz _ (fun m us q => ?_) e
        obtain ⟨a, b, rfl, q1, q2⟩ := RelL.two q
        simp only [Rel] at q1 q2
        obtain ⟨base, q1⟩ := q1
        exact ⟨base, _, by rw [q1, q2.1]⟩
      · cases e
    · cases e
  · rename_i t x hts
    split at e
    · refine ⟨_, h, e, (by rintro (q | q | q) <;> cases q), fun ty cs m us S q => ?_⟩
      obtain ⟨u, hu, q1⟩ := RelL.one1 q; subst hu
      simp only [Rel] at q1; subst q1
      exact ⟨_, m, by simp [builtin, Lib.run_unsafeSliceData_nil], Ext.refl m h, S, rfl⟩
    · rename_i id
      split at e
      · rename_i et r y l hg
        refine ⟨_, h, e, (by rintro (q | q | q) <;> cases q), fun ty cs m us S q => ?_⟩
        obtain ⟨u, hu, q1⟩ := RelL.one1 q; subst hu
        obtain ⟨cv, g1, g2⟩ := sliceData_own (P := P) (ts := ts) (ty := ty) hg q1
        exact ⟨cv, m, by simp [builtin, g1], Ext.refl m h, S, g2⟩
      · cases e
    · cases e
  · rename_i p it x n hts
    have ht : ts = #[p, it] := by cases ts; simp at hts; subst hts; rfl
    subst ht
    split at e
    · obtain ⟨hb, e⟩ := cond_some e
      have hb := of_decide_eq_true hb
      subst hb
      refine ⟨_, h, e, (by rintro (q | q | q) <;> cases q), fun ty cs m us S q => ?_⟩
      obtain ⟨a, b, rfl, q1, q2⟩ := RelL.two q
      simp only [Rel] at q1; subst q1
      rw [q2.1]
      exact ⟨.string .empty, m, by simp [builtin, Lib.run_unsafeString_none], Ext.refl m h, S, .empty, rfl, rfl⟩
    · rename_i id ix j n
      split at e
      · rename_i et r l el hg hk
        split at e
        · rename_i te hte
          split at e
          · rename_i hq
            obtain ⟨hb, e9⟩ := cond_some e
            simp only [Bool.and_eq_true, Nat.blt_eq, decide_eq_true_eq] at hb
            obtain ⟨b1, b2, b3, b4, b5, b6, b7⟩ := hb
            have b1 := Nat.eq_of_beq_eq_true b1; have b2 := Nat.eq_of_beq_eq_true b2; have b3 := Nat.eq_of_beq_eq_true b3; have b4 := Nat.eq_of_beq_eq_true b4; have b7 := Nat.le_of_ble_eq_true b7
            subst b1; subst b2; subst b3
            have hr := Row.same_eq r _ hq
            subst hr
            rw [castList_id] at e9
            subst b5
            obtain ⟨ti, _, d, hd1, hd2⟩ := tyKind_ok hT.ti hk
            cases d <;> simp [kindOk] at hd2
            subst hd2
            refine ⟨_, _, e9, (by rintro (q | q | q) <;> cases q), fun ty cs m us S q => ?_⟩
            obtain ⟨a, b, rfl, q1, q2⟩ := RelL.two q
            rw [q2.1]
            obtain ⟨cv, m', g1, g2, g3, g4⟩ := unsafeString_own (it := it) (ty := ty) hT.ti hd1 hte b4 S hg b6 b7 q1
            exact ⟨cv, m', by simp [builtin]; erw [g1]; rfl, g2, g3, g4⟩
          · cases e
        · cases e
      · cases e
    · cases e
  · rename_i t u d x hts
    have ht : ts = #[t, u] := by cases ts; simp at hts; subst hts; rfl
    subst ht
    obtain ⟨v, h', e, k⟩ := copyA_ok hT.ti (xt := u) e
    refine ⟨v, h', e, (by rintro (q | q | q) <;> cases q), fun ty cs m us S q => ?_⟩
    obtain ⟨cv, m', g1, g2, g3, g4⟩ := k ty m us S q
    exact ⟨cv, m', by simp [builtin, g1], g2, g3, g4⟩
  · cases e

def Keep (h h' : Heap) : Prop := ∀ id, id < h.length → hget h' id = hget h id
theorem Keep.push (h : Heap) (b : Option Blk) : Keep h (h ++ [b]) := fun id hid => hget_push_ne (by omega)
theorem Keep.append (h : Heap) : (l : List (Option Blk)) → Keep h (h ++ l)
  | [] => fun id _ => by rw [List.append_nil]
  | b :: l => fun id hid => by
    have e : h ++ b :: l = (h ++ [b]) ++ l := by simp
    rw [e, Keep.append (h ++ [b]) l id (by simp; omega), hget_push_ne (by omega)]
theorem Keep.rfl' (h : Heap) : Keep h h := fun _ _ => rfl

def ExtOk (P : Program) (E : Env) : Prop := ∀ f, E.ext f = true → ∀ (x : Value) (w : World), (callFunc f #[x]).run P w = .ok (.value x) w
def PureOk (P : Program) (E : Env) : Prop := ExtOk P E ∧ ∀ f H args h v nb, E.pure f = some H → H args h = some (v, nb) → FnOk P f ∧ CallRuns P f args h v (h ++ nb.map some)

theorem step_ok {P : Program} {E : Env} (hT : TabOk P E.tab) (hP : PureOk P E) {call : CallF R} (hc : CallOk P call) {f : FuncId} {T : List AV} {h : Heap} {o : Oper} {K : AV → Heap → Option R} {res : R}
    (e : step E f call T h o K = some res) : ∃ v h', K v h' = some res ∧ (keeps E T o.op = true → Keep h h') ∧ OpSem P o T h v h' := by
  rw [step_eq] at e
  unfold stepS at e
  split at e
  · rename_i x ho
    exact ⟨_, _, e, (fun _ => Keep.rfl' _), opsem_same fun m a S q => ⟨a.eval x, by simp [execOp, ho], q x (by simp [ho, Op.operands])⟩⟩
  · rename_i x ho
    exact ⟨_, _, e, (fun _ => Keep.rfl' _), opsem_same fun m a S q => ⟨a.eval x, by simp [execOp, ho], q x (by simp [ho, Op.operands])⟩⟩
  · rename_i c x y ho
    split at e
    · rename_i b hb
      have hq : ∀ (m : Mem) (a : Act), (∀ x ∈ o.op.operands.toList, Rel m h (ev T x) (a.eval x)) → a.eval c = .bool b := fun m a q => by
        have := q c (by simp [ho, Op.operands])
        rw [hb] at this; exact this
      cases b with
      | true => exact ⟨_, _, e, (fun _ => Keep.rfl' _), opsem_same fun m a S q => ⟨a.eval x, by simp [execOp, ho, hq m a q, asBool], q x (by simp [ho, Op.operands])⟩⟩
      | false => exact ⟨_, _, e, (fun _ => Keep.rfl' _), opsem_same fun m a S q => ⟨a.eval y, by simp [execOp, ho, hq m a q, asBool], q y (by simp [ho, Op.operands])⟩⟩
    · cases e
  · rename_i t ho
    obtain ⟨ti, hti, e⟩ := optK_ok e
    refine ⟨_, _, e, (fun _ => Keep.push _ _), opsem_val fun m a S q => ?_⟩
    obtain ⟨z, hz, hzc⟩ := (hT.ti _ _ hti).zero_run m.w
    have p : Pushed m.w (m.w.alloc (.cells z.cells t)) (.cells z.cells t) := Pushed.alloc _ _
    have E1 := ext_push S p (.var t ti.zero) 0
    refine ⟨.pointer (some ⟨m.w.heap.size, 0, none⟩), _, ?_, E1, sim_push S p _ 0 ⟨m.w.heap.size, z.cells, by simp [Mem.push, upd_same], p.new, zero_rel _ _ hzc⟩, ?_⟩
    · simp [execOp, ho, Instr.alloc, hz, newVar, newRow, Mem.push]
    · simp only [Rel]; exact ⟨⟨by simp, rfl⟩, fun _ cs _ => ⟨m.w.heap.size, by simp [Mem.push, upd_same], rfl⟩⟩
  · rename_i t x ho
    obtain ⟨cs, hcs, e⟩ := optK_ok e
    refine ⟨_, _, e, (fun _ => Keep.push _ _), opsem_val fun m a S q => ?_⟩
    have hr := cells_rel hcs (q x (by simp [ho, Op.operands]))
    have p : Pushed m.w (m.w.alloc (.cells (a.eval x).cells t)) (.cells (a.eval x).cells t) := Pushed.alloc _ _
    have E1 := ext_push S p (.var t cs) 0
    refine ⟨.pointer (some ⟨m.w.heap.size, 0, none⟩), _, ?_, E1, sim_push S p _ 0 ⟨m.w.heap.size, _, by simp [Mem.push, upd_same], p.new, RelL.mono S E1 true _ _ hr⟩, ?_⟩
    · simp [execOp, ho, Instr.box, newVar, newRow, Mem.push]
    · simp only [Rel]; exact ⟨⟨by simp, rfl⟩, fun _ cs _ => ⟨m.w.heap.size, by simp [Mem.push, upd_same], rfl⟩⟩
  · rename_i t ps ho
    split at e
    · cases e
    · rename_i ti hti
      have hpr : ∀ (m : Mem) (a : Act), (∀ x ∈ o.op.operands.toList, Rel m h (ev T x) (a.eval x)) → PartsRel m h (partsOf T ps) (ps.map fun p => (p.1, a.eval p.2)).toList := fun m a q => by
        have := partsOf_rel (m := m) (h := h) (T := T) (f := a.eval) ps.toList (fun x hx => q x (by simpa [ho, Op.operands] using hx))
        simpa [partsOf] using this
      obtain ⟨d, hd1, hd2⟩ := (hT.ti _ _ hti).desc
      split at e
      · rename_i fs hk
        obtain ⟨hall, e⟩ := cond_some e
        obtain ⟨cs, hcs, e⟩ := optK_ok e
        refine ⟨_, h, e, (fun _ => Keep.rfl' _), opsem_same fun m a S q => ?_⟩
        obtain ⟨z, hz, hzc⟩ := (hT.ti _ _ hti).zero_run m.w
        rw [hk] at hd2
        cases d <;> simp [kindOk] at hd2
        rename_i gs
        have hps := pairsEq_get _ _ hd2
        have hplaces : ∃ places : Array (Nat × Nat), (gs.mapM fun f => do pure (f.offset, ← sizeOf f.type) : Sem (Array (Nat × Nat))).run P m.w = .ok places m.w ∧ ∀ i p, fieldPlace E fs i = some p → places[i]? = some p := by
          subst hps
          have hin : ∀ g ∈ gs.toList, ∃ tu, tyFind E.tab g.type = some tu := fun g hg => by
            have := List.all_eq_true.1 hall (g.offset, g.type) (List.mem_map.2 ⟨g, hg, rfl⟩)
            exact Option.isSome_iff_exists.1 this
          obtain ⟨l, h1, h2⟩ := mapM_sizes (P := P) (w := m.w) gs.toList fun g hg => by
            obtain ⟨tu, htu⟩ := hin g hg
            exact ⟨tu.size, (hT.ti _ _ htu).size_run m.w⟩
          refine ⟨l.toArray, ?_, fun i p hp => ?_⟩
          · rw [Array.mapM_eq_mapM_toList, map_eq_pure_bind]
            simp only [Sem.run_bind, h1, Result.andThen_ok, Sem.run_pure]
          · unfold Go.Proofs.YtklfdmnmiadgpaaAbs.fieldPlace at hp
            split at hp
            · rename_i o u hf
              split at hp
              · rename_i tu htu
                injection hp with hp; subst hp
                simp only [List.getElem?_map, Array.getElem?_toList, Option.map_eq_some_iff] at hf
                obtain ⟨fd, k1, k2⟩ := hf
                injection k2 with k2 k3
                subst k2; subst k3
                have := h2 i fd tu.size (by simpa using k1) ((hT.ti _ _ htu).size_run m.w)
                simpa using this
              · cases hp
            · cases hp
        obtain ⟨places, hp1, hp2⟩ := hplaces
        obtain ⟨dd, g1, g2⟩ := fill_ok' hp2 (partsOf T ps) hcs (hpr m a q) (zero_rel ti.zero z.cells.toList hzc)
        refine ⟨.agg dd, ?_, dd.toList, by simp, by simpa using g2⟩
        simp only [execOp, ho, Instr.build, Sem.run_bind, hz, Result.andThen_ok, run_underlying hd1, hp1, g1, Sem.run_pure]
      · rename_i n el hk
        split at e
        · rename_i te hte
          obtain ⟨cs, hcs, e⟩ := optK_ok e
          refine ⟨_, h, e, (fun _ => Keep.rfl' _), opsem_same fun m a S q => ?_⟩
          obtain ⟨z, hz, hzc⟩ := (hT.ti _ _ hti).zero_run m.w
          rw [hk] at hd2
          cases d <;> simp [kindOk] at hd2
          obtain ⟨e1, e2⟩ := hd2
          subst e1; subst e2
          obtain ⟨dd, g1, g2⟩ := fill_ok (partsOf T ps) hcs (hpr m a q) (zero_rel ti.zero z.cells.toList hzc)
          refine ⟨.agg dd, ?_, dd.toList, by simp, by simpa using g2⟩
          have hs := (hT.ti _ _ hte).size_run m.w
          simp only [execOp, ho, Instr.build, Sem.run_bind, hz, Result.andThen_ok, run_underlying hd1, hs, g1, Sem.run_pure]
        · cases e
      · cases e
  · rename_i t len ps ho
    obtain ⟨v, h', e, k⟩ := buildSl_ok hT.ti e
    refine ⟨v, h', e, (by simp [keeps, ho]), opsem_val fun m a S q => ?_⟩
    obtain ⟨cv, m', g1, g2, g3, g4⟩ := k m (ps.map fun p => (p.1, a.eval p.2)) S (by
      have := partsOf_rel (m := m) (h := h) (T := T) (f := a.eval) ps.toList (fun x hx => q x (by simpa [ho, Op.operands] using hx))
      simpa [partsOf] using this)
    exact ⟨cv, m', by simp [execOp, ho, g1], g2, g3, g4⟩
  · rename_i t x ho
    obtain ⟨ti, hti, e⟩ := optK_ok e
    obtain ⟨v, hv, e⟩ := optK_ok e
    refine ⟨v, h, e, (fun _ => Keep.rfl' _), opsem_same fun m a S q => ?_⟩
    obtain ⟨ad, cv, g1, g2, g3⟩ := loadAt_ok (P := P) (hT.ti _ _ hti) S hv (q x (by simp [ho, Op.operands]))
    exact ⟨cv, by simp [execOp, ho, Instr.loadAt, g1, Instr.sureAddr, g2], g3⟩
  · rename_i t x y ho
    obtain ⟨ti, hti, e⟩ := optK_ok e
    obtain ⟨h', hh, e⟩ := optK_ok e
    refine ⟨_, h', e, (by simp [keeps, ho]), fun m a S q next Q hn => ?_⟩
    obtain ⟨ad, m', g1, g2, g3, g4⟩ := storeAt_ok (P := P) (hT.ti _ _ hti) S hh (q x (by simp [ho, Op.operands])) (q y (by simp [ho, Op.operands]))
    have hrun : (execOp a.eval o).run P m.w = .ok .skip m'.w := by simp [execOp, ho, Instr.storeAt, g1, Instr.sureAddr, g2]
    unfold Oper.wp
    rw [hrun, Oper.upon_skip]
    exact hn m' undef g3 g4 ⟨[], rfl, rfl⟩
  · rename_i x ho
    split at e
    · rename_i id off hx
      split at e
      · rename_i cs hg
        refine ⟨_, _, e, (fun _ => Keep.rfl' _), opsem_same fun m a S q => ?_⟩
        have q1 := q x (by simp [ho, Op.operands])
        rw [hx] at q1
        have q2 := q1
        simp only [Rel] at q1
        obtain ⟨B, hl, hv⟩ := q1.2 _ cs hg
        exact ⟨a.eval x, by simp [execOp, ho, hv], q2⟩
      · cases e
    · rename_i id ix j hx
      split at e
      · rename_i r l hg
        refine ⟨_, _, e, (fun _ => Keep.rfl' _), opsem_same fun m a S q => ?_⟩
        have q1 := q x (by simp [ho, Op.operands])
        rw [hx] at q1
        have q2 := q1
        simp only [Rel] at q1
        obtain ⟨B, o', hl, hv, _⟩ := q1.2 _ r l hg
        exact ⟨a.eval x, by simp [execOp, ho, hv], q2⟩
      · cases e
    · rename_i cs hx
      refine ⟨_, _, e, (fun _ => Keep.rfl' _), opsem_same fun m a S q => ?_⟩
      have q1 := q x (by simp [ho, Op.operands])
      rw [hx] at q1
      have q2 := q1
      simp only [Rel] at q1
      obtain ⟨B, o', vs, hv, _⟩ := q1
      exact ⟨a.eval x, by simp [execOp, ho, hv], q2⟩
    · cases e
  · rename_i op t x y yt ho
    obtain ⟨v, e, k⟩ := binOpA_ok hT e
    refine ⟨v, h, e, (fun _ => Keep.rfl' _), opsem_same fun m a S q => ?_⟩
    obtain ⟨cv, g1, g2⟩ := k m (a.eval x) (a.eval y) x y S (q x (by simp [ho, Op.operands])) (q y (by simp [ho, Op.operands]))
    exact ⟨cv, by simp only [execOp, ho, Sem.run_bind, g1, Result.andThen_ok]; simp, g2⟩
  · rename_i op t x ho
    split at e
    · rename_i b hb
      refine ⟨_, h, e, (fun _ => Keep.rfl' _), opsem_same fun m a S q => ?_⟩
      have q1 := q x (by simp [ho, Op.operands])
      rw [hb] at q1
      simp only [Rel] at q1
      exact ⟨.bool (!b), by simp [execOp, ho, q1, Op.unary], rfl⟩
    · rename_i k n hb
      refine ⟨_, h, e, (fun _ => Keep.rfl' _), opsem_same fun m a S q => ?_⟩
      have q1 := q x (by simp [ho, Op.operands])
      rw [hb] at q1
      exact ⟨.int k (k.wrap (0 - n)), by simp [execOp, ho, q1.1, Op.unary, Op.intArith], rfl, u8_wrap _ _⟩
    · rename_i k n hb
      refine ⟨_, h, e, (fun _ => Keep.rfl' _), opsem_same fun m a S q => ?_⟩
      have q1 := q x (by simp [ho, Op.operands])
      rw [hb] at q1
      exact ⟨.int k (bitsOp .xor k (if k.signed then -1 else k.max) n), by simp [execOp, ho, q1.1, Op.unary, Op.intBits, bitsOp], rfl, u8_wrap _ _⟩
    · cases e
  · rename_i s d x ho
    split at e
    · rename_i r hr
      have hkd : keeps E T o.op = true → Keep h r.2 := fun k => by
        have : Nat.beq s d = true := convS_beq hr
        rw [ho] at k; simp only [keeps, this] at k; cases k
      refine ⟨r.1, r.2, e, hkd, opsem_val fun m a S q => ?_⟩
      obtain ⟨_, cv, m', g1, g2, g3, g4⟩ := convS_ok hT hr m (a.eval x) S (q x (by simp [ho, Op.operands]))
      exact ⟨cv, m', by simp [execOp, ho, g1], g2, g3, g4⟩
    · obtain ⟨v, hv, e⟩ := optK_ok e
      refine ⟨v, h, e, (fun _ => Keep.rfl' _), opsem_val fun m a S q => ?_⟩
      obtain ⟨cv, m', g1, g2, g3, g4⟩ := convA_ok hT hv m (a.eval x) S (q x (by simp [ho, Op.operands]))
      exact ⟨cv, m', by simp [execOp, ho, g1], g2, g3, g4⟩
  · rename_i t x ho
    split at e
    · cases e
    · cases e
    · rename_i k hk1 hk2 hk
      refine ⟨_, h, e, (fun _ => Keep.rfl' _), opsem_same fun m a S q => ?_⟩
      obtain ⟨ti, _, d, hd1, hd2⟩ := tyKind_ok hT.ti hk
      refine ⟨.iface t (a.eval x), ?_, trivial⟩
      have : P.concrete t = true := by
        unfold Program.concrete
        rw [hd1]
        cases d <;> first | rfl | (cases k <;> simp_all [kindOk])
      simp [execOp, ho, run_makeInterface m.w t (a.eval x) this]
    · cases e
  · rename_i fn first cap ho
    split at e
    · rename_i g hfirst
      refine ⟨_, h, e, (fun _ => Keep.rfl' _), opsem_same fun m a S q => ?_⟩
      have hf0 : first = #[] := by cases first; simp at hfirst; subst hfirst; rfl
      subst hf0
      refine ⟨.func (.func g) #[] (cap.map a.eval), by simp [execOp, ho, Instr.makeFunc], (cap.toList.map a.eval), by rw [arr_map], ?_⟩
      have key : ∀ (l : List Operand), (∀ x ∈ l, Rel m h (ev T x) (a.eval x)) → RelL m h false (l.map (ev T)) (l.map a.eval) := fun l => by
        induction l with
        | nil => intro _; rfl
        | cons x l ih => intro hq; exact ⟨_, _, rfl, hq x (by simp), (fun q => by cases q), ih fun y hy => hq y (by simp [hy])⟩
      exact key cap.toList fun x hx => q x (by simpa [ho, Op.operands] using hx)
    · cases e
  · rename_i t l c ho
    obtain ⟨n, hn, e⟩ := optK_ok e
    obtain ⟨c', hc', e⟩ := optK_ok e
    obtain ⟨v, h', e, k⟩ := makeA_ok hT.ti e
    refine ⟨v, h', e, (by simp [keeps, ho]), opsem_val fun m a S q => ?_⟩
    have q1 := q l (by simp [ho, Op.operands])
    have q2 := q c (by simp [ho, Op.operands])
    unfold asI at hn hc'
    split at hn
    · rename_i k1 n1 h1
      injection hn with hn; subst hn
      split at hc'
      · rename_i k2 n2 h2
        injection hc' with hc'; subst hc'
        rw [h1] at q1; rw [h2] at q2
        obtain ⟨cv, m', g1, g2, g3, g4⟩ := k m k1 k2 S
        exact ⟨cv, m', by simp [execOp, ho, q1.1, q2.1, g1], g2, g3, g4⟩
      · cases hc'
    · cases hn
  · rename_i t x lo hi mx ho
    split at e
    · obtain ⟨lo', hlo, e⟩ := optK_ok e
      obtain ⟨hi', hhi, e⟩ := optK_ok e
      have ql : ∀ (m : Mem) (a : Act), (∀ x ∈ o.op.operands.toList, Rel m h (ev T x) (a.eval x)) → BndIs lo' (lo.map a.eval) := fun m a q => bndIs hlo fun y hy => q y (by subst hy; simp [ho, Op.operands])
      have qh : ∀ (m : Mem) (a : Act), (∀ x ∈ o.op.operands.toList, Rel m h (ev T x) (a.eval x)) → BndIs hi' (hi.map a.eval) := fun m a q => bndIs hhi fun y hy => q y (by subst hy; simp [ho, Op.operands])
      split at e
      · rename_i hk
        obtain ⟨ti, _, d, hd1, hd2⟩ := tyKind_ok hT.ti hk
        cases d <;> simp [kindOk] at hd2
        split at e
        · rename_i l hx
          unfold sliceS at e
          obtain ⟨hb, e⟩ := cond_some e
          refine ⟨_, h, e, (fun _ => Keep.rfl' _), opsem_same fun m a S q => ?_⟩
          have q1 := q x (by simp [ho, Op.operands])
          rw [hx] at q1
          obtain ⟨s, hs, rfl⟩ := str_rel q1
          rw [bytesOf_length] at hb
          have hrun := (bounds_run (P := P) (w := m.w) (b := false) hb (Nat.le_refl _) (ql m a q) (qh m a q)).1
          refine ⟨.string (s.extract (lo'.getD 0).toNat (hi'.getD s.size).toNat), ?_, _, rfl, ?_⟩
          · simp [execOp, ho, hs, Instr.sliceAt, run_underlying hd1, Instr.slice, hrun]
          · rw [cutList_eq, bytesOf_length]
            unfold bytesOf
            rw [ByteArray.data_extract]
            simp only [Array.toList_extract, List.extract_eq_take_drop, List.map_take, List.map_drop, List.take_drop]
            rcases Nat.le_total (lo'.getD 0).toNat (hi'.getD s.size).toNat with hle | hle
            · rw [Nat.add_sub_cancel' hle]
            · rw [Nat.sub_eq_zero_of_le hle, Nat.add_zero, List.drop_eq_nil_of_le (List.length_take_le _ _), List.drop_eq_nil_of_le (Nat.le_trans (List.length_take_le _ _) hle)]
        · cases e
      · rename_i el hk
        obtain ⟨sz, hsz, e⟩ := optK_ok e
        obtain ⟨hu, hs⟩ := elemSize_slice hT.ti hk hsz
        obtain ⟨v, e, k⟩ := sliceA_ok hu hs e
        refine ⟨v, h, e, (fun _ => Keep.rfl' _), opsem_same fun m a S q => ?_⟩
        obtain ⟨cv, g1, g2⟩ := k m (a.eval x) _ _ S (q x (by simp [ho, Op.operands])) (ql m a q) (qh m a q)
        exact ⟨cv, by simp [execOp, ho, g1], g2⟩
      · cases e
    · cases e
  · rename_i s x i ho
    obtain ⟨v, hv, e⟩ := optK_ok e
    refine ⟨v, h, e, (fun _ => Keep.rfl' _), opsem_same fun m a S q => ?_⟩
    obtain ⟨cv, g1, g2⟩ := fldAddr_ok hT hv S (q x (by simp [ho, Op.operands]))
    exact ⟨cv, by simp [execOp, ho, g1], g2⟩
  · rename_i t x i ho
    split at e
    · rename_i fs cs hk hx
      obtain ⟨⟨po, pt⟩, hp, e⟩ := optK_ok e
      obtain ⟨tu, htu, e⟩ := optK_ok e
      obtain ⟨c, hcut, e⟩ := optK_ok e
      obtain ⟨v, hv, e⟩ := optK_ok e
      refine ⟨v, h, e, (fun _ => Keep.rfl' _), opsem_same fun m a S q => ?_⟩
      have q1 := q x (by simp [ho, Op.operands])
      rw [hx] at q1
      simp only [Rel] at q1
      obtain ⟨vs, hvs, q1⟩ := q1
      obtain ⟨gs, fd, g1, g2, g3, g4⟩ := field_get hT.ti hk hp
      subst g4
      obtain ⟨cv, k1, k2⟩ := part_ok (P := P) (hT.ti _ _ htu) q1 hcut hv
      refine ⟨cv, ?_, k2⟩
      rw [← g3] at k1
      simp [execOp, ho, hvs, Instr.field, run_underlying g1, g2, asAgg, k1]
    · cases e
  · rename_i t x i ho
    obtain ⟨n, hn, e⟩ := optK_ok e
    obtain ⟨v, e, k⟩ := idxAddr_ok hT e
    refine ⟨v, h, e, (fun _ => Keep.rfl' _), opsem_same fun m a S q => ?_⟩
    unfold asI at hn
    split at hn
    · rename_i k1 n1 h1
      injection hn with hn; subst hn
      have q2 := q i (by simp [ho, Op.operands])
      rw [h1] at q2
      obtain ⟨cv, g1, g2⟩ := k m (a.eval x) k1 S (q x (by simp [ho, Op.operands]))
      exact ⟨cv, by simp [execOp, ho, q2.1, g1], g2⟩
    · cases hn
  · rename_i t x i ho
    split at e
    · rename_i l k n hk hx hi
      obtain ⟨hb, e⟩ := cond_some e
      simp only [Bool.and_eq_true, decide_eq_true_eq] at hb
      refine ⟨_, h, e, (fun _ => Keep.rfl' _), opsem_same fun m a S q => ?_⟩
      obtain ⟨ti, _, d, hd1, hd2⟩ := tyKind_ok hT.ti hk
      cases d <;> simp [kindOk] at hd2
      have q1 := q x (by simp [ho, Op.operands])
      have q2 := q i (by simp [ho, Op.operands])
      rw [hx] at q1; rw [hi] at q2
      obtain ⟨s, hs, rfl⟩ := str_rel q1
      have hlt : n.toNat < s.size := by have := hb.2; rw [bytesOf_length] at this; omega
      refine ⟨.int .u8 ((bytesOf s).getD n.toNat 0), ?_, rfl, ?_⟩
      · have e1 : (bytesOf s).getD n.toNat 0 = (s[n.toNat].toNat : Int) := by
          simp [bytesOf, List.getD, hlt]
          rfl
        have e2 : s[n.toNat]? = some s[n.toNat] := by simp [hlt]
        rw [e1]
        simp [execOp, ho, hs, q2.1, Instr.index, asIntOf, run_underlying hd1, hb.1, e2]
      · have e1 : (bytesOf s).getD n.toNat 0 = (s[n.toNat].toNat : Int) := by
          simp [bytesOf, List.getD, hlt]
          rfl
        rw [e1]
        have := s[n.toNat].toNat_lt
        simp [u8ok, kindEq]
        omega
    · rename_i n el cs k j hk hx hi
      obtain ⟨te, hte, e⟩ := optK_ok e
      obtain ⟨jj, _, hj, hij, e2⟩ := pickIx_ok _ _ e
      subst hij
      obtain ⟨c, hcut, e3⟩ := optK_ok e2
      obtain ⟨v, hv, e4⟩ := optK_ok e3
      refine ⟨v, h, e4, (fun _ => Keep.rfl' _), opsem_same fun m a S q => ?_⟩
      obtain ⟨ti, _, d, hd1, hd2⟩ := tyKind_ok hT.ti hk
      cases d <;> simp [kindOk] at hd2
      obtain ⟨e1, e2⟩ := hd2
      subst e1; subst e2
      have q1 := q x (by simp [ho, Op.operands])
      have q2 := q i (by simp [ho, Op.operands])
      rw [hx] at q1; rw [hi] at q2
      simp only [Rel] at q1
      obtain ⟨vs, hvs, q1⟩ := q1
      obtain ⟨cv, k1, k2⟩ := part_ok (P := P) (hT.ti _ _ hte) q1 hcut hv
      refine ⟨cv, ?_, k2⟩
      have h2 : (0 : Int) ≤ (jj : Int) ∧ (jj : Int) < (n : Int) := by omega
      have hs := (hT.ti _ _ hte).size_run m.w
      simp only [execOp, ho, hvs, q2.1, Instr.index, asIntOf, Sem.run_bind, Sem.run_pure, Result.andThen_ok, run_underlying hd1]
      rw [if_pos h2]
      simp [hs, k1]
    · cases e
  · rename_i x i ho
    split at e
    · rename_i vs hx
      obtain ⟨v, hv, e⟩ := optK_ok e
      refine ⟨v, h, e, (fun _ => Keep.rfl' _), opsem_same fun m a S q => ?_⟩
      have q1 := q x (by simp [ho, Op.operands])
      rw [hx] at q1
      simp only [Rel] at q1
      obtain ⟨us, hus, q1⟩ := q1
      have hlt := (List.getElem?_eq_some_iff.1 hv).1
      have hl := RelL.length q1
      have := (RelL.get i q1 hlt (by omega)).1
      have e1 : vs[i] = v := (List.getElem?_eq_some_iff.1 hv).2
      rw [e1] at this
      exact ⟨us[i], by simp [execOp, ho, hus, Instr.extract, show i < us.length by omega], this⟩
    · cases e
  · rename_i t r ho
    split at e
    · obtain ⟨rr, hr, e⟩ := optK_ok e
      have hkp : keeps E T o.op = true → Keep h rr.2 := fun _ => by
        obtain ⟨b, hb⟩ := makeMapA_shape hr
        rw [hb]; exact Keep.push _ _
      refine ⟨rr.1, rr.2, e, hkp, opsem_val fun m a S q => ?_⟩
      obtain ⟨_, cv, m', g1, g2, g3, g4⟩ := makeMapA_ok (P := P) hT hr m S
      exact ⟨cv, m', by simp [execOp, ho, g1], g2, g3, g4⟩
    · cases e
  · rename_i t x i ok ho
    obtain ⟨v, hv, e⟩ := optK_ok e
    refine ⟨v, h, e, (fun _ => Keep.rfl' _), opsem_same fun m a S q => ?_⟩
    obtain ⟨cv, g1, g2⟩ := lookupA_ok hT hv m S (q x (by simp [ho, Op.operands])) (q i (by simp [ho, Op.operands]))
    exact ⟨cv, by simp [execOp, ho, g1], g2⟩
  · rename_i t x i v ho
    obtain ⟨h', hv, e⟩ := optK_ok e
    refine ⟨_, h', e, (by simp [keeps, ho]), fun m a S q next Q hn => ?_⟩
    obtain ⟨m', g1, g2, g3⟩ := insertA_ok hT hv m S (q x (by simp [ho, Op.operands])) (q i (by simp [ho, Op.operands])) (q v (by simp [ho, Op.operands]))
    have hrun : (execOp a.eval o).run P m.w = .ok .skip m'.w := by simp [execOp, ho, g1]
    unfold Oper.wp
    rw [hrun, Oper.upon_skip]
    exact hn m' undef g2 g3 ⟨[], rfl, rfl⟩
  · rename_i t x i v ho
    obtain ⟨h', hv, e⟩ := optK_ok e
    refine ⟨_, h', e, (by simp [keeps, ho]), fun m a S q next Q hn => ?_⟩
    obtain ⟨m', g1, g2, g3⟩ := insertA_ok hT hv m S (q x (by simp [ho, Op.operands])) (q i (by simp [ho, Op.operands])) (q v (by simp [ho, Op.operands]))
    have hrun : (execOp a.eval o).run P m.w = .ok .skip m'.w := by simp [execOp, ho, g1]
    unfold Oper.wp
    rw [hrun, Oper.upon_skip]
    exact hn m' undef g2 g3 ⟨[], rfl, rfl⟩
  · rename_i c ho
    have hargs : ∀ (m : Mem) (a : Act), (∀ x ∈ o.op.operands.toList, Rel m h (ev T x) (a.eval x)) → RelL m h false (c.args.toList.map (ev T)) (c.args.toList.map a.eval) := fun m a q => by
      have key : ∀ (l : List Operand), (∀ x ∈ l, Rel m h (ev T x) (a.eval x)) → RelL m h false (l.map (ev T)) (l.map a.eval) := fun l => by
        induction l with
        | nil => intro _; rfl
        | cons x l ih => intro hq; exact ⟨_, _, rfl, hq x (by simp), (fun q => by cases q), ih fun y hy => hq y (by simp [hy])⟩
      exact key c.args.toList fun x hx => q x (by simp [ho, Op.operands, Call.operands]; exact .inr (by simpa using hx))
    split at e
    · rename_i b hcb
      obtain ⟨v, h', e, kk, k⟩ := builtinA_ok hT e
      refine ⟨v, h', e, (fun hk => by
        have : h' = h := kk (by simp only [keeps, ho, hcb] at hk; revert hk; cases b <;> simp)
        rw [this]; exact Keep.rfl' _), opsem_val fun m a S q => ?_⟩
      obtain ⟨cv, m', g1, g2, g3, g4⟩ := k o.type (c.args.map fun | .const _ => true | _ => false) m _ S (hargs m a q)
      refine ⟨cv, m', ?_, g2, g3, g4⟩
      rw [← arr_map] at g1
      simp [execOp, ho, resolve, hcb, invoke]
      exact g1
    · rename_i g hcv
      split at e
      · rename_i g' cap hg
        have fin : ∀ {v : AV} {h' : Heap}, FnOk P g' → CallRuns P g' (c.args.toList.map (ev T) ++ cap) h v h' → OpSem P o T h v h' := by
          intro v h' ⟨fn, hf1, hf2, hf3⟩ k m a S q next Q hn
          have q1 := q g (by simp [ho, Op.operands, Call.operands, hcv])
          rw [hg] at q1
          simp only [Rel] at q1
          obtain ⟨us, hus, q1⟩ := q1
          have hk := k m (c.args.toList.map a.eval ++ us) S (RelL.append (hargs m a q) q1)
          have hrun : (execOp a.eval o).run P m.w = .ok (.enter g' (c.args.toList.map a.eval ++ us).toArray) m.w := by
            have hf3' : ¬ fn.name = "runtime.NumGoroutine" := by simpa using hf3
            have hb' : ¬ fn.body = none := by intro hbb; rw [hbb] at hf2; cases hf2
            have e1 : c.args.map a.eval ++ us.toArray = (c.args.toList.map a.eval ++ us).toArray := by rw [arr_map]; simp
            simp [execOp, ho, resolve, hcv, hus, Deferred.ofValue, invoke, callFunc, hf1, hf3', hb', e1]
          unfold Oper.wp
          rw [hrun, Oper.upon_enter]
          refine hk.mono fun e w' hh => ?_
          obtain ⟨m', cv, rfl, rfl, h1, h2, h3⟩ := hh
          exact hn m' cv h1 h2 h3
        cases hx : E.ext g' with
        | true =>
          rw [hx] at e; simp only [cond_true] at e
          split at e
          · rename_i y hy
            refine ⟨_, h, e, (fun _ => Keep.rfl' _), opsem_same fun m a S q => ?_⟩
            have q1 := q g (by simp [ho, Op.operands, Call.operands, hcv])
            rw [hg] at q1
            simp only [Rel] at q1
            obtain ⟨us, hus, q1⟩ := q1
            have q2 := RelL.append (hargs m a q) q1
            rw [hy] at q2
            obtain ⟨z, hz, q3⟩ := RelL.one1 q2
            have e1 : c.args.map a.eval ++ us.toArray = #[z] := by rw [arr_map]; simp only [List.append_toArray, hz]
            refine ⟨z, ?_, q3⟩
            simp [execOp, ho, resolve, hcv, hus, Deferred.ofValue, invoke, e1, hP.1 g' hx z m.w]
          · cases e
        | false =>
          rw [hx] at e; simp only [cond_false] at e
          split at e
          · rename_i H hH
            obtain ⟨⟨v, nb⟩, hr, e⟩ := optK_ok e
            obtain ⟨hfo, k⟩ := hP.2 g' H _ h v nb hH hr
            exact ⟨v, _, e, (fun _ => Keep.append _ _), fin hfo k⟩
          · rename_i hH
            obtain ⟨v, h', e, hfo, k⟩ := hc _ _ _ _ _ e
            exact ⟨v, h', e, (by simp [keeps, ho, hcv, hg, hH, hx]), fin hfo k⟩
      · cases e
    · cases e
  · cases e

end Go.Proofs.YtklfdmnmiadgpaaAbs
