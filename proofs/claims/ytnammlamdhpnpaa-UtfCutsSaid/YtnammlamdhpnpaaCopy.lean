/- Words of this session: copy(dst, src) over a row of the call's own, whole or a cut of it; elements of whatever number of cells without slices inside. -/
import Derived.Test.YtnammlamdhpnpaaWMore
import Derived.Laws.CopyRow
import Derived.Laws.CopyOwn
namespace Go.Proofs.YtnammlamdhpnpaaW.PrintWords
open Go Go.RowKit
set_option linter.unusedVariables false
set_option linter.unusedSimpArgs false
/-- What a row is behind a copy into m of its elements from o on. -/
def cpy {α : Type} (xs : List α) (o m : Nat) (ys : List α) : List α := xs.take o ++ ys.take m ++ xs.drop (o + min m ys.length)
theorem cpy_length {α : Type} (xs : List α) (o m : Nat) (ys : List α) (h : o + m ≤ xs.length) : (cpy xs o m ys).length = xs.length := by
  unfold cpy
  simp only [List.length_append, List.length_take, List.length_drop]
  omega
section
variable {P : Program}
theorem run_copy_any (W : World) (dT sT ty e : TypeId) (sz : Nat) (hu : P.underlying dT = some (.slice e)) (hinfo : (P.info? e).map (·.size) = some sz) (g o dLen dCap : Nat) (A : Option Addr) (sLen sCap : Nat) (cur : Array Value) (t : TypeId)
    (hg : W.heap[g]? = some (.cells cur t (0, 0))) (cs : List Value) (hcs : cs.length = Nat.min sLen dLen * sz) (hsrc : 0 < cs.length → ∃ ad, A = some ad ∧ ∀ j v, cs[j]? = some v → W.cell? (ad.add j) = some v)
    (hfit : o + cs.length ≤ cur.size) (h1 : ∀ v ∈ cs, v.oneCell' = true) :
    (Builtin.copy_ #[dT, sT] ty #[.slice (some ⟨g, o, none⟩) dLen dCap, .slice A sLen sCap]).run P W = .ok (goInt (Nat.min sLen dLen)) (W.setRow g (cur.toList.take o ++ cs ++ cur.toList.drop (o + cs.length)).toArray) := by
  cases hq : P.info? e with
  | none => simp [hq] at hinfo
  | some i =>
    have hi : i.size = sz := by simpa [hq] using hinfo
    rcases Nat.eq_zero_or_pos cs.length with h0 | h0
    · obtain rfl : cs = [] := List.eq_nil_of_length_eq_zero h0
      have hz : Nat.min sLen dLen * sz = 0 := by rw [← hcs]; rfl
      have hself : W.setRow g cur = W := setRow_self W g cur t (0, 0) hg
      have hl : ∀ (x : Addr), (loadCells x 0).run P W = .ok #[] W := fun x => by simpa using run_loadCells_list (P := P) W x [] (by simp)
      cases A with
      | none => simp [Builtin.copy_, run_underlying hu, Builtin.lenOf, Builtin.firstCells, sizeOf, typeInfo, hq, hi, hz, storeCells, hself]
      | some a => simp [Builtin.copy_, run_underlying hu, Builtin.lenOf, Builtin.firstCells, sizeOf, typeInfo, hq, hi, hz, hl, storeCells, hself]
    · obtain ⟨a, rfl, hc⟩ := hsrc h0
      have hl := run_loadCells_list (P := P) W a cs hc
      have hst := run_storeCells_at P g o t cs 0 cur W hg (by simpa using hfit) h1
      simp [Builtin.copy_, run_underlying hu, Builtin.lenOf, Builtin.firstCells, sizeOf, typeInfo, hq, hi, ← hcs, hl, hst]
end
namespace Kd
section
variable {α : Type} {d : Kd α}
/-- A row that is read, as cells. -/
theorem C_cells {W : World} {A : Option Addr} {n : Nat} {ys : List α} (h : d.C W A n ys) : ∃ cs : List Value, cs.length = n * d.sz ∧ Reps (d.K W) d.sz ys cs ∧ (∀ u ∈ cs, u.oneCell' = true) ∧ (0 < n → ∃ ad, A = some ad ∧ ∀ j u, cs[j]? = some u → W.cell? (ad.add j) = some u) := by
  obtain ⟨h1, h2, h3⟩ := h
  rcases Nat.eq_zero_or_pos n with h0 | h0
  · have hy : ys = [] := List.eq_nil_of_length_eq_zero (h1.trans h0)
    subst hy; subst h0
    exact ⟨[], by simp, ⟨by simp, fun j p hj => by simp at hj⟩, by simp, fun h => absurd h (by omega)⟩
  · obtain ⟨ad, c, rfl, hr⟩ : ∃ ad, ∃ (_ : A = some ad), A = some ad ∧ ReadsRow (d.K W) d.sz W A n ys := by
      obtain ⟨ad, e, _⟩ := h3 h0
      exact ⟨ad, e, e, h1, h2, h3⟩
    obtain ⟨inner, hR, hc⟩ := ReadsRow.inner_ hr
    refine ⟨inner, by rw [hR.1, h1], hR, ?_, fun _ => ⟨ad, rfl, hc⟩⟩
    intro u hu
    obtain ⟨j, hj⟩ := List.getElem?_of_mem hu
    have hjl := (List.getElem?_eq_some_iff.1 hj).1
    rw [hR.1] at hjl
    have hs : 0 < d.sz := by
      rcases Nat.eq_zero_or_pos d.sz with g | g
      · rw [g] at hjl; omega
      · exact g
    have hq : j / d.sz < ys.length := by
      rw [Nat.div_lt_iff_lt_mul hs]; exact hjl
    have hk := hR.2 (j / d.sz) _ (List.getElem?_eq_getElem hq)
    refine d.K_one hk u ?_
    refine List.mem_of_getElem? (i := j % d.sz) ?_
    rw [List.getElem?_take, if_pos (Nat.mod_lt _ hs), List.getElem?_drop, Nat.mul_comm, Nat.div_add_mod]
    exact hj
/-- Rows of cells, behind a copy. -/
theorem Reps_cpy {R : α → List Value → Prop} {sz o m : Nat} {xs ys : List α} {cx cy : List Value} (hx : Reps R sz xs cx) (hy : Reps R sz ys cy) (h : o + m ≤ xs.length) :
    Reps R sz (cpy xs o m ys) (cx.take (o * sz) ++ cy.take (min m ys.length * sz) ++ cx.drop (o * sz + min m ys.length * sz)) := by
  have take_ : ∀ (zs : List α) (cz : List Value) (k : Nat), Reps R sz zs cz → Reps R sz (zs.take k) (cz.take (k * sz)) := by
    intro zs cz k hz
    refine ⟨?_, fun j p hj => ?_⟩
    · rw [List.length_take, List.length_take, hz.1]
      rcases Nat.le_total k zs.length with g | g
      · rw [Nat.min_eq_left g, Nat.min_eq_left (Nat.mul_le_mul_right _ g)]
      · rw [Nat.min_eq_right g, Nat.min_eq_right (Nat.mul_le_mul_right _ g)]
    · rw [List.getElem?_take] at hj
      split at hj
      · rename_i hjk
        have := hz.2 j p hj
        have e : ((cz.take (k * sz)).drop (j * sz)).take sz = (cz.drop (j * sz)).take sz := by
          rw [List.drop_take, List.take_take, Nat.min_eq_left]
          have : j * sz + sz ≤ k * sz := by rw [← Nat.succ_mul]; exact Nat.mul_le_mul_right _ hjk
          omega
        rw [e]; exact this
      · cases hj
  have drop_ : ∀ (zs : List α) (cz : List Value) (k : Nat), Reps R sz zs cz → Reps R sz (zs.drop k) (cz.drop (k * sz)) := by
    intro zs cz k hz
    refine ⟨?_, fun j p hj => ?_⟩
    · rw [List.length_drop, List.length_drop, hz.1, Nat.sub_mul]
    · rw [List.getElem?_drop] at hj
      have := hz.2 (k + j) p hj
      rw [List.drop_drop]
      rw [Nat.add_mul] at this
      exact this
  have app_ : ∀ (zs ws : List α) (cz cw : List Value), Reps R sz zs cz → Reps R sz ws cw → Reps R sz (zs ++ ws) (cz ++ cw) := by
    intro zs ws cz cw hz hw
    refine ⟨by rw [List.length_append, List.length_append, hz.1, hw.1, Nat.add_mul], fun j p hj => ?_⟩
    rcases Nat.lt_or_ge j zs.length with g | g
    · rw [List.getElem?_append_left g] at hj
      have := hz.2 j p hj
      have hle : j * sz + sz ≤ cz.length := by rw [hz.1, ← Nat.succ_mul]; exact Nat.mul_le_mul_right _ g
      rw [List.drop_append_of_le_length (by omega), List.take_append_of_le_length (by rw [List.length_drop]; omega)]
      exact this
    · rw [List.getElem?_append_right g] at hj
      have := hw.2 _ p hj
      have hle : cz.length ≤ j * sz := by rw [hz.1]; exact Nat.mul_le_mul_right _ g
      rw [List.drop_append, List.drop_eq_nil_of_le hle, List.nil_append, hz.1, ← Nat.sub_mul]
      exact this
  have e1 : ys.take m = ys.take (min m ys.length) := by
    rcases Nat.le_total m ys.length with g | g
    · rw [Nat.min_eq_left g]
    · rw [Nat.min_eq_right g, List.take_of_length_le g, List.take_of_length_le (Nat.le_refl _)]
  unfold cpy
  rw [e1, ← Nat.add_mul]
  exact app_ _ _ _ _ (app_ _ _ _ _ (take_ xs cx o hx) (take_ ys cy _ hy)) (drop_ xs cx _ hx)
/-- copy into m elements from o on of a row of the call's own: the run, and what the row is then. -/
theorem R_copyg {e base g n cap o m sCap dCap : Nat} {ok : Nat → Prop} {W : World} {xs ys : List α} (h : d.R e W base ok (.slice (some ⟨g, 0, none⟩) n cap) xs) (hKM : ∀ {w : World} {base : Nat} {ok : Nat → Prop} {x : α} {cs : List Value}, d.K w x cs → d.M w base ok x cs)
    (hMK : ∀ {w : World} {base : Nat} {ok : Nat → Prop} {w' : World} {base' : Nat} {ok' : Nat → Prop} {x : α} {cs : List Value}, d.M w base ok x cs → d.M w' base' ok' x cs) {A : Option Addr} (hy : d.C W A ys.length ys) (hm : o + m ≤ xs.length)
    {P : Program} (dT sT ty : TypeId) (hu : P.underlying dT = some (.slice e)) (hinfo : (P.info? e).map (·.size) = some d.sz) :
    ∃ W1, (Builtin.copy_ #[dT, sT] ty #[.slice (some ⟨g, o * d.sz, none⟩) m dCap, .slice A ys.length sCap]).run P W = .ok (goInt (Nat.min ys.length m)) W1 ∧ d.R e W1 base ok (.slice (some ⟨g, 0, none⟩) n cap) (cpy xs o m ys) ∧ W.grownBy W1 (some g) := by
  obtain ⟨h0, inner, ho, hr⟩ := h
  obtain ⟨hlen, hv⟩ := ho
  rcases hv with ⟨hv, _⟩ | ⟨g', cap', cur, hv, hb, hg, hn, hcap, hcs, htk⟩
  · simp at hv
  · simp only [Value.slice.injEq, Option.some.injEq, Addr.mk.injEq, and_true] at hv
    obtain ⟨rfl, rfl, rfl⟩ := hv
    obtain ⟨cy, hl, hR, h1, hsrc⟩ := C_cells hy
    have hmin : Nat.min ys.length m = min m ys.length := Nat.min_comm _ _
    have hinn : inner.length = xs.length * d.sz := hr.1
    have hcy : (cy.take (min m ys.length * d.sz)).length = min m ys.length * d.sz := by
      rw [List.length_take, hl, Nat.min_eq_left (Nat.mul_le_mul_right _ (Nat.min_le_right _ _))]
    have hfit : o * d.sz + min m ys.length * d.sz ≤ xs.length * d.sz := by
      rw [← Nat.add_mul]; exact Nat.mul_le_mul_right _ (by omega)
    have hncap : xs.length * d.sz ≤ cap * d.sz := Nat.mul_le_mul_right _ hn
    have run := run_copy_any (P := P) W dT sT ty e d.sz hu hinfo g (o * d.sz) m dCap A ys.length sCap cur e hg (cy.take (min m ys.length * d.sz)) (by rw [hcy, hmin]) (fun hp => by
      have hyp : 0 < ys.length := by
        rcases Nat.eq_zero_or_pos ys.length with g0 | g0
        · rw [hcy, g0] at hp; simp at hp
        · exact g0
      obtain ⟨ad, ea, hc⟩ := hsrc hyp
      exact ⟨ad, ea, fun j u hu => by
        rw [List.getElem?_take] at hu
        split at hu
        · exact hc j u hu
        · cases hu⟩) (by rw [hcy, hcs]; omega) (fun v hv => h1 v (List.mem_of_mem_take hv))
    have hcurl : cur.toList.length = cap * d.sz := by simpa using hcs
    have hlc := cpy_length xs o m ys hm
    have hRx : Reps (d.M W base (fun k => ok k ∧ some k ≠ (Value.slice (some ⟨g, 0, none⟩) xs.length cap).ownBlock)) d.sz ys cy := hR.imp_ (fun _ _ hk => hKM hk)
    have hrep := Reps_cpy hr hRx hm
    refine ⟨_, run, ⟨h0, inner.take (o * d.sz) ++ cy.take (min m ys.length * d.sz) ++ inner.drop (o * d.sz + min m ys.length * d.sz), ?_, hrep.imp_ (fun _ _ hk => hMK hk)⟩, ⟨rfl, rfl, rfl, ?_, fun k hk hne => setRow_other W g k _ (fun e => hne (by rw [e]))⟩⟩
    · rw [hlc]
      refine ⟨by rw [hrep.1, hlc], .inr ⟨g, cap, _, rfl, hb, setRow_heap W g cur _ e (0, 0) hg, hn, hcap, ?_, ?_⟩⟩
      · simp only [List.size_toArray, List.length_append, List.length_take, List.length_drop, hcurl, hl]
        rw [Nat.min_eq_left (by omega), Nat.min_eq_left (Nat.mul_le_mul_right _ (Nat.min_le_right _ _))]
        omega
      · obtain ⟨rest, hrest⟩ : ∃ rest, cur.toList = inner ++ rest := ⟨cur.toList.drop (xs.length * d.sz), by rw [← htk]; exact (List.take_append_drop _ _).symm⟩
        have e1 : (inner ++ rest).take (o * d.sz) = inner.take (o * d.sz) := List.take_append_of_le_length (by omega)
        have e2 : (inner ++ rest).drop (o * d.sz + min m ys.length * d.sz) = inner.drop (o * d.sz + min m ys.length * d.sz) ++ rest := List.drop_append_of_le_length (by omega)
        rw [List.toList_toArray, hcy, hrest, e1, e2, ← List.append_assoc]
        refine List.take_left' ?_
        simp only [List.length_append, List.length_take, List.length_drop, hl, hinn]
        rw [Nat.min_eq_left (by omega), Nat.min_eq_left (Nat.mul_le_mul_right _ (Nat.min_le_right _ _))]
        omega
    · simp [World.setRow]
end
end Kd
section
variable {P : Program} {ops : Array Oper} {Q : Exit → Act → World → Prop} {rest : List Oper} {o : Oper} {a : Act}
theorem copy_event {W W1 : World} {r : Value} (hgd : o.guard = none) {s x : Operand} {t t2 : TypeId} (ho : o.op = .call { callee := .builtin .copy, args := #[s, x], argTypes := #[t, t2] }) {vs vx : Value} (hs : a.eval s = vs) (hx : a.eval x = vx)
    (hrun : (Builtin.copy_ #[t, t2] o.type #[vs, vx]).run P W = .ok r W1) (h : ∀ w', w' = W1 → wpList P ops Q rest (a.put o.dst r) w') : wpList P ops Q (o :: rest) a W := by
  refine Kd.event_run hgd (v := r) (w1 := W1) ?_ (h _ rfl)
  unfold execOp
  simp only [ho, resolve, invoke, builtin, Sem.run_bind, Sem.run_pure, Result.andThen_ok, List.map_toArray, List.map_cons, List.map_nil, hs, hx, hrun]
end
theorem row_len_ {α : Type} {R : α → List Value → Prop} {size m : Nat} {w : World} {A : Option Addr} {ys : List α} (h : ys.length = m) (H : ReadsRow R size w A ys.length ys) : ReadsRow R size w A m ys := h ▸ H
end Go.Proofs.YtnammlamdhpnpaaW.PrintWords
