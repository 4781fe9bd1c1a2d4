/- A drawn region: one operation more, whichever is drawn; the whole. -/
import Derived.Test.YtklfdmnmiadgpaaAbsCore21
namespace Go.Proofs.YtklfdmnmiadgpaaAbs
set_option linter.unusedVariables false
set_option linter.unusedSimpArgs false
open Go
variable {R : Type}

theorem wanted_of {ops : Array Oper} {o : Oper} {m : Mem} {h : Heap} {T : List AV} {a : Act} {b : Bool} (q : RelT m h T a) (e : guardB ops.toList o T = some b) : Region.wanted o (yielded ops a.tmps) = b := by
  unfold guardB at e
  split at e
  · rename_i hg
    injection e with e; subst e
    simp [Region.wanted, hg]
  · rename_i j want hg
    split at e
    · rename_i oj hoj
      split at e
      · rename_i g hdst
        split at e
        · rename_i x hb
          injection e with e; subst e
          have hlt : g < T.length := by
            rcases Nat.lt_or_ge g T.length with k | k
            · exact k
            · rw [tget_ge k] at hb; cases hb
          have h1 := q.2 g
          rw [hb] at h1
          have h2 : a.tmps[g]? = some (.bool x) := by
            have hlt2 : g < a.tmps.size := by rw [← q.1]; exact hlt
            have : a.tmps.getD g undef = .bool x := h1
            simp [hlt2] at this
            simp [hlt2, this]
          unfold Region.wanted
          rw [hg]
          simp only
          rw [yielded_rel q hoj hdst, h2]
          cases x <;> cases want <;> rfl
        · rename_i vs hb
          injection e with e; subst e
          have h1 := q.2 g
          rw [hb] at h1
          simp only [Rel] at h1
          obtain ⟨us, h1, _⟩ := h1
          unfold Region.wanted
          rw [hg]
          simp only
          rw [yielded_rel q hoj hdst]
          cases hx : a.tmps[g]? with
          | none => rfl
          | some v =>
            have : a.tmps.getD g undef = v := by
              obtain ⟨hlt, hv⟩ := Array.getElem?_eq_some_iff.1 hx
              simp [hlt, hv]
            rw [this] at h1
            subst h1
            rfl
        · cases e
      · cases e
    · cases e

theorem guardB_congr {all : List Oper} {o : Oper} {T T' : List AV} (h : ∀ x ∈ guardTmp all o.guard, tget T x = tget T' x) : guardB all o T = guardB all o T' := by
  unfold guardB
  cases hg : o.guard with
  | none => rfl
  | some g =>
    obtain ⟨j, want⟩ := g
    simp only
    cases hj : all[j]? with
    | none => rfl
    | some oj =>
      simp only
      cases hd : oj.dst with
      | none => rfl
      | some g =>
        simp only
        rw [h g (by simp [guardTmp, hg, hj, hd])]

section
variable {P : Program} {ops : Array Oper} {es : List Eff} {T0 T' : List AV} {h0 h' : Heap} {m0 : Mem} {a0 : Act}

def Born (es : List Eff) (h0 : Heap) (S : Nat → Bool) (r : Nat) : Prop := r < h0.length ∨ ∃ (k : Nat) (a : Eff), es[k]? = some a ∧ S k = true ∧ a.r.lo ≤ r ∧ r < a.r.hi
def Whole (es : List Eff) (h0 h' : Heap) (S : Nat → Bool) : Heap := heapOf h'.length (foldH S 0 es (hget h0))

structure Inv (ops : Array Oper) (es : List Eff) (T0 : List AV) (h0 h' : Heap) (m0 : Mem) (a0 : Act) (S : Nat → Bool) (m : Mem) (a : Act) : Prop where
  ext : Ext m0 h0 m (Whole es h0 h' S)
  sim : Sim m (Whole es h0 h' S)
  rel : RelT m (Whole es h0 h' S) (foldT S 0 es T0) a
  defers : a.defers = a0.defers
  bornT : ∀ t, ∀ r ∈ (tget (foldT S 0 es T0) t).refs, Born es h0 S r
  bornG : ∀ id b, hget (Whole es h0 h' S) id = some b → ∀ r ∈ b.refs, Born es h0 S r
  down : ∀ j, S j = true → ∀ i, Nat.testBit ((ancs ops.toList []).getD j 0) i = true → S i = true

theorem Born.mono {S : Nat → Bool} {i r : Nat} (h : Born es h0 S r) : Born es h0 (ins S i) r := by
  rcases h with h | ⟨k, a, h1, h2, h3⟩
  · exact .inl h
  · exact .inr ⟨k, a, h1, by simp [ins, h2], h3⟩

theorem inv_step (hch : Chain P ops.toList T0 h0 es T' h') (hd : drawOk (ancs ops.toList []) ((es.map (·.r)).reverse ++ []) = true) (hj : ∀ (k : Nat) (e : Eff), es[k]? = some e → e.r.j = k)
    {S : Nat → Bool} {m : Mem} {a : Act} (I : Inv ops es T0 h0 h' m0 a0 S m a) {i : Nat} {e : Eff} (hi : es[i]? = some e) (hs : S i = false) (hanc : ∀ x, Nat.testBit ((ancs ops.toList []).getD i 0) x = true → S x = true) :
    Region.wanted e.o (yielded ops a.tmps) = e.run ∧
    (e.run = true → ∀ (next : Act → World → Prop) (Q : Exit → Act → World → Prop), (∀ m' a', Inv ops es T0 h0 h' m0 a0 (ins S i) m' a' → next a' m'.w) → e.o.wp P a m.w next Q) ∧
    (e.run = false → Inv ops es T0 h0 h' m0 a0 (ins S i) m (a.put e.o.dst undef)) := by
  obtain ⟨eT, eH, ok, lo0, hiN⟩ := chain_at es 0 hch i e hi
  simp only [Nat.zero_add] at eT eH
  have un1 : ∀ k b, k < i → S k = false → es[k]? = some b → Apart b.r e.r := fun k b hk hsk hb => by
    rcases drawOk_at hd hk hb hi with h | h
    · rw [hj i e hi, hj k b hb] at h
      rw [hanc k h] at hsk; cases hsk
    · exact apart_spec h
  have un2 : ∀ k b, i < k → S k = true → es[k]? = some b → Apart e.r b.r := fun k b hk hsk hb => by
    rcases drawOk_at hd hk hi hb with h | h
    · rw [hj k b hb, hj i e hi] at h
      rw [I.down k hsk i h] at hs; cases hs
    · exact apart_spec h
  have okOf : ∀ k b, es[k]? = some b → EffOk P ops.toList b ∧ h0.length ≤ b.r.lo ∧ b.r.hi ≤ h'.length := fun k b hb => (chain_at es 0 hch k b hb).2.2
  -- ranges of different operations
  have rng : ∀ k b, k ≠ i → es[k]? = some b → ∀ id, ¬ ((b.r.lo ≤ id ∧ id < b.r.hi) ∧ (e.r.lo ≤ id ∧ id < e.r.hi)) := fun k b hk hb id ⟨⟨q1, q2⟩, q3, q4⟩ => by
    rcases Nat.lt_or_gt_of_ne hk with h | h
    · have := chain_apart es hch k i b e h hb hi; omega
    · have := chain_apart es hch i k e b h hi hb; omega
  -- the names that the operation looks at
  have names : ∀ x ∈ namesOf ops.toList e.o, tget (foldT S 0 es T0) x = tget e.T x := fun x hx => by
    rw [eT]
    refine foldT_agree es 0 (fun k b hb hdst => ?_) rfl rfl
    simp only [Nat.zero_add]
    rw [← ok.names] at hx
    have hdst' : b.r.dst = some x := by rw [(okOf k b hb).1.dst]; exact hdst
    rcases Nat.lt_trichotomy k i with h | h | h
    · rw [decide_eq_true h]
      cases hsk : S k with
      | true => rfl
      | false => exact absurd hx ((un1 k b h hsk hb).d1 x hdst')
    · subst h; rw [hs]; simp
    · rw [decide_eq_false (by omega)]
      cases hsk : S k with
      | false => rfl
      | true => exact absurd hx ((un2 k b h hsk hb).d2 x hdst')
  -- the blocks that it touches
  have touched : ∀ id ∈ e.r.ids, foldH S 0 es (hget h0) id = hget e.h id := fun id hid => by
    rw [eH]
    refine foldH_agree es 0 (fun k b hb hh => ?_) rfl
    simp only [Nat.zero_add]
    rcases Nat.lt_trichotomy k i with h | h | h
    · rw [decide_eq_true h]
      cases hsk : S k with
      | true => rfl
      | false =>
        have ap := un1 k b h hsk hb
        rcases hh with hh | hh
        · exact absurd hh (ap.n id hid)
        · exact absurd hid (ap.w1 id hh)
    · subst h; rw [hs]; simp
    · rw [decide_eq_false (by omega)]
      cases hsk : S k with
      | false => rfl
      | true =>
        have ap := un2 k b h hsk hb
        rcases hh with hh | hh
        · have h1 := ok.ids id hid
          have h2 := ok.le
          have := chain_apart es hch i k e b h hi hb; omega
        · exact absurd hh (ap.w2 id hid)
  have guard : guardB ops.toList e.o (foldT S 0 es T0) = some e.run := by
    rw [← ok.guard]
    exact guardB_congr fun x hx => names x (by simp [namesOf, hx])
  -- the state behind it
  have hins0 : S (0 + i) = false := by rw [Nat.zero_add]; exact hs
  have TT : ∀ x, tget (foldT (ins S i) 0 es T0) x = tget (tput (foldT S 0 es T0) e.o.dst e.v) x := fun x => by
    have := foldT_insert (S := S) (x := x) es 0 i (T := T0) hi hins0 (fun k b hk hb hsk hdst => ?_)
    · rwa [Nat.zero_add] at this
    · rw [Nat.zero_add] at hsk
      have ap := un2 k b hk hsk hb
      intro hx
      exact ap.d3 x (by rw [ok.dst]; exact hx) (by rw [(okOf k b hb).1.dst]; exact hdst)
  have HH : ∀ id, foldH (ins S i) 0 es (hget h0) id = effH e (foldH S 0 es (hget h0)) id := fun id => by
    have := foldH_insert (S := S) (id := id) es 0 i (g := hget h0) hi hins0 (fun k b hk hb hsk hh => ?_)
    · rwa [Nat.zero_add] at this
    · rw [Nat.zero_add] at hsk
      have ap := un2 k b hk hsk hb
      intro he
      rcases hh with hh | hh
      · rcases he with he | he
        · exact rng k b (by omega) hb id ⟨hh, he⟩
        · have h1 := ok.ids id (ok.ws id he)
          have h2 := ok.le
          have := chain_apart es hch i k e b hk hi hb; omega
      · have hb' := (okOf k b hb).1.ws id hh
        rcases he with he | he
        · exact ap.n id hb' he
        · exact ap.w1 id he hb'
  have down : ∀ j, ins S i j = true → ∀ x, Nat.testBit ((ancs ops.toList []).getD j 0) x = true → ins S i x = true := fun j hj' x hx => by
    by_cases h : j = i
    · subst h; simp [ins, hanc x hx]
    · rw [ins_ne h] at hj'
      simp [ins, I.down j hj' x hx]
  have relPut : ∀ {m' : Mem} {G' : Heap} {a' : Act} {cv : Value}, RelT m' G' (foldT S 0 es T0) a' → Rel m' G' e.v cv → RelT m' G' (foldT (ins S i) 0 es T0) (a'.put e.o.dst cv) := fun q k => by
    have := q.put e.o.dst k
    refine ⟨by rw [foldT_length, ← foldT_length S es 0 T0, ← tput_length _ e.o.dst e.v]; exact this.1, fun t => ?_⟩
    rw [TT t]; exact this.2 t
  have bornV : ∀ r ∈ e.r.ids, Born es h0 (ins S i) r := fun r hr => by
    rcases chain_born es hch i e r hi (ok.ids r hr) with k | ⟨k, b, k1, k2, k3⟩
    · exact .inl k
    · cases hsk : S k with
      | true => exact .inr ⟨k, b, k2, by simp [ins, hsk], k3⟩
      | false => exact absurd k3 ((un1 k b k1 hsk k2).n r hr)
  have bornIn : ∀ r, (r ∈ e.r.ids ∨ (e.r.lo ≤ r ∧ r < e.r.hi)) → Born es h0 (ins S i) r := fun r hr => by
    rcases hr with hr | hr
    · exact bornV r hr
    · exact .inr ⟨i, e, hi, ins_self S i, hr⟩
  have bornT : ∀ t, ∀ r ∈ (tget (foldT (ins S i) 0 es T0) t).refs, Born es h0 (ins S i) r := fun t r hr => by
    rw [TT t, tget_tput] at hr
    split at hr
    · exact bornIn r (ok.val r hr)
    · exact (I.bornT t r hr).mono
  have notNew : ∀ r, Born es h0 S r → ¬ (e.r.lo ≤ r ∧ r < e.r.hi) := fun r hr hn => by
    rcases hr with hr | ⟨k, b, k1, k2, k3⟩
    · omega
    · refine rng k b (fun h => ?_) k1 r ⟨k3, hn⟩
      subst h; rw [hs] at k2; cases k2
  have hle := ok.le
  refine ⟨wanted_of I.rel guard, fun hrun next Q hn => ?_, fun hrun => ?_⟩
  · -- it is wanted
    let G := Whole es h0 h' S
    let M := mask e.r.ids e.h
    have gG : ∀ id, id < h'.length → hget G id = foldH S 0 es (hget h0) id := fun id h => by show hget (heapOf _ _) id = _; rw [hget_heapOf, if_pos h]
    have Glen : G.length = h'.length := heapOf_length _ _
    have inN : ∀ id ∈ e.r.ids, id < h'.length := fun id hid => by have := ok.ids id hid; omega
    have Mlen : M.length = e.r.lo := by show (mask _ _).length = _; rw [mask_length, ok.lo]
    have part : Part M G (fun id => id ∈ e.r.ids) := by
      refine ⟨fun id b eb => ?_, fun id b eb r hr => ok.refs hrun id b eb r hr, fun id hid => by rw [Mlen]; exact ok.ids id hid⟩
      have eb' : hget (mask e.r.ids e.h) id = some b := eb
      rw [hget_mask] at eb'
      cases hm : mem id e.r.ids with
      | false => rw [hm] at eb'; cases eb'
      | true =>
        rw [hm] at eb'
        have hin := mem_iff.1 hm
        exact ⟨by rw [gG id (inN id hin), touched id hin]; exact eb', hin⟩
    have SM : Sim m M := part.sim I.sim
    have hops : ∀ x ∈ e.o.op.operands.toList, Rel m M (ev e.T x) (a.eval x) := fun x hx => by
      have e1 : ev e.T x = ev (foldT S 0 es T0) x := by
        cases x with
        | tmp t => exact (names t (by
            refine List.mem_append_left _ ?_
            exact List.mem_filterMap.2 ⟨.tmp t, hx, rfl⟩)).symm
        | _ => rfl
      refine Rel.carry part.carry _ _ (fun r hr => ok.ops hrun x hx r hr) ?_
      rw [e1]
      exact I.rel.ev x
    refine ok.sem hrun m a SM hops next Q fun m1 cv E1 S1 r1 => ?_
    let G' := Whole es h0 h' (ins S i)
    have gG' : ∀ id, id < h'.length → hget G' id = effH e (foldH S 0 es (hget h0)) id := fun id h => by show hget (heapOf _ _) id = _; rw [hget_heapOf, if_pos h, HH id]
    have geN : ∀ id, ¬ id < h'.length → hget G id = none ∧ hget G' id = none := fun id h => ⟨by show hget (heapOf _ _) id = _; rw [hget_heapOf, if_neg h], by show hget (heapOf _ _) id = _; rw [hget_heapOf, if_neg h]⟩
    obtain ⟨m', hw, S', C1, C2, EN⟩ := frame (m := m) (m1 := m1) (G := G) (M := M) (M' := e.M') (G' := G') (L := e.r.lo) (L' := e.r.hi) (p := fun id => id ∈ e.r.ids) I.sim Mlen (ok.len hrun) ok.le (by rw [Glen]; exact hiN) (by rw [Glen]; exact heapOf_length _ _)
      part (fun id b hid eb => by
        rw [gG id (inN id hid), touched id hid] at eb
        show hget (mask _ _) id = _
        rw [hget_mask, mem_iff.2 hid]; exact eb)
      (fun id k1 k2 => by
        rw [gG id (by omega)]
        rw [foldH_none es 0 (fun k b hb hsk hh => ?_)]
        · exact hget_ge (by omega)
        · rw [Nat.zero_add] at hsk
          have hne : k ≠ i := fun h => by subst h; rw [hs] at hsk; cases hsk
          rcases hh with hh | hh
          · exact rng k b hne hb id ⟨hh, k1, k2⟩
          · rcases Nat.lt_or_gt_of_ne hne with h | h
            · have h1 := (okOf k b hb).1.ids id ((okOf k b hb).1.ws id hh)
              have h2 := (okOf k b hb).1.le
              have := chain_apart es hch k i b e h hb hi; omega
            · exact (un2 k b h hsk hb).n id ((okOf k b hb).1.ws id hh) ⟨k1, k2⟩)
      (fun id k => by
        have hlt : id < h'.length := by
          rcases k with k | k
          · exact inN id k
          · omega
        rw [gG' id hlt]
        unfold effH
        by_cases hh : e.hits id
        · rw [if_pos hh]
        · rw [if_neg hh]
          rcases k with k | k
          · rw [ok.keep hrun id k (fun hw => hh (.inr hw)), hget_mask, mem_iff.2 k]
            exact touched id k
          · exact absurd (.inl k) hh)
      (fun id k => by
        by_cases hlt : id < h'.length
        · rw [gG' id hlt, gG id hlt]
          unfold effH
          rw [if_neg]
          rintro (hh | hh)
          · exact k (.inr hh)
          · exact k (.inl (ok.ws id hh))
        · rw [(geN id hlt).1, (geN id hlt).2])
      E1 S1 (fun id b eb r hr => ok.out hrun id b eb r hr) (fun id b eb r hr => notNew r (I.bornG id b eb r hr))
    rw [← hw]
    refine hn m' _ ⟨Ext.transN I.ext EN fun id k => by omega, S', ?_, by rw [put_defers]; exact I.defers, bornT, fun id b eb r hr => ?_, down⟩
    · exact relPut ⟨I.rel.1, fun t => Rel.carry C2 _ _ (fun r hr => notNew r (I.bornT t r hr)) (I.rel.2 t)⟩ (Rel.carry C1 _ _ (fun r hr => ok.val r hr) r1)
    · by_cases hlt : id < h'.length
      · have eb' : hget G' id = some b := eb
        rw [gG' id hlt] at eb'
        unfold effH at eb'
        split at eb'
        · exact bornIn r (ok.out hrun id b eb' r hr)
        · exact (I.bornG id b (by show hget G id = _; rw [gG id hlt]; exact eb') r hr).mono
      · have eb' : hget G' id = some b := eb
        rw [(geN id hlt).2] at eb'; cases eb'
  · obtain ⟨n1, n2, n3, n4⟩ := ok.no hrun
    have noHit : ∀ id, ¬ e.hits id := fun id => by
      rintro (hh | hh)
      · omega
      · rw [n3] at hh; simp at hh
    have same : Whole es h0 h' (ins S i) = Whole es h0 h' S := by
      show heapOf _ _ = heapOf _ _
      congr 1
      funext id
      rw [HH id]
      exact if_neg (noHit id)
    refine ⟨by rw [same]; exact I.ext, by rw [same]; exact I.sim, ?_, by rw [put_defers]; exact I.defers, bornT, fun id b eb r hr => ?_, down⟩
    · rw [same]
      exact relPut I.rel (by rw [n1]; exact ⟨[], rfl, rfl⟩)
    · rw [same] at eb
      exact (I.bornG id b eb r hr).mono
end

/-! ### how many are left -/
def left (listed : Array Bool) (n : Nat) : Nat := ((List.range n).filter fun i => !listed.getD i true).length
theorem filter_less (p q : Nat → Bool) (j : Nat) (hq : ∀ i, i ≠ j → q i = p i) (hpj : p j = true) (hqj : q j = false) : (l : List Nat) → (l.filter q).length ≤ (l.filter p).length ∧ (j ∈ l → (l.filter q).length + 1 ≤ (l.filter p).length)
  | [] => by simp
  | x :: l => by
    obtain ⟨h1, h2⟩ := filter_less p q j hq hpj hqj l
    by_cases hx : x = j
    · subst hx
      simp [List.filter_cons, hpj, hqj]
      omega
    · have := hq x hx
      simp only [List.filter_cons, this]
      cases p x with
      | true => simp; exact ⟨h1, fun k => by rcases k with k | k; exact absurd k.symm hx; have := h2 k; omega⟩
      | false => simp; exact ⟨h1, fun k => by rcases k with k | k; exact absurd k.symm hx; have := h2 k; omega⟩
theorem left_set {listed : Array Bool} {n j : Nat} (hjn : j < n) (hj : listed.getD j true = false) : left (listed.setIfInBounds j true) n + 1 ≤ left listed n := by
  refine (filter_less (fun i => !listed.getD i true) (fun i => !(listed.setIfInBounds j true).getD i true) j (fun i hi => ?_) (by simp [hj]) ?_ (List.range n)).2 (List.mem_range.2 hjn)
  · show (!(listed.setIfInBounds j true).getD i true) = !listed.getD i true
    rw [getD_set_ne true (Ne.symm hi)]
  · have hlt : j < listed.size := by
      rcases Nat.lt_or_ge j listed.size with h | h
      · exact h
      · simp [Array.getElem?_eq_none h] at hj
    simp [hlt]
theorem left_zero {listed : Array Bool} {n : Nat} (h : left listed n = 0) : ∀ i, i < n → listed.getD i true = true := fun i hi => by
  have := List.eq_nil_of_length_eq_zero h
  have h2 : i ∉ ((List.range n).filter fun i => !listed.getD i true) := by rw [this]; simp
  simp [hi] at h2
  simpa using h2

theorem listed_ins {listed : Array Bool} {i : Nat} (hi : i < listed.size) : (fun k => (listed.setIfInBounds i true).getD k false) = ins (fun k => listed.getD k false) i := by
  funext k
  by_cases h : k = i
  · subst h; simp [ins, hi]
  · rw [getD_set_ne false (Ne.symm h), ins_ne h]

theorem drawn_ok {P : Program} {E : Env} (hT : TabOk P E.tab) (hP : PureOk P E) (hm : P.follows .mixedOrders = true) {f : FuncId} {call : CallF R} (hc : CallOk P call) : DrawSound P E f call := by
  intro _ id ops s K res hb e
  obtain ⟨es, s', hch, hops, hd, hK, hj⟩ := runDrawn_chain hT hP hc _ e
  have hj' : ∀ (k : Nat) (e : Eff), es[k]? = some e → e.r.j = k := fun k e he => by rw [hj k e he]; omega
  refine ⟨.normal, s', hK, fun m a Q S q hq => wp_region_any hm ?_⟩
  have hlen : es.length = ops.size := by have := congrArg List.length hops; rw [List.length_map, Array.length_toList] at this; exact this
  have opAt : ∀ (i : Nat) (o : Oper), ops[i]? = some o → ∃ e, es[i]? = some e ∧ e.o = o := fun i o ho => by
    have : (es.map (·.o))[i]? = some o := by rw [hops]; simpa using ho
    simpa using this
  obtain ⟨end1, end2, end3⟩ := chain_end es 0 hch
  -- the world in which the draw has been counted
  let md : Mem := ⟨{ m.w with drawn := m.w.drawn + 1 }, m.loc, m.good⟩
  have E0 : Ext m s.h md s.h := ⟨rfl, rfl, rfl, Nat.le_refl _, fun _ _ k => ⟨rfl, k⟩, fun _ k => k, fun _ k => .inl k, Nat.le_refl _, fun _ _ k => k,
    fun id b b' e1 e2 => by rw [e1] at e2; injection e2 with e2; subst e2; exact ⟨rfl, Blk.like_refl b, fun _ _ _ => rfl⟩⟩
  -- the start
  let G0 := Whole es s.h s'.h (fun _ => false)
  have hG0 : ∀ id, hget G0 id = hget s.h id := fun id => by
    show hget (heapOf _ _) id = _
    rw [hget_heapOf]
    by_cases h : id < s'.h.length
    · rw [if_pos h]; exact foldH_none es 0 fun k e he hs => by cases hs
    · rw [if_neg h, hget_ge (by omega)]
  have lenG0 : G0.length = s'.h.length := heapOf_length _ _
  have C0 : Carry m s.h md G0 (fun _ => True) := ⟨fun B k => ⟨k, rfl⟩, fun id _ hi => by rw [lenG0]; omega, fun id b _ _ e1 => ⟨b, by rw [← hG0 id]; exact e1, rfl, Blk.like_refl b, fun _ _ _ => rfl⟩⟩
  have EG : Ext m s.h md G0 := ⟨rfl, rfl, rfl, Nat.le_refl _, fun B _ hn => ⟨rfl, fun ⟨i, b, o, e1, l⟩ => hn ⟨i, b, o, by rw [← hG0 i]; exact e1, l⟩⟩, fun _ k => k, fun _ k => .inl k, by rw [lenG0]; exact end3, fun id _ e1 => by rw [hG0 id]; exact e1,
    fun id b b' e1 e2 => by rw [hG0 id, e1] at e2; injection e2 with e2; subst e2; exact ⟨rfl, Blk.like_refl b, fun _ _ _ => rfl⟩⟩
  have I0 : Inv ops es s.T s.h s'.h m a (fun _ => false) md a := by
    refine ⟨EG, ⟨fun id b e1 => ?_, fun i j b b' B o o' e1 e2 => S.inj i j b b' B o o' (by rw [← hG0 i]; exact e1) (by rw [← hG0 j]; exact e2), fun i b B o e1 => S.sep i b B o (by rw [← hG0 i]; exact e1), S.lt⟩, ?_, rfl, fun t r hr => ?_, fun id b e1 r hr => ?_, fun j k => by cases k⟩
    · exact BlkRel.carry C0 (fun _ _ => trivial) (S.blk id b (by rw [← hG0 id]; exact e1)) rfl fun _ _ _ => rfl
    · rw [foldT_none es 0 _ fun _ _ => rfl]
      exact ⟨q.1, fun t => Rel.carry C0 _ _ (fun _ _ => trivial) (q.2 t)⟩
    · rw [foldT_none es 0 _ fun _ _ => rfl] at hr
      exact .inl (Rel.bound _ _ (q.2 t) r hr)
    · exact .inl (S.bound (by rw [← hG0 id]; exact e1) r hr)
  -- the end
  have fin : ∀ (listed : Array Bool) (m1 : Mem) (a1 : Act), (∀ i, i < ops.size → listed.getD i false = true) → Inv ops es s.T s.h s'.h m a (fun k => listed.getD k false) m1 a1 → Q .normal a1 m1.w := fun listed m1 a1 hall I => by
    have hT1 : foldT (fun k => listed.getD k false) 0 es s.T = s'.T := by
      rw [end1]
      exact foldT_congr es 0 _ fun k hk => by rw [Nat.zero_add]; exact hall k (by omega)
    have hH1 : Whole es s.h s'.h (fun k => listed.getD k false) = s'.h := by
      refine heap_ext (heapOf_length _ _) fun id => ?_
      show hget (heapOf _ _) id = _
      rw [hget_heapOf, end2 id]
      by_cases h : id < s'.h.length
      · rw [if_pos h]
        exact congrFun (foldH_congr es 0 _ fun k hk => by rw [Nat.zero_add]; exact hall k (by omega)) id
      · rw [if_neg h, ← end2 id, hget_ge (by omega)]
    have i1 := I.ext; have i2 := I.sim; have i3 := I.rel
    rw [hH1] at i1 i2 i3
    rw [hT1] at i3
    exact hq m1 a1 ⟨i1, i2, i3, I.defers⟩
  have allOf : ∀ listed : Array Bool, listed.size = ops.size → (∀ i, i < ops.size → listed.getD i true = true) → ∀ i, i < ops.size → listed.getD i false = true := fun listed hsz h i hi => by
    have := h i hi
    have hlt : i < listed.size := by omega
    simp [hlt] at this ⊢
    exact this
  have main : ∀ (fuel : Nat) (listed : Array Bool) (m1 : Mem) (a1 : Act), listed.size = ops.size → left listed ops.size ≤ fuel → Inv ops es s.T s.h s'.h m a (fun k => listed.getD k false) m1 a1 → wpAny P .any ops Q fuel listed a1 m1.w := by
    intro fuel
    induction fuel with
    | zero =>
      intro listed m1 a1 hsz hl I
      have hz := left_zero (Nat.le_zero.1 hl)
      refine ⟨?_, fin listed m1 a1 (allOf listed hsz hz) I⟩
      cases hr : Region.ready .any ops listed with
      | nil => rfl
      | cons j js =>
        have : j ∈ Region.ready .any ops listed := by rw [hr]; simp
        obtain ⟨h1, o, h2, _⟩ := mem_ready.1 this
        have := hz j (by have := (Array.getElem?_eq_some_iff.1 h2).1; exact this)
        rw [h1] at this; cases this
    | succ fuel ih =>
      intro listed m1 a1 hsz hl I
      refine ⟨fun hr => ?_, fun i hi => ?_⟩
      · -- nothing is ready: all are listed
        refine fin listed m1 a1 (allOf listed hsz fun i => ?_) I
        induction i using Nat.strongRecOn with
        | _ i ihi =>
          intro hi
          cases hl1 : listed.getD i true with
          | true => rfl
          | false =>
            exfalso
            have hin : i ∈ Region.ready .any ops listed := by
              have ho : ops[i]? = some ops[i] := by simp [hi]
              refine mem_ready.2 ⟨hl1, ops[i], ho, fun e he hbd => ?_⟩
              have hon := backB_at hb i ops[i] (by simp) e he hbd
              rw [Nat.zero_add] at hon
              have := ihi e.on hon (by omega)
              have hlt : e.on < listed.size := by omega
              simp [hlt] at this ⊢
              exact this
            rw [hr] at hin
            simp at hin
      · obtain ⟨h1, o, h2, h3⟩ := mem_ready.1 hi
        have hio : i < ops.size := (Array.getElem?_eq_some_iff.1 h2).1
        obtain ⟨e, he, heo⟩ := opAt i o h2
        have hs : listed.getD i false = false := by
          have hlt : i < listed.size := by omega
          simp [hlt] at h1 ⊢
          exact h1
        have hanc : ∀ x, Nat.testBit ((ancs ops.toList []).getD i 0) x = true → listed.getD x false = true := fun x hx => by
          obtain ⟨ed, hed, hbd, hx⟩ := anc_bit hb (by simpa using h2) hx
          have := h3 ed hed hbd
          rcases hx with rfl | hx
          · exact this
          · exact I.down ed.on this x hx
        obtain ⟨w1, w2, w3⟩ := inv_step hch hd hj' I he hs hanc
        rw [heo] at w1 w2 w3
        have hset := listed_ins (listed := listed) (i := i) (by omega)
        have hleft := left_set hio h1
        have next : ∀ m' a', Inv ops es s.T s.h s'.h m a (ins (fun k => listed.getD k false) i) m' a' → wpAny P .any ops Q fuel (listed.setIfInBounds i true) a' m'.w := fun m' a' I' =>
          ih _ m' a' (by simpa using hsz) (by omega) (by rw [hset]; exact I')
        unfold wpOp
        rw [h2]
        simp only
        rw [w1]
        cases hrun : e.run with
        | true => simp only [if_true]; exact .inl (w2 hrun _ Q next)
        | false => simp only [Bool.false_eq_true, if_false]; exact next m1 _ (w3 hrun)
  refine main ops.size (Array.replicate ops.size false) md a (by simp) ?_ ?_
  · unfold left
    exact Nat.le_trans (List.length_filter_le _ _) (by simp)
  · have : (fun k => (Array.replicate ops.size false).getD k false) = fun _ => false := by
      funext k
      by_cases h : k < ops.size <;> simp [h]
    rw [this]
    exact I0

end Go.Proofs.YtklfdmnmiadgpaaAbs
