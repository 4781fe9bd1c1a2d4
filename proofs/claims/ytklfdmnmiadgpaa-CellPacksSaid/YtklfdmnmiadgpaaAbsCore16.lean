/- Temporaries; the operations of a region in the text's order. -/
import Derived.Test.YtklfdmnmiadgpaaAbsCore15
namespace Go.Proofs.YtklfdmnmiadgpaaAbs
set_option linter.unusedVariables false
set_option linter.unusedSimpArgs false
open Go
variable {R : Type}

theorem ofVal1_rel (m : Mem) (h : Heap) (v : Value) : Rel m h (ofVal1 v) v := by
  unfold ofVal1
  split
  · exact rfl
  · rename_i k n
    cases hu : u8ok k n with
    | true => simp only [cond_true]; exact ⟨rfl, hu⟩
    | false => simp only [cond_false]; trivial
  · simp only [Rel]; exact ⟨_, rfl, rfl⟩
  · exact rfl
  · exact rfl
  · exact ⟨[], rfl, rfl⟩
  · trivial
theorem ofVal1L (m : Mem) (h : Heap) : (cs : List Value) → (∀ c ∈ cs, c.oneCell' = true) → RelL m h true (cs.map ofVal1) cs
  | [], _ => rfl
  | c :: cs, hu => ⟨c, cs, rfl, ofVal1_rel m h c, fun _ => hu c (by simp), ofVal1L m h cs fun x hx => hu x (by simp [hx])⟩
theorem ofVal_rel (m : Mem) (h : Heap) (v : Value) : Rel m h (ofVal v) v := by
  unfold ofVal
  split
  · rename_i cs
    cases hu : cs.all Value.oneCell' with
    | true =>
      simp only [cond_true]
      refine ⟨cs, rfl, ?_⟩
      exact ofVal1L m h cs (List.all_eq_true.1 hu)
    | false => simp only [cond_false]; trivial
  · exact ofVal1_rel m h v

/-- What the temporaries hold. -/
def RelT (m : Mem) (h : Heap) (T : List AV) (a : Act) : Prop := T.length = a.tmps.size ∧ ∀ t, Rel m h (tget T t) (a.tmps.getD t undef)

theorem RelT.ev {m : Mem} {h : Heap} {T : List AV} {a : Act} (q : RelT m h T a) (x : Operand) : Rel m h (ev T x) (a.eval x) := by
  cases x with
  | tmp t => exact q.2 t
  | const v => exact ofVal_rel m h v
  | global _ => trivial
  | func f => exact ⟨[], rfl, rfl⟩
theorem tget_tset (T : List AV) (i j : Nat) (v : AV) : tget (tset T i v) j = if i = j ∧ i < T.length then v else tget T j := by
  induction T generalizing i j with
  | nil => simp [tset, tget]
  | cons a T ih =>
    cases i with
    | zero => cases j <;> simp [tset, tget]
    | succ i => cases j with
      | zero => simp [tset, tget]
      | succ j => simp [tset, tget, ih]
theorem tset_length (T : List AV) (i : Nat) (v : AV) : (tset T i v).length = T.length := by rw [tset_eq]; simp
theorem tset_self {T : List AV} {i : Nat} {v : AV} (e : tget T i = v) : tset T i v = T := by
  induction T generalizing i with
  | nil => rfl
  | cons a T ih => cases i with
    | zero => simp only [tget] at e; subst e; rfl
    | succ i => simp only [tget] at e; simp only [tset, ih e]
theorem RelT.put {m : Mem} {h : Heap} {T : List AV} {a : Act} (q : RelT m h T a) (d : Option Tmp) {v : AV} {cv : Value} (k : Rel m h v cv) : RelT m h (tput T d v) (a.put d cv) := by
  cases d with
  | none => exact q
  | some d =>
    refine ⟨by simp [tput, tset_length, Act.put, q.1], fun t => ?_⟩
    simp only [tput, Act.put, tget_tset]
    by_cases e : d = t ∧ d < T.length
    · rw [if_pos e]
      obtain ⟨rfl, h2⟩ := e
      have : d < a.tmps.size := by rw [← q.1]; exact h2
      simp [this]
      exact k
    · rw [if_neg e]
      have := q.2 t
      have e2 : (a.tmps.setIfInBounds d cv).getD t undef = a.tmps.getD t undef := by
        by_cases hd : d = t
        · subst hd
          have : ¬ d < a.tmps.size := by rw [← q.1]; exact fun k => e ⟨rfl, k⟩
          simp [Array.getElem?_eq_none (Nat.le_of_not_lt this)]
          intro hk
          exact absurd hk this
        · simp [Array.getElem?_setIfInBounds_ne hd]
      rw [e2]; exact this
theorem RelT.mono {m m' : Mem} {h h' : Heap} (S : Sim m h) (E : Ext m h m' h') {T : List AV} {a : Act} (q : RelT m h T a) : RelT m' h' T a :=
  ⟨q.1, fun t => Rel.mono S E _ _ (q.2 t)⟩

theorem put_defers (a : Act) (d : Option Tmp) (v : Value) : (a.put d v).defers = a.defers := by cases d <;> rfl

/-- What holds when the abstract run goes on from s to s'. -/
structure Goes (m : Mem) (h : Heap) (a : Act) (m' : Mem) (s : St) (a' : Act) : Prop where
  ext : Ext m h m' s.h
  sim : Sim m' s.h
  rel : RelT m' s.h s.T a'
  defers : a'.defers = a.defers

theorem Goes.head {m m1 m2 : Mem} {h h1 : Heap} {a a1 a2 : Act} {s : St} (E : Ext m h m1 h1) (hd : a1.defers = a.defers) (g : Goes m1 h1 a1 m2 s a2) : Goes m h a m2 s a2 :=
  ⟨E.trans g.ext, g.sim, g.rel, g.defers.trans hd⟩

theorem yielded_rel {m : Mem} {h : Heap} {T : List AV} {a : Act} {ops : Array Oper} {j : Nat} {oj : Oper} {g : Tmp} (q : RelT m h T a) (h1 : ops.toList[j]? = some oj) (h2 : oj.dst = some g) :
    yielded ops a.tmps j = match a.tmps[g]? with
      | some (.bool b) => some b
      | _ => none := by
  unfold yielded
  have : ops[j]? = some oj := by simpa using h1
  simp [this, h2]
  cases a.tmps[g]? with
  | none => rfl
  | some v => cases v <;> rfl

theorem runOps_ok {P : Program} {E : Env} (hT : TabOk P E.tab) (hP : PureOk P E) {call : CallF R} (hc : CallOk P call) {f : FuncId} {ops : Array Oper} {K : St → Option R} {res : R} :
    (rest : List Oper) → {s : St} → runOps E f call ops.toList rest s K = some res → ∃ s', K s' = some res ∧ ∀ (m : Mem) (a : Act) (Q : Exit → Act → World → Prop), Sim m s.h → RelT m s.h s.T a → (∀ m' a', Goes m s.h a m' s' a' → Q .normal a' m'.w) → wpList P ops Q rest a m.w
  | [], s, e => by
    simp only [runOps, goOn_eq] at e
    exact ⟨s, e, fun m a Q S q hq => hq m a ⟨Ext.refl m s.h, S, q, rfl⟩⟩
  | o :: rest, s, e => by
    have yes : ∀ {T : List AV} (hTT : T = s.T), step E f call T s.h o (fun v h => runOps E f call ops.toList rest ⟨tput T o.dst v, h⟩ K) = some res → ∃ s', K s' = some res ∧ ∀ (m : Mem) (a : Act) (Q : Exit → Act → World → Prop), Sim m s.h → RelT m s.h s.T a → (∀ m' a', Goes m s.h a m' s' a' → Q .normal a' m'.w) → o.wp P a m.w (wpList P ops Q rest) Q := by
      intro T hTT e
      subst hTT
      obtain ⟨v, h', e, _, k⟩ := step_ok hT hP hc e
      obtain ⟨s', e, k2⟩ := runOps_ok hT hP hc rest e
      refine ⟨s', e, fun m a Q S q hq => k m a S (fun x _ => q.ev x) _ Q fun m' cv E1 S1 r1 => ?_⟩
      exact k2 m' (a.put o.dst cv) Q S1 ((RelT.mono S E1 q).put o.dst r1) fun m'' a'' g => hq m'' a'' (g.head E1 (put_defers _ _ _))
    have no : ∀ {T : List AV} (hTT : T = s.T), runOps E f call ops.toList rest ⟨tput T o.dst (.tup []), s.h⟩ K = some res → ∃ s', K s' = some res ∧ ∀ (m : Mem) (a : Act) (Q : Exit → Act → World → Prop), Sim m s.h → RelT m s.h s.T a → (∀ m' a', Goes m s.h a m' s' a' → Q .normal a' m'.w) → wpList P ops Q rest (a.put o.dst undef) m.w := by
      intro T hTT e
      subst hTT
      obtain ⟨s', e, k2⟩ := runOps_ok hT hP hc rest e
      exact ⟨s', e, fun m a Q S q hq => k2 m (a.put o.dst undef) Q S (q.put o.dst ⟨[], rfl, rfl⟩) fun m'' a'' g => hq m'' a'' (g.head (Ext.refl _ _) (put_defers _ _ _))⟩
    simp only [runOps, goOn_eq] at e
    split at e
    · rename_i hg
      obtain ⟨s', e, k⟩ := yes rfl e
      refine ⟨s', e, fun m a Q S q hq => ?_⟩
      unfold wpList
      rw [if_pos (by simp [Region.wanted, hg])]
      exact .inl (k m a Q S q hq)
    · rename_i j want hg
      split at e
      · rename_i oj hoj
        split at e
        · rename_i g hdst
          -- the guard's own value
          have gv : ∀ {m : Mem} {a : Act} {b : Bool}, RelT m s.h s.T a → tget s.T g = .bool b → Region.wanted o (yielded ops a.tmps) = (b == want) := by
            intro m a b q hb
            have hlt : g < s.T.length := by
              rcases Nat.lt_or_ge g s.T.length with k | k
              · exact k
              · rw [tget_ge k] at hb; cases hb
            have h1 := q.2 g
            rw [hb] at h1
            have h2 : a.tmps[g]? = some (.bool b) := by
              have hlt2 : g < a.tmps.size := by rw [← q.1]; exact hlt
              have : a.tmps.getD g undef = .bool b := h1
              simp [hlt2] at this
              simp [hlt2, this]
            unfold Region.wanted
            rw [hg]
            simp only
            rw [yielded_rel q hoj hdst, h2]
            cases b <;> cases want <;> rfl
          have gu : ∀ {m : Mem} {a : Act} {vs : List AV}, RelT m s.h s.T a → tget s.T g = .tup vs → Region.wanted o (yielded ops a.tmps) = false := by
            intro m a vs q hb
            have h1 := q.2 g
            rw [hb] at h1
            simp only [Rel] at h1
            obtain ⟨us, h1, _⟩ := h1
            unfold Region.wanted
            rw [hg]
            simp only
            rw [yielded_rel q hoj hdst]
            cases hx : a.tmps[g]? with
            | none => rfl
            | some v =>
              have : a.tmps.getD g undef = v := by
                obtain ⟨hlt, hv⟩ := Array.getElem?_eq_some_iff.1 hx
                simp [hlt, hv]
              rw [this] at h1
              subst h1
              rfl
          have wrapY : ∀ {b : Bool} (hb : tget s.T g = .bool b) (hw : (b == want) = true), (∃ s', K s' = some res ∧ ∀ (m : Mem) (a : Act) (Q : Exit → Act → World → Prop), Sim m s.h → RelT m s.h s.T a → (∀ m' a', Goes m s.h a m' s' a' → Q .normal a' m'.w) → o.wp P a m.w (wpList P ops Q rest) Q) →
              ∃ s', K s' = some res ∧ ∀ (m : Mem) (a : Act) (Q : Exit → Act → World → Prop), Sim m s.h → RelT m s.h s.T a → (∀ m' a', Goes m s.h a m' s' a' → Q .normal a' m'.w) → wpList P ops Q (o :: rest) a m.w := by
            intro b hb hw ⟨s', e, k⟩
            refine ⟨s', e, fun m a Q S q hq => ?_⟩
            unfold wpList
            rw [if_pos (by rw [gv q hb]; exact hw)]
            exact .inl (k m a Q S q hq)
          have wrapN : (∀ {m : Mem} {a : Act}, RelT m s.h s.T a → Region.wanted o (yielded ops a.tmps) = false) → (∃ s', K s' = some res ∧ ∀ (m : Mem) (a : Act) (Q : Exit → Act → World → Prop), Sim m s.h → RelT m s.h s.T a → (∀ m' a', Goes m s.h a m' s' a' → Q .normal a' m'.w) → wpList P ops Q rest (a.put o.dst undef) m.w) →
              ∃ s', K s' = some res ∧ ∀ (m : Mem) (a : Act) (Q : Exit → Act → World → Prop), Sim m s.h → RelT m s.h s.T a → (∀ m' a', Goes m s.h a m' s' a' → Q .normal a' m'.w) → wpList P ops Q (o :: rest) a m.w := by
            intro hw ⟨s', e, k⟩
            refine ⟨s', e, fun m a Q S q hq => ?_⟩
            unfold wpList
            rw [if_neg (by rw [hw q]; simp)]
            exact k m a Q S q hq
          split at e
          · rename_i b hb
            cases b with
            | true =>
              simp only [cond_true] at e
              cases want with
              | true => simp only [cond_true] at e; exact wrapY hb rfl (yes (tset_self hb) e)
              | false => simp only [cond_false] at e; exact wrapN (fun q => gv q hb) (no (tset_self hb) e)
            | false =>
              simp only [cond_false] at e
              cases want with
              | true => simp only [cond_true] at e; exact wrapN (fun q => gv q hb) (no (tset_self hb) e)
              | false => simp only [cond_false] at e; exact wrapY hb rfl (yes (tset_self hb) e)
          · rename_i vs hb
            exact wrapN (fun q => gu q hb) (no rfl e)
          · cases e
        · cases e
      · cases e

end Go.Proofs.YtklfdmnmiadgpaaAbs
