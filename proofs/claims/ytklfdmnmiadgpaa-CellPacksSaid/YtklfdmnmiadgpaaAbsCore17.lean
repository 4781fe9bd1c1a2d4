/- Code and calls: the abstract run holds of the model. -/
import Derived.Test.YtklfdmnmiadgpaaAbsCore24
namespace Go.Proofs.YtklfdmnmiadgpaaAbs
set_option linter.unusedVariables false
set_option linter.unusedSimpArgs false
open Go
variable {R : Type}

def Ex.out : Ex → Exit
  | .normal => .normal
  | .exit id => .exit id
  | .ret => .ret

theorem Goes.trans {m m1 m2 : Mem} {h : Heap} {a a1 a2 : Act} {s1 s2 : St} (g : Goes m h a m1 s1 a1) (k : Goes m1 s1.h a1 m2 s2 a2) : Goes m h a m2 s2 a2 :=
  ⟨g.ext.trans k.ext, k.sim, k.rel, k.defers.trans g.defers⟩
theorem Goes.here {m : Mem} {s : St} {a : Act} (S : Sim m s.h) (q : RelT m s.h s.T a) : Goes m s.h a m s a := ⟨Ext.refl _ _, S, q, rfl⟩

def Sound (P : Program) (c : Code) (s : St) (K : Ex → St → Option R) (res : R) : Prop :=
  ∃ e' s', K e' s' = some res ∧ ∀ (m : Mem) (a : Act) (Q : Exit → Act → World → Prop), Sim m s.h → RelT m s.h s.T a → (∀ m' a', Goes m s.h a m' s' a' → Q e'.out a' m'.w) → c.wp P Q a m.w

def loops : Code → List Code
  | .seq a b => loops a ++ loops b
  | .cond _ a b => loops a ++ loops b
  | .block _ a => loops a
  | .loop a => a :: loops a
  | .scope a => loops a
  | _ => []

def LoopSound (P : Program) (E : Env) (R : Type) (f : FuncId) (a : Code) : Prop :=
  ∀ n H s (K : Ex → St → Option R) res, firstRegion a = some n → E.loop R f n = some H → H s K = some res → Sound P (.loop a) s K res

/-- A drawn region: any order of it. -/
def DrawSound (P : Program) (E : Env) (f : FuncId) (call : CallF R) : Prop :=
  E.drawn = true → ∀ (id : Nat) (ops : Array Oper) (s : St) (K : Ex → St → Option R) (res : R), backB ops.toList 0 = true → runDrawn E f call ops.toList (ancs ops.toList []) 0 ops.toList s [] (K .normal) = some res → Sound P (.region id ops true) s K res

theorem refine_self {T : List AV} {c : Operand} {b : Bool} (e : Go.Proofs.YtklfdmnmiadgpaaAbs.ev T c = .bool b) : refine T c b = T := by
  cases c with
  | tmp t => exact tset_self e
  | _ => rfl

theorem exec_ok {P : Program} {E : Env} (hT : TabOk P E.tab) (hP : PureOk P E) {call : CallF R} (hc : CallOk P call) {f : FuncId} (hd : DrawSound P E f call) :
    (c : Code) → (∀ a ∈ loops c, LoopSound P E R f a) → {s : St} → {K : Ex → St → Option R} → {res : R} → exec E f call c s K = some res → Sound P c s K res
  | .skip, hl, s, K, res, e => ⟨.normal, s, e, fun m a Q S q hq => wp_skip (hq m a (.here S q))⟩
  | .region id ops false, hl, s, K, res, e => by
    simp only [exec, cond_false] at e
    obtain ⟨s', e, k⟩ := runOps_ok hT hP hc ops.toList e
    exact ⟨.normal, s', e, fun m a Q S q hq => wp_region_list (k m a Q S q hq)⟩
  | .region id ops true, hl, s, K, res, e => by
    simp only [exec, cond_true] at e
    obtain ⟨hdr, e⟩ := cond_some e
    simp only [Bool.and_eq_true] at hdr
    exact hd hdr.1 id ops s K res hdr.2 e
  | .seq x y, hl, s, K, res, e => by
    simp only [exec] at e
    obtain ⟨e1, s1, e, k1⟩ := exec_ok hT hP hc hd x (fun a ha => hl a (by simp [loops, ha])) e
    cases e1 with
    | normal =>
      obtain ⟨e2, s2, e, k2⟩ := exec_ok hT hP hc hd y (fun a ha => hl a (by simp [loops, ha])) e
      refine ⟨e2, s2, e, fun m a Q S q hq => wp_seq (k1 m a _ S q fun m1 a1 g1 => ?_)⟩
      exact k2 m1 a1 Q g1.sim g1.rel fun m2 a2 g2 => hq m2 a2 (g1.trans g2)
    | exit id => exact ⟨_, s1, e, fun m a Q S q hq => wp_seq (k1 m a _ S q fun m1 a1 g1 => hq m1 a1 g1)⟩
    | ret => exact ⟨_, s1, e, fun m a Q S q hq => wp_seq (k1 m a _ S q fun m1 a1 g1 => hq m1 a1 g1)⟩
  | .cond c x y, hl, s, K, res, e => by
    simp only [exec] at e
    split at e
    · rename_i b hb
      cases b with
      | true =>
        simp only [cond_true, refine_self hb] at e
        obtain ⟨e1, s1, e, k1⟩ := exec_ok hT hP hc hd x (fun a ha => hl a (by simp [loops, ha])) e
        refine ⟨e1, s1, e, fun m a Q S q hq => wp_cond_true ?_ (k1 m a Q S q hq)⟩
        have := q.ev c; rw [hb] at this; exact this
      | false =>
        simp only [cond_false, refine_self hb] at e
        obtain ⟨e1, s1, e, k1⟩ := exec_ok hT hP hc hd y (fun a ha => hl a (by simp [loops, ha])) e
        refine ⟨e1, s1, e, fun m a Q S q hq => wp_cond_false ?_ (k1 m a Q S q hq)⟩
        have := q.ev c; rw [hb] at this; exact this
    · cases e
  | .block id x, hl, s, K, res, e => by
    simp only [exec] at e
    obtain ⟨e1, s1, e, k1⟩ := exec_ok hT hP hc hd x (fun a ha => hl a (by simp [loops, ha])) e
    cases e1 with
    | normal => exact ⟨.normal, s1, e, fun m a Q S q hq => wp_block (k1 m a _ S q fun m1 a1 g1 => hq m1 a1 g1)⟩
    | ret => exact ⟨.ret, s1, e, fun m a Q S q hq => wp_block (k1 m a _ S q fun m1 a1 g1 => hq m1 a1 g1)⟩
    | exit j =>
      simp only at e
      cases hj : Nat.beq j id with
      | true =>
        have : j = id := Nat.eq_of_beq_eq_true hj
        have e9 : K .normal s1 = some res := by simpa only [hj, cond_true] using e
        subst this
        exact ⟨.normal, s1, e9, fun m a Q S q hq => wp_block (k1 m a _ S q fun m1 a1 g1 => by simpa [Ex.out, Exit.inBlock] using hq m1 a1 g1)⟩
      | false =>
        simp only [hj, cond_false] at e
        have : ¬ j = id := Nat.ne_of_beq_eq_false hj
        exact ⟨.exit j, s1, e, fun m a Q S q hq => wp_block (k1 m a _ S q fun m1 a1 g1 => by simpa [Ex.out, Exit.inBlock, this] using hq m1 a1 g1)⟩
  | .loop x, hl, s, K, res, e => by
    simp only [exec] at e
    split at e
    · rename_i H hH
      split at hH
      · rename_i n hn
        exact hl x (by simp [loops]) n H s K res hn hH e
      · cases hH
    · have key : ∀ (n : Nat) (s : St), iter (exec E f call x) K n s = some res → ∃ e' s', K e' s' = some res ∧ ∀ (m : Mem) (a : Act) (Q : Exit → Act → World → Prop), Sim m s.h → RelT m s.h s.T a → (∀ m' a', Goes m s.h a m' s' a' → Q e'.out a' m'.w) → Code.rounds P x Q n a m.w := by
        intro n
        induction n with
        | zero => intro s e; cases e
        | succ n ih =>
          intro s e
          simp only [iter] at e
          obtain ⟨e1, s1, e, k1⟩ := exec_ok hT hP hc hd x (fun a ha => hl a (by simp [loops, ha])) e
          cases e1 with
          | normal =>
            obtain ⟨e2, s2, e, k2⟩ := ih s1 e
            exact ⟨e2, s2, e, fun m a Q S q hq => k1 m a _ S q fun m1 a1 g1 => k2 m1 a1 Q g1.sim g1.rel fun m2 a2 g2 => hq m2 a2 (g1.trans g2)⟩
          | exit id => exact ⟨_, s1, e, fun m a Q S q hq => k1 m a _ S q fun m1 a1 g1 => hq m1 a1 g1⟩
          | ret => exact ⟨_, s1, e, fun m a Q S q hq => k1 m a _ S q fun m1 a1 g1 => hq m1 a1 g1⟩
      obtain ⟨e', s', e, k⟩ := key E.fuel s e
      exact ⟨e', s', e, fun m a Q S q hq => wp_loop_rounds E.fuel (k m a Q S q hq)⟩
  | .exit id, hl, s, K, res, e => ⟨.exit id, s, e, fun m a Q S q hq => wp_exit (hq m a (.here S q))⟩
  | .label l, hl, s, K, res, e => ⟨.normal, s, e, fun m a Q S q hq => wp_label (hq m a (.here S q))⟩
  | .ret, hl, s, K, res, e => ⟨.ret, s, e, fun m a Q S q hq => wp_ret (hq m a (.here S q))⟩
  | .rangeFunc .., hl, s, K, res, e => by simp [exec] at e
  | .scope .., hl, s, K, res, e => by simp [exec] at e
  | .goto .., hl, s, K, res, e => by simp [exec] at e
  | .refuse .., hl, s, K, res, e => by simp [exec] at e

theorem outOf_ok {P : Program} {E : Env} (hT : TabOk P E.tab) {m : Mem} {s : St} {a : Act} (S : Sim m s.h) (q : RelT m s.h s.T a) :
    (rs : List ResultVar) → {vs : List AV} → outOf E s rs = some vs → ∃ us, (rs.mapM fun
      | .tmp t => pure (a.tmps.getD t undef)
      | .cell c t => do loadVar t (← asAddr (a.tmps.getD c undef)) : Sem (List Value)).run P m.w = .ok us m.w ∧ RelL m s.h false vs us
  | [], vs, e => by
    simp only [outOf] at e; injection e with e; subst e
    exact ⟨[], by simp, rfl⟩
  | .tmp t :: rs, vs, e => by
    simp only [outOf] at e
    split at e
    · rename_i vs' hv
      injection e with e; subst e
      obtain ⟨us, h1, h2⟩ := outOf_ok hT S q rs hv
      refine ⟨a.tmps.getD t undef :: us, ?_, _, _, rfl, q.2 t, (fun k => by cases k), h2⟩
      rw [List.mapM_cons]
      simp only [Sem.run_bind, Sem.run_pure, Result.andThen_ok]
      rw [h1]
      simp only [Result.andThen_ok]
    · cases e
  | .cell c t :: rs, vs, e => by
    simp only [outOf] at e
    split at e
    · rename_i ti hti
      split at e
      · rename_i v vs' hv hvs
        injection e with e; subst e
        obtain ⟨us, h1, h2⟩ := outOf_ok hT S q rs hvs
        obtain ⟨ad, x, g1, g2, g3⟩ := loadAt_ok (P := P) (hT.ti _ _ hti) S hv (q.2 c)
        refine ⟨x :: us, ?_, _, _, rfl, g3, (fun k => by cases k), h2⟩
        rw [List.mapM_cons]
        have ha : (asAddr (a.tmps.getD c undef)).run P m.w = .ok ad m.w := by rw [g1]; simp [asAddr]
        simp only [Sem.run_bind, ha, Sem.run_pure, Result.andThen_ok, g2]
        rw [h1]
        simp only [Result.andThen_ok]
      · cases e
    · cases e

theorem results_ok {P : Program} {E : Env} (hT : TabOk P E.tab) {m : Mem} {s : St} {a : Act} (S : Sim m s.h) (q : RelT m s.h s.T a) {fn : Func} {vs : List AV} (e : outOf E s fn.results.toList = some vs) :
    ∃ v, (results fn a.tmps).run P m.w = .ok v m.w ∧ Rel m s.h (resultA vs) v := by
  obtain ⟨us, h1, h2⟩ := outOf_ok hT S q _ e
  have hr : (results fn a.tmps).run P m.w = .ok (if h : us.toArray.size = 1 then us.toArray[0] else .tuple us.toArray) m.w := by
    unfold results
    rw [Array.mapM_eq_mapM_toList, map_eq_pure_bind]
    simp only [Sem.run_bind]
    erw [h1]
    simp only [Result.andThen_ok, Sem.run_pure]
  refine ⟨_, hr, ?_⟩
  unfold resultA
  split
  · rename_i v
    simp only [RelL] at h2
    obtain ⟨u, rest, rfl, h3, _, rfl⟩ := h2
    simpa using h3
  · rename_i hne
    have hl := RelL.length h2
    have : ¬ us.length = 1 := by
      intro k
      rw [k] at hl
      obtain ⟨x, hx⟩ := List.length_eq_one_iff.1 hl
      exact hne x hx
    rw [dif_neg (by simpa using this)]
    exact ⟨us, rfl, h2⟩

structure EnvOk (P : Program) (E : Env) : Prop where
  tab : TabOk P E.tab
  pure : PureOk P E
  fn : ∀ f fn, E.fn f = some fn → P.funcs[f]? = some fn ∧ (fn.name == "runtime.NumGoroutine") = false
  call : ∀ (R : Type) f H, E.call R f = some H → ∀ args h K (res : R), H args h K = some res → ∃ v h', K v h' = some res ∧ FnOk P f ∧ CallRuns P f args h v h'
  loop : ∀ (R : Type) f fn c a, E.fn f = some fn → fn.body = some c → a ∈ loops c → LoopSound P E R f a
  draw : ∀ (R : Type) f (call : CallF R), CallOk P call → DrawSound P E f call

theorem RelL.rep {m : Mem} {h : Heap} : (args : List AV) → {us : List Value} → (n : Nat) → RelL m h false args us → RelT m h (args ++ List.replicate (n - args.length) .any) { tmps := us.toArray ++ Array.replicate (n - us.toArray.size) undef, defers := [] } := by
  intro args us n q
  have hl := RelL.length q
  refine ⟨by simp [hl], fun t => ?_⟩
  rcases Nat.lt_or_ge t args.length with k | k
  · have := (RelL.get t q k (by omega)).1
    have e1 : tget (args ++ List.replicate (n - args.length) .any) t = args[t] := by
      rw [tget_eq (by simp; omega)]; simp [k]
    have e2 : (us.toArray ++ Array.replicate (n - us.toArray.size) undef).getD t undef = us[t] := by
      have : t < us.length := by omega
      have e3 : (us.toArray ++ Array.replicate (n - us.toArray.size) undef)[t]? = some us[t] := by
        rw [Array.getElem?_append_left (by simpa using this)]
        simp [this]
      rw [Array.getD_eq_getD_getElem?, e3]; rfl
    rw [e1]; simp only; rw [e2]; exact this
  · have e1 : tget (args ++ List.replicate (n - args.length) .any) t = .any := by
      rcases Nat.lt_or_ge t (args ++ List.replicate (n - args.length) AV.any).length with k2 | k2
      · rw [tget_eq k2, List.getElem_append_right k]; simp
      · exact tget_ge k2
    rw [e1]; trivial

theorem acall_ok {P : Program} {E : Env} (hE : EnvOk P E) : (n : Nat) → CallOk (R := R) P (acall E n)
  | 0 => fun f args h K res e => by cases e
  | n + 1 => fun f args h K res e => by
    simp only [acall, frcAV_eq, frcAVs_eq] at e
    split at e
    · rename_i H hH
      exact hE.call R f H hH args h K res e
    · split at e
      · cases e
      · rename_i fn hfn
        split at e
        · cases e
        · rename_i c hb
          obtain ⟨hf, hname⟩ := hE.fn f fn hfn
          obtain ⟨e1, s1, e, k⟩ := exec_ok hE.tab hE.pure (acall_ok hE n) (hE.draw R f _ (acall_ok hE n)) c (fun a ha => hE.loop R f fn c a hfn hb ha) e
          have fin : ∀ {vs : List AV}, (e1 = .normal ∨ e1 = .ret) → outOf E s1 fn.results.toList = some vs → gcK h.length (resultA vs) s1.h K = some res → ∃ v' h', K v' h' = some res ∧ CallRuns P f args h v' h' := by
            intro vs he1 hvs eg
            obtain ⟨v', h', e', kk⟩ := gcK_some eg
            refine ⟨v', h', e', fun m us S q => ?_⟩
            refine calls_of_wp hf hb ?_
            refine k m _ _ S (RelL.rep args fn.ntmps q) fun m1 a1 g => ?_
            obtain ⟨v, h1, h2⟩ := results_ok hE.tab g.sim g.rel hvs
            obtain ⟨m2, hw, E2, S2, R2⟩ := kk m m1 h v rfl g.ext g.sim h2
            rcases he1 with rfl | rfl
            · exact ⟨g.defers, v, h1, m2, v, hw, rfl, E2, S2, R2⟩
            · exact ⟨g.defers, v, h1, m2, v, hw, rfl, E2, S2, R2⟩
          have hfo : FnOk P f := ⟨fn, hf, by rw [hb]; rfl, hname⟩
          cases e1 with
          | exit id => cases e
          | normal =>
            simp only at e
            split at e
            · rename_i vs hvs
              obtain ⟨v', h', e', cr⟩ := fin (.inl rfl) hvs e
              exact ⟨v', h', e', hfo, cr⟩
            · cases e
          | ret =>
            simp only at e
            split at e
            · rename_i vs hvs
              obtain ⟨v', h', e', cr⟩ := fin (.inr rfl) hvs e
              exact ⟨v', h', e', hfo, cr⟩
            · cases e

end Go.Proofs.YtklfdmnmiadgpaaAbs
