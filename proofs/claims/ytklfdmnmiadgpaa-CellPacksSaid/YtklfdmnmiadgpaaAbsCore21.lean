/- A drawn region: any order of it. -/
import Derived.Test.YtklfdmnmiadgpaaAbsCore19
import Derived.Orders
namespace Go.Proofs.YtklfdmnmiadgpaaAbs
set_option linter.unusedVariables false
set_option linter.unusedSimpArgs false
open Go
variable {R : Type}

def foldT (S : Nat → Bool) : Nat → List Eff → List AV → List AV
  | _, [], T => T
  | n, e :: es, T => foldT S (n + 1) es (bif S n then tput T e.o.dst e.v else T)
def foldH (S : Nat → Bool) : Nat → List Eff → (Nat → Option Blk) → (Nat → Option Blk)
  | _, [], g => g
  | n, e :: es, g => foldH S (n + 1) es (bif S n then effH e g else g)

theorem tput_length (T : List AV) (d : Option Nat) (v : AV) : (tput T d v).length = T.length := by cases d <;> simp [tput, tset_length]
theorem tget_tput (T : List AV) (d : Option Nat) (v : AV) (x : Nat) : tget (tput T d v) x = if d = some x ∧ x < T.length then v else tget T x := by
  cases d with
  | none => simp [tput]
  | some d =>
    simp only [tput, tget_tset]
    by_cases h : d = x
    · subst h; simp
    · simp [h]
theorem foldT_length (S : Nat → Bool) : (es : List Eff) → (n : Nat) → (T : List AV) → (foldT S n es T).length = T.length
  | [], _, _ => rfl
  | e :: es, n, T => by simp only [foldT]; rw [foldT_length S es]; cases S n <;> simp [tput_length]
theorem foldT_agree {S S' : Nat → Bool} {x : Nat} : (es : List Eff) → (n : Nat) → {T T' : List AV} → (∀ k e, es[k]? = some e → e.o.dst = some x → S (n + k) = S' (n + k)) → T.length = T'.length → tget T x = tget T' x → tget (foldT S n es T) x = tget (foldT S' n es T') x
  | [], _, _, _, _, _, h => h
  | e :: es, n, T, T', hk, hl, h => by
    simp only [foldT]
    refine foldT_agree es (n + 1) (fun k e' he hd => by have := hk (k + 1) e' (by simpa using he) hd; rwa [show n + (k + 1) = n + 1 + k by omega] at this) ?_ ?_
    · cases S n <;> cases S' n <;> simp [tput_length, hl]
    · by_cases hd : e.o.dst = some x
      · have := hk 0 e rfl hd
        simp only [Nat.add_zero] at this
        rw [this]
        cases S' n with
        | true => simp only [cond_true, tget_tput, hl, h]
        | false => exact h
      · have h1 : ∀ T : List AV, tget (tput T e.o.dst e.v) x = tget T x := fun T => by rw [tget_tput, if_neg (fun k => hd k.1)]
        cases S n <;> cases S' n <;> simp [h1, h]
theorem foldH_agree {S S' : Nat → Bool} {id : Nat} : (es : List Eff) → (n : Nat) → {g g' : Nat → Option Blk} → (∀ k e, es[k]? = some e → e.hits id → S (n + k) = S' (n + k)) → g id = g' id → foldH S n es g id = foldH S' n es g' id
  | [], _, _, _, _, h => h
  | e :: es, n, g, g', hk, h => by
    simp only [foldH]
    refine foldH_agree es (n + 1) (fun k e' he hd => by have := hk (k + 1) e' (by simpa using he) hd; rwa [show n + (k + 1) = n + 1 + k by omega] at this) ?_
    by_cases hd : e.hits id
    · have := hk 0 e rfl hd
      simp only [Nat.add_zero] at this
      rw [this]
      cases S' n with
      | true => simp only [cond_true, effH, if_pos hd]
      | false => exact h
    · have h1 : ∀ g : Nat → Option Blk, effH e g id = g id := fun g => if_neg hd
      cases S n <;> cases S' n <;> simp [h1, h]
theorem foldT_none {S : Nat → Bool} : (es : List Eff) → (n : Nat) → (T : List AV) → (∀ k, n ≤ k → S k = false) → foldT S n es T = T
  | [], _, _, _ => rfl
  | e :: es, n, T, h => by simp only [foldT, h n (Nat.le_refl n), cond_false]; exact foldT_none es (n + 1) T fun k hk => h k (by omega)
theorem foldH_none {S : Nat → Bool} {id : Nat} : (es : List Eff) → (n : Nat) → {g : Nat → Option Blk} → (∀ k e, es[k]? = some e → S (n + k) = true → ¬ e.hits id) → foldH S n es g id = g id
  | [], _, _, _ => rfl
  | e :: es, n, g, h => by
    simp only [foldH]
    rw [foldH_none es (n + 1) fun k e' he hs => h (k + 1) e' (by simpa using he) (by rw [show n + (k + 1) = n + 1 + k by omega]; exact hs)]
    cases hs : S n with
    | true => exact if_neg (h 0 e rfl (by simpa using hs))
    | false => rfl
theorem foldT_congr {S S' : Nat → Bool} : (es : List Eff) → (n : Nat) → (T : List AV) → (∀ k, k < es.length → S (n + k) = S' (n + k)) → foldT S n es T = foldT S' n es T
  | [], _, _, _ => rfl
  | e :: es, n, T, h => by
    simp only [foldT]
    have := h 0 (by simp)
    simp only [Nat.add_zero] at this
    rw [this]
    exact foldT_congr es (n + 1) _ fun k hk => by have := h (k + 1) (by simpa using hk); rwa [show n + (k + 1) = n + 1 + k by omega] at this
theorem foldH_congr {S S' : Nat → Bool} : (es : List Eff) → (n : Nat) → (g : Nat → Option Blk) → (∀ k, k < es.length → S (n + k) = S' (n + k)) → foldH S n es g = foldH S' n es g
  | [], _, _, _ => rfl
  | e :: es, n, g, h => by
    simp only [foldH]
    have := h 0 (by simp)
    simp only [Nat.add_zero] at this
    rw [this]
    exact foldH_congr es (n + 1) _ fun k hk => by have := h (k + 1) (by simpa using hk); rwa [show n + (k + 1) = n + 1 + k by omega] at this

def ins (S : Nat → Bool) (i : Nat) : Nat → Bool := fun k => S k || k == i
theorem ins_self (S : Nat → Bool) (i : Nat) : ins S i i = true := by simp [ins]
theorem ins_ne {S : Nat → Bool} {i k : Nat} (h : k ≠ i) : ins S i k = S k := by simp [ins, h]

theorem foldT_insert {S : Nat → Bool} {x : Nat} : (es : List Eff) → (n k : Nat) → {e : Eff} → {T : List AV} → es[k]? = some e → S (n + k) = false → (∀ k' e', k < k' → es[k']? = some e' → S (n + k') = true → e'.o.dst = some x → e.o.dst ≠ some x) →
    tget (foldT (ins S (n + k)) n es T) x = tget (tput (foldT S n es T) e.o.dst e.v) x
  | [], _, _, _, _, h, _, _ => by simp at h
  | e0 :: es, n, 0, e, T, he, hs, hd => by
    simp at he; subst he
    simp only [Nat.add_zero] at hs ⊢
    simp only [foldT, ins_self, cond_true, hs, cond_false]
    have h0 : foldT (ins S n) (n + 1) es (tput T e0.o.dst e0.v) = foldT S (n + 1) es (tput T e0.o.dst e0.v) := foldT_congr es (n + 1) _ fun k _ => ins_ne (by omega)
    rw [h0]
    by_cases hx : e0.o.dst = some x
    · rw [tget_tput, foldT_length]
      -- nobody later writes x
      have key : ∀ T', tget (foldT S (n + 1) es T') x = tget T' x := fun T' => by
        have := foldT_agree (S := S) (S' := fun _ => false) (x := x) es (n + 1) (T := T') (T' := T') (fun k e' he' hd' => by
          cases hs' : S (n + 1 + k) with
          | false => rfl
          | true => exact absurd hx (hd (k + 1) e' (by omega) (by simpa using he') (by rw [show n + (k + 1) = n + 1 + k by omega]; exact hs') hd')) rfl rfl
        rw [this, foldT_none es _ _ fun _ _ => rfl]
      rw [key, tget_tput, key]
    · rw [tget_tput, if_neg (fun k => hx k.1)]
      exact foldT_agree es (n + 1) (fun _ _ _ _ => rfl) (tput_length _ _ _) (by rw [tget_tput, if_neg (fun k => hx k.1)])
  | e0 :: es, n, k + 1, e, T, he, hs, hd => by
    simp only [foldT]
    rw [ins_ne (show n ≠ n + (k + 1) by omega)]
    have := foldT_insert es (n + 1) k (T := bif S n then tput T e0.o.dst e0.v else T) (S := S) (x := x) (by simpa using he) (by rw [show n + 1 + k = n + (k + 1) by omega]; exact hs)
      (fun k' e' hk he' hs' hd' => hd (k' + 1) e' (by omega) (by simpa using he') (by rw [show n + (k' + 1) = n + 1 + k' by omega]; exact hs') hd')
    rw [show n + 1 + k = n + (k + 1) by omega] at this
    exact this
theorem foldH_insert {S : Nat → Bool} {id : Nat} : (es : List Eff) → (n k : Nat) → {e : Eff} → {g : Nat → Option Blk} → es[k]? = some e → S (n + k) = false → (∀ k' e', k < k' → es[k']? = some e' → S (n + k') = true → e'.hits id → ¬ e.hits id) →
    foldH (ins S (n + k)) n es g id = effH e (foldH S n es g) id
  | [], _, _, _, _, h, _, _ => by simp at h
  | e0 :: es, n, 0, e, g, he, hs, hd => by
    simp at he; subst he
    simp only [Nat.add_zero] at hs ⊢
    simp only [foldH, ins_self, cond_true, hs, cond_false]
    have h0 : foldH (ins S n) (n + 1) es (effH e0 g) = foldH S (n + 1) es (effH e0 g) := foldH_congr es (n + 1) _ fun k _ => ins_ne (by omega)
    rw [h0]
    by_cases hx : e0.hits id
    · have key : ∀ g', foldH S (n + 1) es g' id = g' id := fun g' => foldH_none es (n + 1) fun k e' he' hs' hd' => hd (k + 1) e' (by omega) (by simpa using he') (by rw [show n + (k + 1) = n + 1 + k by omega]; exact hs') hd' hx
      rw [key]
      simp only [effH, if_pos hx]
    · have : effH e0 (foldH S (n + 1) es g) id = foldH S (n + 1) es g id := if_neg hx
      rw [this]
      exact foldH_agree es (n + 1) (fun _ _ _ _ => rfl) (if_neg hx)
  | e0 :: es, n, k + 1, e, g, he, hs, hd => by
    simp only [foldH]
    rw [ins_ne (show n ≠ n + (k + 1) by omega)]
    have := foldH_insert es (n + 1) k (g := bif S n then effH e0 g else g) (S := S) (id := id) (by simpa using he) (by rw [show n + 1 + k = n + (k + 1) by omega]; exact hs)
      (fun k' e' hk he' hs' hd' => hd (k' + 1) e' (by omega) (by simpa using he') (by rw [show n + (k' + 1) = n + 1 + k' by omega]; exact hs') hd')
    rw [show n + 1 + k = n + (k + 1) by omega] at this
    exact this

/-! ### what the chain says of each operation -/
section
variable {P : Program} {all : List Oper}
theorem chain_at : (es : List Eff) → (n : Nat) → {T T' : List AV} → {h h' : Heap} → Chain P all T h es T' h' → ∀ j e, es[j]? = some e →
    e.T = foldT (fun k => decide (k < n + j)) n es T ∧ (∀ id, hget e.h id = foldH (fun k => decide (k < n + j)) n es (hget h) id) ∧ EffOk P all e ∧ h.length ≤ e.r.lo ∧ e.r.hi ≤ h'.length
  | [], _, _, _, _, _, _, j, e, he => by simp at he
  | e0 :: es, n, T, T', h, h', hc, j, e, he => by
    obtain ⟨h1, h2, ok, hm, h3, h4, hc⟩ := hc
    have mono : ∀ (es : List Eff) {T T' : List AV} {h h' : Heap}, Chain P all T h es T' h' → h.length ≤ h'.length := fun es => by
      induction es with
      | nil => intro T T' h h' hc; rw [hc.2]; exact Nat.le_refl _
      | cons e es ih =>
        intro T T' h h' hc
        obtain ⟨_, q2, q3, q4, q5, _, q6⟩ := hc
        have := ih q6
        have a := q3.lo; have b := q3.le
        rw [q2] at a
        omega
    cases j with
    | zero =>
      simp at he; subst he
      refine ⟨?_, fun id => ?_, ok, by rw [ok.lo, h2]; exact Nat.le_refl _, by rw [← h3]; exact mono es hc⟩
      · rw [foldT_none _ _ _ fun k hk => by simp; omega]; exact h1
      · rw [foldH_none _ _ fun k e' _ hs => absurd hs (by simp)]; rw [h2]
    | succ j =>
      obtain ⟨a1, a2, a3, a4, a5⟩ := chain_at es (n + 1) hc j e (by simpa using he)
      have hn : decide (n < n + (j + 1)) = true := by simp
      refine ⟨?_, fun id => ?_, a3, ?_, a5⟩
      · simp only [foldT, hn, cond_true]
        rw [a1]
        exact foldT_congr es (n + 1) _ fun k _ => by rw [show n + 1 + j = n + (j + 1) by omega]
      · simp only [foldH, hn, cond_true]
        rw [a2]
        rw [show foldH (fun k => decide (k < n + 1 + j)) (n + 1) es (hget hm) id = foldH (fun k => decide (k < n + (j + 1))) (n + 1) es (hget hm) id from congrFun (foldH_congr es (n + 1) _ fun k _ => by rw [show n + 1 + j = n + (j + 1) by omega]) id]
        exact foldH_agree es (n + 1) (fun _ _ _ _ => rfl) (h4 id)
      · have a := ok.lo; have b := ok.le
        rw [h2] at a
        omega
theorem chain_end : (es : List Eff) → (n : Nat) → {T T' : List AV} → {h h' : Heap} → Chain P all T h es T' h' → T' = foldT (fun _ => true) n es T ∧ (∀ id, hget h' id = foldH (fun _ => true) n es (hget h) id) ∧ h.length ≤ h'.length
  | [], _, _, _, _, _, hc => by obtain ⟨rfl, rfl⟩ := hc; exact ⟨rfl, fun _ => rfl, Nat.le_refl _⟩
  | e0 :: es, n, T, T', h, h', hc => by
    obtain ⟨h1, h2, ok, hm, h3, h4, hc⟩ := hc
    obtain ⟨a1, a2, a3⟩ := chain_end es (n + 1) hc
    refine ⟨by simpa [foldT] using a1, fun id => ?_, ?_⟩
    · simp only [foldH, cond_true]
      rw [a2]
      exact foldH_agree es (n + 1) (fun _ _ _ _ => rfl) (h4 id)
    · have a := ok.lo; have b := ok.le
      rw [h2] at a
      omega
theorem chain_apart : (es : List Eff) → {T T' : List AV} → {h h' : Heap} → Chain P all T h es T' h' → ∀ (i j : Nat) (a b : Eff), i < j → es[i]? = some a → es[j]? = some b → a.r.hi ≤ b.r.lo
  | [], _, _, _, _, _, i, j, a, b, _, ha, _ => by simp at ha
  | e0 :: es, T, T', h, h', hc, i, j, a, b, hij, ha, hb => by
    obtain ⟨h1, h2, ok, hm, h3, h4, hc⟩ := hc
    cases j with
    | zero => omega
    | succ j =>
      have hb' : es[j]? = some b := by simpa using hb
      cases i with
      | zero =>
        simp at ha; subst ha
        have := (chain_at es 0 hc j b hb').2.2.2.1
        omega
      | succ i => exact chain_apart es hc i j a b (by omega) (by simpa using ha) hb'
theorem chain_born : (es : List Eff) → {T T' : List AV} → {h h' : Heap} → Chain P all T h es T' h' → ∀ (j : Nat) (b : Eff) (id : Nat), es[j]? = some b → id < b.r.lo → id < h.length ∨ ∃ (k : Nat) (a : Eff), k < j ∧ es[k]? = some a ∧ a.r.lo ≤ id ∧ id < a.r.hi
  | [], _, _, _, _, _, j, b, id, hb, _ => by simp at hb
  | e0 :: es, T, T', h, h', hc, j, b, id, hb, hid => by
    obtain ⟨h1, h2, ok, hm, h3, h4, hc⟩ := hc
    have lo := ok.lo
    rw [h2] at lo
    cases j with
    | zero =>
      simp at hb; subst hb
      exact .inl (by omega)
    | succ j =>
      rcases chain_born es hc j b id (by simpa using hb) hid with k | ⟨k, a, k1, k2, k3⟩
      · by_cases hl : id < h.length
        · exact .inl hl
        · exact .inr ⟨0, e0, by omega, rfl, by omega, by omega⟩
      · exact .inr ⟨k + 1, a, by omega, by simpa using k2, k3⟩
end

/-! ### the rows of what unordered operations do -/
def Ordered (an : List Nat) (a b : Rec) : Prop := Nat.testBit (an.getD b.j 0) a.j = true ∨ apart a b = true
theorem apartAll_mem {an : Nat} {b : Rec} : {l : List Rec} → apartAll an b l = true → ∀ a ∈ l, Nat.testBit an a.j = true ∨ apart a b = true
  | [], _, a, ha => by simp at ha
  | c :: l, h, a, ha => by
    simp only [apartAll, Bool.and_eq_true, Bool.or_eq_true] at h
    rcases List.mem_cons.1 ha with rfl | ha
    · exact h.1
    · exact apartAll_mem h.2 a ha
theorem drawOk_pairwise {an : List Nat} : {l : List Rec} → drawOk an l = true → l.Pairwise fun b a => Ordered an a b
  | [], _ => List.Pairwise.nil
  | b :: l, h => by
    simp only [drawOk, Bool.and_eq_true] at h
    exact List.Pairwise.cons (fun a ha => apartAll_mem h.1 a ha) (drawOk_pairwise h.2)
theorem drawOk_at {an : List Nat} {es : List Eff} (h : drawOk an ((es.map (·.r)).reverse ++ []) = true) {i j : Nat} {a b : Eff} (hij : i < j) (ha : es[i]? = some a) (hb : es[j]? = some b) : Ordered an a.r b.r := by
  rw [List.append_nil] at h
  have := List.pairwise_reverse.1 (drawOk_pairwise h)
  rw [List.pairwise_iff_getElem] at this
  obtain ⟨h1, e1⟩ := List.getElem?_eq_some_iff.1 ha
  obtain ⟨h2, e2⟩ := List.getElem?_eq_some_iff.1 hb
  have := this i j (by simpa using h1) (by simpa using h2) hij
  simpa [e1, e2] using this

structure Apart (a b : Rec) : Prop where
  d1 : ∀ x, a.dst = some x → x ∉ b.names
  d2 : ∀ x, b.dst = some x → x ∉ a.names
  d3 : ∀ x, a.dst = some x → b.dst ≠ some x
  w1 : ∀ id, id ∈ a.ws → id ∉ b.ids
  w2 : ∀ id, id ∈ a.ids → id ∉ b.ws
  n : ∀ id ∈ b.ids, ¬ (a.lo ≤ id ∧ id < a.hi)
theorem apart_spec {a b : Rec} (h : apart a b = true) : Apart a b := by
  simp only [apart, Bool.and_eq_true, Bool.not_eq_true', List.all_eq_true, Bool.and_eq_false_iff] at h
  obtain ⟨⟨⟨⟨⟨h1, h2⟩, h3⟩, h4⟩, h5⟩, h6⟩ := h
  refine ⟨fun x hx hm => ?_, fun x hx hm => ?_, fun x hx hy => ?_, fun id hi hj => ?_, fun id hi hj => ?_, fun id hi hj => ?_⟩
  · rw [hx] at h1; simp only [optMem] at h1; rw [mem_iff.2 hm] at h1; cases h1
  · rw [hx] at h2; simp only [optMem] at h2; rw [mem_iff.2 hm] at h2; cases h2
  · rw [hx, hy] at h3; simp [optSame] at h3
  · have : meets a.ws b.ids = true := List.any_eq_true.2 ⟨id, hi, mem_iff.2 hj⟩
    rw [this] at h4; cases h4
  · have : meets a.ids b.ws = true := List.any_eq_true.2 ⟨id, hi, mem_iff.2 hj⟩
    rw [this] at h5; cases h5
  · have := h6 id hi
    rcases this with k | k
    · rw [show Nat.ble a.lo id = true from Nat.ble_eq ▸ hj.1] at k; cases k
    · rw [show Nat.blt id a.hi = true from Nat.blt_eq ▸ hj.2] at k; cases k

/-! ### edges -/
theorem ancOf_bit {acc : List Nat} {x : Nat} : {l : List Edge} → Nat.testBit (ancOf acc l) x = true → ∃ e ∈ l, Region.binds .any e = true ∧ (x = e.on ∨ Nat.testBit (acc.getD e.on 0) x = true)
  | [], h => by simp [ancOf] at h
  | e :: l, h => by
    simp only [ancOf, Nat.testBit_or, Bool.or_eq_true] at h
    rcases h with h | h
    · cases hb : Region.binds .any e with
      | false => simp [hb] at h
      | true =>
        simp only [hb, cond_true, Nat.testBit_or, Bool.or_eq_true] at h
        refine ⟨e, by simp, hb, ?_⟩
        rcases h with h | h
        · left
          rw [Nat.one_shiftLeft, Nat.testBit_two_pow] at h
          exact (of_decide_eq_true h).symm
        · exact .inr h
    · obtain ⟨e', h1, h2⟩ := ancOf_bit h
      exact ⟨e', by simp [h1], h2⟩
theorem ancs_old : (os : List Oper) → (acc : List Nat) → ∀ k, k < acc.length → (ancs os acc).getD k 0 = acc.getD k 0
  | [], _, _, _ => rfl
  | o :: os, acc, k, hk => by
    simp only [ancs]
    rw [ancs_old os _ k (by simp; omega)]
    simp [List.getD, List.getElem?_append_left hk]
theorem ancs_at : (os : List Oper) → (acc : List Nat) → ∀ k o, os[k]? = some o → ∃ acc' : List Nat, acc'.length = acc.length + k ∧ (ancs os acc).getD (acc.length + k) 0 = ancOf acc' o.after.toList ∧ ∀ i, i < acc.length + k → acc'.getD i 0 = (ancs os acc).getD i 0
  | [], _, k, o, h => by simp at h
  | o0 :: os, acc, 0, o, h => by
    simp at h; subst h
    refine ⟨acc, rfl, ?_, fun i hi => ?_⟩
    · simp only [ancs, Nat.add_zero]
      rw [ancs_old os _ acc.length (by simp)]
      simp [List.getD]
    · simp only [ancs]
      rw [ancs_old os _ i (by simp; omega)]
      have : i < acc.length := by omega
      simp [List.getD, List.getElem?_append_left this]
  | o0 :: os, acc, k + 1, o, h => by
    obtain ⟨acc', h1, h2, h3⟩ := ancs_at os (acc ++ [ancOf acc o0.after.toList]) k o (by simpa using h)
    simp only [List.length_append, List.length_singleton] at h1 h2 h3
    refine ⟨acc', by omega, ?_, fun i hi => ?_⟩
    · simp only [ancs]; rw [show acc.length + (k + 1) = acc.length + 1 + k by omega]; exact h2
    · simp only [ancs]; exact h3 i (by omega)
theorem backB_at : {os : List Oper} → {n : Nat} → backB os n = true → ∀ k o, os[k]? = some o → ∀ e ∈ o.after, Region.binds .any e = true → e.on < n + k
  | [], _, _, k, o, h, _, _, _ => by simp at h
  | o0 :: os, n, hb, k, o, h, e, he, hbd => by
    simp only [backB, Bool.and_eq_true, List.all_eq_true] at hb
    cases k with
    | zero =>
      simp at h; subst h
      have := hb.1 e (by simpa using he)
      simp [hbd] at this
      exact this
    | succ k =>
      have := backB_at hb.2 k o (by simpa using h) e he hbd
      omega

theorem anc_bit {ops : List Oper} (hb : backB ops 0 = true) {k : Nat} {o : Oper} (h : ops[k]? = some o) {x : Nat} (hx : Nat.testBit ((ancs ops []).getD k 0) x = true) :
    ∃ e ∈ o.after, Region.binds .any e = true ∧ (x = e.on ∨ Nat.testBit ((ancs ops []).getD e.on 0) x = true) := by
  obtain ⟨acc', h1, h2, h3⟩ := ancs_at ops [] k o h
  simp only [List.length_nil, Nat.zero_add] at h1 h2 h3
  rw [h2] at hx
  obtain ⟨e, he, hbd, hx⟩ := ancOf_bit hx
  have he' : e ∈ o.after := by simpa using he
  refine ⟨e, he', hbd, ?_⟩
  rcases hx with hx | hx
  · exact .inl hx
  · have := backB_at hb k o h e he' hbd
    rw [h3 e.on (by omega)] at hx
    exact .inr hx

end Go.Proofs.YtklfdmnmiadgpaaAbs
