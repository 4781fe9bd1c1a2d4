/- What a call leaves behind: its blocks that nothing leads to are left, the others move down. -/
import Derived.Test.YtklfdmnmiadgpaaAbsCore16
namespace Go.Proofs.YtklfdmnmiadgpaaAbs
set_option linter.unusedVariables false
set_option linter.unusedSimpArgs false
open Go
variable {R : Type}

theorem renIdK_some {g : Nat → Option Nat} {i : Nat} {K : Nat → Option R} {res : R} (e : renIdK g i K = some res) : ∃ j, g i = some j ∧ K j = some res := by
  unfold renIdK at e
  split at e
  · rename_i j hj; rw [forceNat_eq] at e; exact ⟨j, hj, e⟩
  · cases e
mutual
theorem AV.renK_some {g : Nat → Option Nat} {res : R} : (v : AV) → (K : AV → Option R) → v.renK g K = some res → ∃ v', v.ren g = some v' ∧ K v' = some res
  | .any, K, e | .nils, K, e | .zcap, K, e | .nilptr, K, e => ⟨_, rfl, e⟩
  | .bool _, K, e | .int _ _, K, e | .str _, K, e => ⟨_, rfl, e⟩
  | .list _ _ _, K, e => ⟨_, rfl, e⟩
  | .own i, K, e => by obtain ⟨j, hj, e⟩ := renIdK_some e; exact ⟨_, by simp only [AV.ren, hj], e⟩
  | .msl i o n, K, e => by obtain ⟨j, hj, e⟩ := renIdK_some e; exact ⟨_, by simp only [AV.ren, hj], e⟩
  | .ptr i o, K, e => by obtain ⟨j, hj, e⟩ := renIdK_some e; exact ⟨_, by simp only [AV.ren, hj], e⟩
  | .eptr i x o, K, e => by obtain ⟨j, hj, e⟩ := renIdK_some e; exact ⟨_, by simp only [AV.ren, hj], e⟩
  | .iter i, K, e => by obtain ⟨j, hj, e⟩ := renIdK_some e; exact ⟨_, by simp only [AV.ren, hj], e⟩
  | .mapv i, K, e => by obtain ⟨j, hj, e⟩ := renIdK_some e; exact ⟨_, by simp only [AV.ren, hj], e⟩
  | .agg cs, K, e => by obtain ⟨cs', h, e⟩ := renLK_some cs _ e; exact ⟨_, by simp only [AV.ren, h], e⟩
  | .tup cs, K, e => by obtain ⟨cs', h, e⟩ := renLK_some cs _ e; exact ⟨_, by simp only [AV.ren, h], e⟩
  | .rptr cs, K, e => by obtain ⟨cs', h, e⟩ := renLK_some cs _ e; exact ⟨_, by simp only [AV.ren, h], e⟩
  | .fn f cs, K, e => by obtain ⟨cs', h, e⟩ := renLK_some cs _ e; exact ⟨_, by simp only [AV.ren, h], e⟩
theorem renLK_some {g : Nat → Option Nat} {res : R} : (cs : List AV) → (K : List AV → Option R) → renLK g cs K = some res → ∃ cs', renL g cs = some cs' ∧ K cs' = some res
  | [], K, e => ⟨[], rfl, e⟩
  | v :: vs, K, e => by
    obtain ⟨v', h1, e⟩ := AV.renK_some v _ e
    obtain ⟨vs', h2, e⟩ := renLK_some vs _ e
    exact ⟨_, by simp only [renL, h1, h2], e⟩
end

def RenB (g : Nat → Option Nat) : Option Blk → Option Blk → Prop
  | none, none => True
  | some b, some b' => b.ren g = some b'
  | _, _ => False

theorem heapRenK_some {g : Nat → Option Nat} {res : R} : (h : Heap) → (K : Heap → Option R) → heapRenK g h K = some res → ∃ h', K h' = some res ∧ h'.length = h.length ∧ ∀ i, RenB g (hget h i) (hget h' i)
  | [], K, e => ⟨[], e, rfl, fun i => trivial⟩
  | none :: h, K, e => by
    obtain ⟨h', e, hl, k⟩ := heapRenK_some h _ e
    exact ⟨_, e, by simp [hl], fun i => by cases i with
      | zero => exact trivial
      | succ i => exact k i⟩
  | some (.var t cs) :: h, K, e => by
    simp only [heapRenK] at e
    obtain ⟨cs', hc, e⟩ := renLK_some cs _ e
    obtain ⟨h', e, hl, k⟩ := heapRenK_some h _ e
    refine ⟨_, e, by simp [hl], fun i => ?_⟩
    cases i with
      | zero => simp only [hget, RenB, Blk.ren, hc]
      | succ i => exact k i
  | some (.arr t r l) :: h, K, e => by
    obtain ⟨h', e, hl, k⟩ := heapRenK_some h _ e
    exact ⟨_, e, by simp [hl], fun i => by cases i with
      | zero => exact rfl
      | succ i => exact k i⟩
  | some (.siter l p) :: h, K, e => by
    obtain ⟨h', e, hl, k⟩ := heapRenK_some h _ e
    exact ⟨_, e, by simp [hl], fun i => by cases i with
      | zero => exact rfl
      | succ i => exact k i⟩
  | some (.map _ _ _ _) :: h, K, e => by
    obtain ⟨h', e, hl, k⟩ := heapRenK_some h _ e
    exact ⟨_, e, by simp [hl], fun i => by cases i with
      | zero => exact rfl
      | succ i => exact k i⟩

theorem Blk.ren_arr {g : Nat → Option Nat} {b : Blk} {t : TypeId} {r : Row} {l : List r.den} (e : b.ren g = some (.arr t r l)) : b = .arr t r l := by
  cases b with
  | var t cs => simp only [Blk.ren] at e; split at e <;> cases e
  | arr _ _ _ => simp only [Blk.ren] at e; injection e
  | siter _ _ => simp only [Blk.ren] at e; cases e
  | map _ _ _ _ => simp only [Blk.ren] at e; cases e
theorem Blk.ren_siter {g : Nat → Option Nat} {b : Blk} {l : List Int} {p : Nat} (e : b.ren g = some (.siter l p)) : b = .siter l p := by
  cases b with
  | var t cs => simp only [Blk.ren] at e; split at e <;> cases e
  | arr _ _ _ => simp only [Blk.ren] at e; cases e
  | siter _ _ => simp only [Blk.ren] at e; injection e
  | map _ _ _ _ => simp only [Blk.ren] at e; cases e
theorem Blk.ren_map {g : Nat → Option Nat} {b : Blk} {ka : Bool} {rk : Row} {c : CTy} {es : List (rk.den × c.den)} (e : b.ren g = some (.map ka rk c es)) : b = .map ka rk c es := by
  cases b with
  | var t cs => simp only [Blk.ren] at e; split at e <;> cases e
  | arr _ _ _ => simp only [Blk.ren] at e; cases e
  | siter _ _ => simp only [Blk.ren] at e; cases e
  | map _ _ _ _ => simp only [Blk.ren] at e; injection e
theorem Blk.ren_var {g : Nat → Option Nat} {b : Blk} {t : TypeId} {cs : List AV} (e : b.ren g = some (.var t cs)) : ∃ cs0, b = .var t cs0 ∧ renL g cs0 = some cs := by
  cases b with
  | var t0 cs0 =>
    simp only [Blk.ren] at e
    split at e
    · rename_i c hc; injection e with e; injection e with e1 e2; subst e1; subst e2; exact ⟨cs0, rfl, hc⟩
    · cases e
  | arr _ _ _ => simp only [Blk.ren] at e; injection e with e; cases e
  | siter _ _ => simp only [Blk.ren] at e; injection e with e; cases e
  | map _ _ _ _ => simp only [Blk.ren] at e; injection e with e; cases e

structure RenOk (m : Mem) (h : Heap) (m2 : Mem) (h2 : Heap) (g : Nat → Option Nat) : Prop where
  w : m2.w = m.w
  gd : m2.good = m.good
  id : ∀ i j, g i = some j → i < h.length → j < h2.length ∧ m2.loc j = m.loc i ∧ RenB g (hget h i) (hget h2 j)

theorem RenB.some_right {g : Nat → Option Nat} {x : Option Blk} {b : Blk} (k : RenB g x (some b)) : ∃ b0, x = some b0 ∧ b0.ren g = some b := by
  cases x with
  | none => exact k.elim
  | some b0 => exact ⟨b0, rfl, k⟩

mutual
theorem Rel.ren {m m2 : Mem} {h h2 : Heap} {g : Nat → Option Nat} (H : RenOk m h m2 h2 g) : (v v' : AV) → (cv : Value) → v.ren g = some v' → Rel m h v cv → Rel m2 h2 v' cv
  | .any, v', cv, e, k => by simp only [AV.ren] at e; injection e with e; subst e; exact k
  | .nils, v', cv, e, k => by simp only [AV.ren] at e; injection e with e; subst e; exact k
  | .zcap, v', cv, e, k => by simp only [AV.ren] at e; injection e with e; subst e; exact k
  | .nilptr, v', cv, e, k => by simp only [AV.ren] at e; injection e with e; subst e; exact k
  | .bool _, v', cv, e, k => by simp only [AV.ren] at e; injection e with e; subst e; exact k
  | .int _ _, v', cv, e, k => by simp only [AV.ren] at e; injection e with e; subst e; exact k
  | .str _, v', cv, e, k => by
    simp only [AV.ren] at e; injection e with e; subst e
    simp only [Rel] at k ⊢; rw [H.w, H.gd]; exact k
  | .list _ _ _, v', cv, e, k => by
    simp only [AV.ren] at e; injection e with e; subst e
    simp only [Rel] at k ⊢; rw [H.w, H.gd]; exact k
  | .own i, v', cv, e, k => by
    simp only [AV.ren] at e
    split at e
    · rename_i j hj
      injection e with e; subst e
      simp only [Rel] at k ⊢
      obtain ⟨h1, h2, h3⟩ := H.id i j hj k.1.1
      refine ⟨⟨h1, k.1.2⟩, fun et r l q => ?_⟩
      rw [q] at h3
      obtain ⟨b0, e0, eb⟩ := h3.some_right
      rw [Blk.ren_arr eb] at e0
      rw [h2, H.w]; exact k.2 et r l e0
    · cases e
  | .msl i o n, v', cv, e, k => by
    simp only [AV.ren] at e
    split at e
    · rename_i j hj
      injection e with e; subst e
      simp only [Rel] at k ⊢
      obtain ⟨h1, h2, h3⟩ := H.id i j hj k.1.1
      refine ⟨⟨h1, k.1.2⟩, fun et r l q => ?_⟩
      rw [q] at h3
      obtain ⟨b0, e0, eb⟩ := h3.some_right
      rw [Blk.ren_arr eb] at e0
      rw [h2]; exact k.2 et r l e0
    · cases e
  | .ptr i o, v', cv, e, k => by
    simp only [AV.ren] at e
    split at e
    · rename_i j hj
      injection e with e; subst e
      simp only [Rel] at k ⊢
      obtain ⟨h1, h2, h3⟩ := H.id i j hj k.1.1
      refine ⟨⟨h1, k.1.2⟩, fun vt cs q => ?_⟩
      rw [q] at h3
      obtain ⟨b0, e0, eb⟩ := h3.some_right
      obtain ⟨cs0, eb, _⟩ := Blk.ren_var eb
      rw [eb] at e0
      rw [h2]; exact k.2 vt cs0 e0
    · cases e
  | .eptr i x o, v', cv, e, k => by
    simp only [AV.ren] at e
    split at e
    · rename_i j hj
      injection e with e; subst e
      simp only [Rel] at k ⊢
      obtain ⟨h1, h2, h3⟩ := H.id i j hj k.1.1
      refine ⟨⟨h1, k.1.2⟩, fun et r l q => ?_⟩
      rw [q] at h3
      obtain ⟨b0, e0, eb⟩ := h3.some_right
      rw [Blk.ren_arr eb] at e0
      rw [h2]; exact k.2 et r l e0
    · cases e
  | .iter i, v', cv, e, k => by
    simp only [AV.ren] at e
    split at e
    · rename_i j hj
      injection e with e; subst e
      simp only [Rel] at k ⊢
      obtain ⟨h1, h2, h3⟩ := H.id i j hj k.1.1
      refine ⟨⟨h1, k.1.2⟩, fun l p q => ?_⟩
      rw [q] at h3
      obtain ⟨b0, e0, eb⟩ := h3.some_right
      rw [Blk.ren_siter eb] at e0
      rw [h2]; exact k.2 l p e0
    · cases e
  | .mapv i, v', cv, e, k => by
    simp only [AV.ren] at e
    split at e
    · rename_i j hj
      injection e with e; subst e
      simp only [Rel] at k ⊢
      obtain ⟨h1, h2, h3⟩ := H.id i j hj k.1.1
      refine ⟨⟨h1, k.1.2⟩, fun ka rk c es q => ?_⟩
      rw [q] at h3
      obtain ⟨b0, e0, eb⟩ := h3.some_right
      rw [Blk.ren_map eb] at e0
      rw [h2]; exact k.2 ka rk c es e0
    · cases e
  | .agg cs, v', cv, e, k => by
    simp only [AV.ren] at e
    split at e
    · rename_i cs' hc
      injection e with e; subst e
      simp only [Rel] at k ⊢
      obtain ⟨vs, h1, h2⟩ := k
      exact ⟨vs, h1, RelL.ren H true cs cs' vs hc h2⟩
    · cases e
  | .tup cs, v', cv, e, k => by
    simp only [AV.ren] at e
    split at e
    · rename_i cs' hc
      injection e with e; subst e
      simp only [Rel] at k ⊢
      obtain ⟨vs, h1, h2⟩ := k
      exact ⟨vs, h1, RelL.ren H false cs cs' vs hc h2⟩
    · cases e
  | .rptr cs, v', cv, e, k => by
    simp only [AV.ren] at e
    split at e
    · rename_i cs' hc
      injection e with e; subst e
      simp only [Rel] at k ⊢
      obtain ⟨B, o, vs, h1, h2, h3, h4⟩ := k
      exact ⟨B, o, vs, h1, by rw [H.gd]; exact h2, RelL.ren H true cs cs' vs hc h3, by rw [H.w]; exact h4⟩
    · cases e
  | .fn f cs, v', cv, e, k => by
    simp only [AV.ren] at e
    split at e
    · rename_i cs' hc
      injection e with e; subst e
      simp only [Rel] at k ⊢
      obtain ⟨vs, h1, h2⟩ := k
      exact ⟨vs, h1, RelL.ren H false cs cs' vs hc h2⟩
    · cases e
theorem RelL.ren {m m2 : Mem} {h h2 : Heap} {g : Nat → Option Nat} (H : RenOk m h m2 h2 g) (one : Bool) : (cs cs' : List AV) → (vs : List Value) → renL g cs = some cs' → RelL m h one cs vs → RelL m2 h2 one cs' vs
  | [], cs', vs, e, k => by simp only [renL] at e; injection e with e; subst e; exact k
  | c :: cs, cs', vs, e, k => by
    simp only [renL] at e
    split at e
    · rename_i c' hc
      split at e
      · rename_i cs2 hcs
        injection e with e; subst e
        simp only [RelL] at k ⊢
        obtain ⟨v, rest, h1, h2, h3, h4⟩ := k
        exact ⟨v, rest, h1, Rel.ren H c c' v hc h2, h3, RelL.ren H one cs cs2 rest hcs h4⟩
      · cases e
    · cases e
end

theorem renL_length {g : Nat → Option Nat} : (cs cs' : List AV) → renL g cs = some cs' → cs'.length = cs.length
  | [], cs', e => by simp only [renL] at e; injection e with e; subst e; rfl
  | c :: cs, cs', e => by
    simp only [renL] at e
    split at e
    · split at e
      · rename_i cs2 hcs
        injection e with e; subst e
        simp [renL_length cs cs2 hcs]
      · cases e
    · cases e
theorem Blk.like_ren {g : Nat → Option Nat} {b b' : Blk} (e : b.ren g = some b') : b.like b' := by
  cases b with
  | var t cs =>
    simp only [Blk.ren] at e
    split at e
    · rename_i c hc; injection e with e; subst e; exact ⟨rfl, (renL_length _ _ hc).symm⟩
    · cases e
  | arr t r l => simp only [Blk.ren] at e; injection e with e; subst e; exact Blk.like_refl _
  | siter l p => simp only [Blk.ren] at e; injection e with e; subst e; exact Blk.like_refl _
  | map _ _ _ _ => simp only [Blk.ren] at e; injection e with e; subst e; exact Blk.like_refl _

theorem BlkRel.ren {m m2 : Mem} {h h2 : Heap} {g : Nat → Option Nat} (H : RenOk m h m2 h2 g) {i j : Nat} (hl : m2.loc j = m.loc i) {b b' : Blk} (e : b.ren g = some b') (k : BlkRel m h i b) : BlkRel m2 h2 j b' := by
  cases b with
  | var t cs =>
    simp only [Blk.ren] at e
    split at e
    · rename_i c hc
      injection e with e; subst e
      obtain ⟨B, ca, h1, h2, h3⟩ := k
      exact ⟨B, ca, by rw [hl]; exact h1, by rw [H.w]; exact h2, RelL.ren H true cs c _ hc h3⟩
    · cases e
  | arr t r l =>
    simp only [Blk.ren] at e; injection e with e; subst e
    simp only [BlkRel] at k ⊢
    rw [hl, H.w, H.gd]; exact k
  | siter l p =>
    simp only [Blk.ren] at e; injection e with e; subst e
    simp only [BlkRel] at k ⊢
    rw [hl, H.w]; exact k
  | map _ _ _ _ =>
    simp only [Blk.ren] at e; injection e with e; subst e
    simp only [BlkRel] at k ⊢
    rw [hl, H.w, H.gd]; exact k

/-! ### which places -/
theorem selIds_mem {ids : List Nat} : (n k : Nat) → ∀ x ∈ selIds ids n k, n ≤ x ∧ x < n + k
  | n, 0, x, hx => by cases hx
  | n, k + 1, x, hx => by
    have rest : x ∈ selIds ids (n + 1) k → n ≤ x ∧ x < n + (k + 1) := fun q => by have := selIds_mem (n + 1) k x q; omega
    simp only [selIds] at hx
    cases hm : mem n ids with
    | true =>
      simp only [hm, cond_true, List.mem_cons] at hx
      rcases hx with rfl | hx
      · omega
      · exact rest hx
    | false => simp only [hm, cond_false] at hx; exact rest hx
theorem selIds_nodup {ids : List Nat} : (n k : Nat) → (selIds ids n k).Nodup
  | n, 0 => List.nodup_nil
  | n, k + 1 => by
    simp only [selIds]
    cases hm : mem n ids with
    | true =>
      simp only [cond_true, List.nodup_cons]
      exact ⟨fun q => by have := selIds_mem (n + 1) k n q; omega, selIds_nodup (n + 1) k⟩
    | false => simp only [cond_false]; exact selIds_nodup (n + 1) k
theorem posOf_some : (ks : List Nat) → (n i j : Nat) → posOf ks n i = some j → ∃ p, j = n + p ∧ ks[p]? = some i
  | [], n, i, j, e => by cases e
  | k :: ks, n, i, j, e => by
    simp only [posOf] at e
    cases hb : Nat.beq k i with
    | true =>
      rw [hb] at e; simp only [cond_true] at e; injection e with e
      have : k = i := Nat.eq_of_beq_eq_true hb
      exact ⟨0, by omega, by simp [this]⟩
    | false =>
      rw [hb] at e; simp only [cond_false] at e
      obtain ⟨p, h1, h2⟩ := posOf_some ks (n + 1) i j e
      exact ⟨p + 1, by omega, by simpa using h2⟩
theorem hget_join (h : Heap) (i : Nat) : hget h i = (h[i]?).join := by
  induction h generalizing i with
  | nil => rfl
  | cons a h ih => cases i with
    | zero => rfl
    | succ i => simp only [hget, List.getElem?_cons_succ]; exact ih i

/-- Where a place came from. -/
def oldOf (L : Nat) (ks : List Nat) (j : Nat) : Nat := if j < L then j else ks.getD (j - L) 0

theorem hget_comp {h : Heap} {L : Nat} {ks : List Nat} (hL : L ≤ h.length) (j : Nat) : hget (h.take L ++ ks.map (hget h)) j = if j < L + ks.length then hget h (oldOf L ks j) else none := by
  rw [hget_join]
  unfold oldOf
  have hlen : (h.take L).length = L := by simp; omega
  by_cases hj : j < L
  · rw [if_pos (by omega), if_pos hj, List.getElem?_append_left (by omega), List.getElem?_take, if_pos hj, ← hget_join]
  · rw [if_neg hj, List.getElem?_append_right (by omega), hlen]
    by_cases hk : j < L + ks.length
    · rw [if_pos hk, List.getElem?_map]
      have hk2 : j - L < ks.length := by omega
      rw [List.getElem?_eq_getElem hk2, List.getD_eq_getElem?_getD, List.getElem?_eq_getElem hk2]
      rfl
    · rw [if_neg hk]
      rw [List.getElem?_eq_none (by simp; omega)]
      rfl

theorem gcK_some {L : Nat} {v : AV} {h : Heap} {K : AV → Heap → Option R} {res : R} (e : gcK L v h K = some res) :
    ∃ v' h', K v' h' = some res ∧ ∀ (m0 m1 : Mem) (h0 : Heap) (cv : Value), h0.length = L → Ext m0 h0 m1 h → Sim m1 h → Rel m1 h v cv → ∃ m2, m2.w = m1.w ∧ Ext m0 h0 m2 h' ∧ Sim m2 h' ∧ Rel m2 h' v' cv := by
  unfold gcK at e
  cases hb : Nat.ble h.length L with
  | true =>
    rw [hb] at e; simp only [cond_true] at e
    exact ⟨v, h, e, fun m0 m1 h0 cv _ E S k => ⟨m1, rfl, E, S, k⟩⟩
  | false =>
    rw [hb] at e; simp only [cond_false] at e
    rw [forceLs_eq forceNat_eq] at e
    generalize hks : selIds (reach L h v) L (h.length - L) = ks at e
    have hkm : ∀ x ∈ ks, L ≤ x ∧ x < h.length := by
      intro x hx
      have hle : ¬ h.length ≤ L := fun q => by rw [Nat.ble_eq_true_of_le q] at hb; cases hb
      rw [← hks] at hx
      have := selIds_mem L _ x hx
      omega
    have hnd : ks.Nodup := by rw [← hks]; exact selIds_nodup _ _
    have hL : L ≤ h.length := by
      have hle : ¬ h.length ≤ L := fun q => by rw [Nat.ble_eq_true_of_le q] at hb; cases hb
      omega
    obtain ⟨v', hv, e⟩ := AV.renK_some v _ e
    obtain ⟨h', e, hl, hh⟩ := heapRenK_some _ _ e
    have hlen : h'.length = L + ks.length := by rw [hl]; simp; omega
    refine ⟨v', h', e, fun m0 m1 h0 cv h0L E S k => ?_⟩
    have hat : ∀ j, j < L + ks.length → RenB (rho L ks) (hget h (oldOf L ks j)) (hget h' j) := by
      intro j hj
      have := hh j
      rwa [hget_comp hL, if_pos hj] at this
    have hout : ∀ j b, hget h' j = some b → j < L + ks.length := fun j b q => by have := hget_lt q; omega
    have hold : ∀ j, j < L + ks.length → ¬ j < L → ∃ p, ks[j - L]? = some p ∧ oldOf L ks j = p ∧ L ≤ p := by
      intro j hj hn
      have hk2 : j - L < ks.length := by omega
      refine ⟨ks[j - L], List.getElem?_eq_getElem hk2, ?_, (hkm _ (List.getElem_mem hk2)).1⟩
      unfold oldOf
      rw [if_neg hn, List.getD_eq_getElem?_getD, List.getElem?_eq_getElem hk2]
      rfl
    have hinj : ∀ i j, i < L + ks.length → j < L + ks.length → oldOf L ks i = oldOf L ks j → i = j := by
      intro i j hi hj q
      by_cases a : i < L
      · by_cases b : j < L
        · unfold oldOf at q; rw [if_pos a, if_pos b] at q; exact q
        · obtain ⟨p, _, h2, h3⟩ := hold j hj b
          rw [h2] at q
          unfold oldOf at q; rw [if_pos a] at q; omega
      · obtain ⟨p, h1, h2, h3⟩ := hold i hi a
        by_cases b : j < L
        · rw [h2] at q
          unfold oldOf at q; rw [if_pos b] at q; omega
        · obtain ⟨p', h1', h2', _⟩ := hold j hj b
          rw [h2, h2'] at q
          subst q
          have hi2 : i - L < ks.length := by omega
          have hj2 : j - L < ks.length := by omega
          rw [List.getElem?_eq_getElem hi2] at h1
          rw [List.getElem?_eq_getElem hj2] at h1'
          have : ks[i - L] = ks[j - L] := by injection h1 with h1; injection h1' with h1'; rw [h1, h1']
          have := (List.getElem_inj hnd).1 this
          omega
    let m2 : Mem := ⟨m1.w, fun j => if j < L + ks.length then m1.loc (oldOf L ks j) else none, m1.good⟩
    have hloc : ∀ j, j < L + ks.length → m2.loc j = m1.loc (oldOf L ks j) := fun j hj => if_pos hj
    have H : RenOk m1 h m2 h' (rho L ks) := by
      refine ⟨rfl, rfl, fun i j hij hi => ?_⟩
      have key : j < L + ks.length ∧ oldOf L ks j = i := by
        unfold rho at hij
        cases hlt : Nat.blt i L with
        | true =>
          rw [hlt] at hij; simp only [cond_true] at hij; injection hij with hij; subst hij
          have : i < L := Nat.le_of_ble_eq_true hlt
          exact ⟨by omega, by unfold oldOf; rw [if_pos this]⟩
        | false =>
          rw [hlt] at hij; simp only [cond_false] at hij
          obtain ⟨p, h1, h2⟩ := posOf_some ks L i j hij
          have hp : p < ks.length := by
            rcases Nat.lt_or_ge p ks.length with q | q
            · exact q
            · rw [List.getElem?_eq_none q] at h2; cases h2
          refine ⟨by omega, ?_⟩
          unfold oldOf
          rw [if_neg (by omega), List.getD_eq_getElem?_getD, h1, Nat.add_sub_cancel_left, h2]; rfl
      obtain ⟨k1, k2⟩ := key
      refine ⟨by omega, by rw [hloc j k1, k2], ?_⟩
      have := hat j k1
      rwa [k2] at this
    have hownd : ∀ B, Owned m2 h' B → Owned m1 h B := by
      rintro B ⟨j, b, o, e1, e2⟩
      have hj := hout j b e1
      have q := hat j hj
      rw [e1] at q
      obtain ⟨b0, e0, _⟩ := q.some_right
      rw [hloc j hj] at e2
      exact ⟨_, b0, o, e0, e2⟩
    have hlow : ∀ j, j < L → oldOf L ks j = j := fun j hj => by unfold oldOf; rw [if_pos hj]
    refine ⟨m2, rfl, ?_, ?_, Rel.ren H v v' cv hv k⟩
    · refine ⟨E.os, E.tape, E.output, E.size, fun B hB hn => ⟨(E.keep B hB hn).1, fun q => (E.keep B hB hn).2 (hownd B q)⟩, E.good, E.back, by omega, ?_, ?_⟩
      · intro id hid q
        rw [h0L] at hid
        have a := hat id (by omega)
        rw [hlow id hid, E.dead id (by omega) q] at a
        cases hq : hget h' id with
        | none => rfl
        | some b => rw [hq] at a; exact a.elim
      · intro id b b' q q'
        have hid : id < L := by rw [← h0L]; exact hget_lt q
        have a := hat id (by omega)
        rw [hlow id hid, q'] at a
        obtain ⟨b1, e1, eb⟩ := a.some_right
        obtain ⟨c1, c2, c3⟩ := E.live id b b1 q e1
        refine ⟨?_, Blk.like_trans c2 (Blk.like_ren eb), c3⟩
        rw [hloc id (by omega), hlow id hid]; exact c1
    · refine ⟨?_, ?_, ?_, S.lt⟩
      · intro id b' q
        have hj := hout id b' q
        have a := hat id hj
        rw [q] at a
        obtain ⟨b, e0, eb⟩ := a.some_right
        exact BlkRel.ren H (hloc id hj) eb (S.blk _ b e0)
      · intro i j b b' B o o' q q' l l'
        have hi := hout i b q
        have hj := hout j b' q'
        have a := hat i hi
        rw [q] at a
        obtain ⟨bi, ei, _⟩ := a.some_right
        have a' := hat j hj
        rw [q'] at a'
        obtain ⟨bj, ej, _⟩ := a'.some_right
        rw [hloc i hi] at l
        rw [hloc j hj] at l'
        exact hinj i j hi hj (S.inj _ _ bi bj B o o' ei ej l l')
      · intro i b B o q l
        have hi := hout i b q
        have a := hat i hi
        rw [q] at a
        obtain ⟨bi, ei, _⟩ := a.some_right
        rw [hloc i hi] at l
        exact S.sep _ bi B o ei l

end Go.Proofs.YtklfdmnmiadgpaaAbs
