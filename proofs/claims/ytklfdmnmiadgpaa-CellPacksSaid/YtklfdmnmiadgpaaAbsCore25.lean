/- A literal of bytes that is converted to its own type: its row is marked, and frozen. -/
import Derived.Test.YtklfdmnmiadgpaaAbsCore23
namespace Go.Proofs.YtklfdmnmiadgpaaAbs
set_option linter.unusedVariables false
set_option linter.unusedSimpArgs false
open Go

/-- A block is let go, what lies in it turns, and it is frozen. -/
theorem ext_frzw {m : Mem} {h : Heap} (S : Sim m h) {w' : World} {id : Nat} {b : Blk} {B o : Nat} (e : hget h id = some b) (hl : m.loc id = some (B, o)) (wr : Wrote m.w w' B) :
    Ext m h ⟨w', m.loc, fun k => m.good k ∨ k = B⟩ (hset h id none) :=
  let E := ext_killw S e hl wr
  { os := E.os, tape := E.tape, output := E.output, size := E.size, keep := fun B' hB hn => ⟨(E.keep B' hB hn).1, fun ⟨i, b1, o1, e1, l1⟩ => (E.keep B' hB hn).2 ⟨i, b1, o1, e1, l1⟩⟩,
    good := fun _ k => .inl k, back := fun B' k => by
      rcases k with k | k
      · exact .inl k
      · subst k; exact .inr (.inl ⟨id, b, o, e, hl⟩)
    len := E.len, dead := E.dead, live := E.live }
theorem sim_frzw {m : Mem} {h : Heap} (S : Sim m h) {w' : World} {id : Nat} {b : Blk} {B o : Nat} (e : hget h id = some b) (hl : m.loc id = some (B, o)) (wr : Wrote m.w w' B) : Sim ⟨w', m.loc, fun k => m.good k ∨ k = B⟩ (hset h id none) := by
  refine S.of_ext (ext_frzw S e hl wr) (fun i b1 e1 => .inl ⟨(kill_get e1).2, fun B' o' l => ?_⟩) (fun i j b1 b2 B o1 o2 e1 e2 l1 l2 => S.inj i j b1 b2 B o1 o2 (kill_get e1).2 (kill_get e2).2 l1 l2)
    (fun i b1 B1 o1 e1 l1 k => ?_) (fun B' k => ?_)
  · refine wr.other B' (fun q => ?_)
    subst q
    exact (kill_get e1).1 (S.inj i id b1 b B' o' o (kill_get e1).2 e l hl)
  · rcases k with k | k
    · exact S.sep i b1 B1 o1 (kill_get e1).2 l1 k
    · subst k; exact (kill_get e1).1 (S.inj i id b1 b B1 o1 o (kill_get e1).2 e l1 hl)
  · show B' < w'.heap.size
    rw [wr.size]
    rcases k with k | k
    · exact S.lt B' k
    · subst k; exact (S.blk id b e).lt hl

theorem run_mark {P : Program} {w : World} {t e : TypeId} (ht : P.underlying t = some (.slice e)) (he : P.underlying e = some (.int .u8)) {B o n c k : Nat} {et : TypeId} (hs : w.shape? B = some (et, k)) :
    (Go.convert t t (.slice (some ⟨B, o, none⟩) n c)).run P w = .ok (.slice (some ⟨B, o, none⟩) n c) (w.freeze ⟨B, k, none⟩ 1) := by
  simp [Go.convert, run_underlying ht, run_underlying he, markStringish, hs]

theorem convS_beq {E : Env} {h : Heap} {src dst : TypeId} {x : AV} {r : AV × Heap} (e : convS E h src dst x = some r) : Nat.beq src dst = true := by
  unfold convS at e
  split at e
  · exact (cond_some e).1
  · cases e
theorem convS_ok {P : Program} {E : Env} (hT : TabOk P E.tab) {h : Heap} {src dst : TypeId} {x : AV} {rr : AV × Heap} (e : convS E h src dst x = some rr) (m : Mem) (u : Value) (S : Sim m h) (q : Rel m h x u) :
    Nat.beq src dst = true ∧ ∃ cv m', (Go.convert src dst u).run P m.w = .ok cv m'.w ∧ Ext m h m' rr.2 ∧ Sim m' rr.2 ∧ Rel m' rr.2 rr.1 cv := by
  unfold convS at e
  split at e
  · rename_i id
    have hb := (cond_some e).1
    refine ⟨hb, ?_⟩
    simp only [hb, cond_true] at e
    have := Nat.eq_of_beq_eq_true hb
    subst this
    clear hb
    split at e
    · rename_i el hk
      split at e
      · rename_i et r y l hk2 hg
        obtain ⟨hr, e⟩ := cond_some e
        injection e with e; subst e
        obtain ⟨ti, hti, d, hd1, hd2⟩ := tyKind_ok hT.ti hk
        obtain ⟨te, hte, de, he1, he2⟩ := tyKind_ok hT.ti hk2
        cases de <;> simp [kindOk] at he2
        have := kindEq_eq he2; subst this
        cases d <;> simp [kindOk] at hd2
        subst hd2
        have hrr := Row.same_eq _ _ hr
        subst hrr
        simp only [Rel] at q
        rcases q.2 _ _ _ hg with ⟨h1, _⟩ | ⟨B, o, cap, hl, rfl, hcap, _⟩
        · cases h1
        · obtain ⟨c, us, t', h2, h3, h4, h5⟩ := arr_lies (S.blk id _ hg) hl
          have hs : m.w.shape? B = some (et, c.size) := by simp [World.shape?, h2]
          have wr := wrote_freeze (w := m.w) (B := B) c.size 1
          refine ⟨_, ⟨_, m.loc, fun k => m.good k ∨ k = B⟩, run_mark hd1 he1 hs, ext_frzw S hg hl wr, sim_frzw S hg hl wr, ?_, fun _ => ⟨_, _, _, rfl⟩⟩
          refine ⟨some ⟨B, o, none⟩, (y :: l).length, cap, rfl, rfl, hcap, .inr ⟨B, o, us, rfl, .inr rfl, RepAll.mono (fun x cs k => ?_) h5, ?_⟩⟩
          · simp only [Row.rep, CTy.rep] at k ⊢; exact k
          · refine ⟨c, et, (c.size, c.size + 1), t', ?_, h4⟩
            simp only [World.freeze, Nat.one_ne_zero, if_false]
            rw [Array.getElem?_modify, if_pos rfl, h2]
            simp
      · cases e
    · cases e
  · cases e

end Go.Proofs.YtklfdmnmiadgpaaAbs
