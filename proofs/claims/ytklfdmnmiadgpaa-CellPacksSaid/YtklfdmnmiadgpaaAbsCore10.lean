/- Arithmetic, comparisons, addresses. -/
import Derived.Test.YtklfdmnmiadgpaaAbsCore9
namespace Go.Proofs.YtklfdmnmiadgpaaAbs
set_option linter.unusedVariables false
set_option linter.unusedSimpArgs false
open Go
variable {R : Type}

theorem u8_wrap (k : IntKind) (x : Int) : u8ok k (k.wrap x) = true := by
  cases k <;> first | rfl | skip
  rw [IntKind.wrap_u8]
  simp [u8ok, kindEq]
  omega
theorem u8_other {k : IntKind} (h : kindEq k .u8 = false) (x : Int) : u8ok k x = true := by simp [u8ok, h]

/-- A pure answer. -/
def Gives (run : Sem Value) (v : AV) : Prop := ∃ cv, (∀ P w, run.run P w = .ok cv w) ∧ ∀ m h, Rel m h v cv
theorem gives_int {run : Sem Value} {k : IntKind} {n : Int} (e : ∀ P w, run.run P w = .ok (.int k n) w) (h : u8ok k n = true) : Gives run (.int k n) := ⟨_, e, fun _ _ => ⟨rfl, h⟩⟩
theorem gives_bool {run : Sem Value} {b : Bool} (e : ∀ P w, run.run P w = .ok (.bool b) w) : Gives run (.bool b) := ⟨_, e, fun _ _ => rfl⟩

theorem cond_none {b : Bool} {x : Option R} {res : R} (e : (bif b then none else x) = some res) : b = false ∧ x = some res := by
  cases b <;> simp_all
theorem cond_some {b : Bool} {x : Option R} {res : R} (e : (bif b then x else none) = some res) : b = true ∧ x = some res := by
  cases b <;> simp_all

theorem intOp_ok {op : BinOp} {k : IntKind} {a b : Int} {K : AV → Option R} {res : R} (e : intOp op k a b K = some res) (hs : op ≠ .shl) (hr : op ≠ .shr) :
    ∃ v, K v = some res ∧ ∀ t, Gives (Go.binOp op t (.int k a) (.int k b)) v := by
  cases op <;> simp only [intOp] at e <;> first | exact absurd rfl hs | exact absurd rfl hr | skip
  case quo =>
    obtain ⟨h0, e⟩ := cond_none e
    have hne : ¬ b = 0 := by simpa using h0
    exact ⟨_, e, fun t => gives_int (fun P w => by simp [Go.binOp, Op.intDiv, hne]) (u8_wrap _ _)⟩
  case rem =>
    obtain ⟨h0, e⟩ := cond_none e
    obtain ⟨h1, e⟩ := cond_none e
    have hne : ¬ b = 0 := by simpa using h0
    exact ⟨_, e, fun t => gives_int (fun P w => by simp [Go.binOp, Op.intDiv, hne]) (u8_other h1 _)⟩
  case add => exact ⟨_, e, fun t => gives_int (fun P w => by simp [Go.binOp, Op.intArith]) (u8_wrap _ _)⟩
  case sub => exact ⟨_, e, fun t => gives_int (fun P w => by simp [Go.binOp, Op.intArith]) (u8_wrap _ _)⟩
  case mul => exact ⟨_, e, fun t => gives_int (fun P w => by simp [Go.binOp, Op.intArith]) (u8_wrap _ _)⟩
  case and => exact ⟨_, e, fun t => gives_int (fun P w => by simp [Go.binOp, Op.intBits, bitsOp]) (u8_wrap _ _)⟩
  case or => exact ⟨_, e, fun t => gives_int (fun P w => by simp [Go.binOp, Op.intBits, bitsOp]) (u8_wrap _ _)⟩
  case xor => exact ⟨_, e, fun t => gives_int (fun P w => by simp [Go.binOp, Op.intBits, bitsOp]) (u8_wrap _ _)⟩
  case andNot => exact ⟨_, e, fun t => gives_int (fun P w => by simp [Go.binOp, Op.intBits, bitsOp]) (u8_wrap _ _)⟩
  case eql => exact ⟨_, e, fun t => gives_bool (fun P w => by simp [Go.binOp, Op.intCmp])⟩
  case neq => exact ⟨_, e, fun t => gives_bool (fun P w => by simp [Go.binOp, Op.intCmp])⟩
  case lss => exact ⟨_, e, fun t => gives_bool (fun P w => by simp [Go.binOp, Op.intCmp])⟩
  case leq => exact ⟨_, e, fun t => gives_bool (fun P w => by simp [Go.binOp, Op.intCmp])⟩
  case gtr => exact ⟨_, e, fun t => gives_bool (fun P w => by simp [Go.binOp, Op.intCmp])⟩
  case geq => exact ⟨_, e, fun t => gives_bool (fun P w => by simp [Go.binOp, Op.intCmp])⟩
theorem shl_ok {k j : IntKind} {a b : Int} {K : AV → Option R} {res : R} (e : intOp .shl k a b K = some res) : ∃ v, K v = some res ∧ ∀ t, Gives (Go.binOp .shl t (.int k a) (.int j b)) v := by
  simp only [intOp] at e
  obtain ⟨h0, e⟩ := cond_none e
  have hne : ¬ b < 0 := by simpa using h0
  exact ⟨_, e, fun t => gives_int (fun P w => by simp [Go.binOp, Op.shift, hne]) (u8_wrap _ _)⟩
theorem shr_ok {k j : IntKind} {a b : Int} {K : AV → Option R} {res : R} (e : intOp .shr k a b K = some res) : ∃ v, K v = some res ∧ ∀ t, Gives (Go.binOp .shr t (.int k a) (.int j b)) v := by
  simp only [intOp] at e
  obtain ⟨h0, e⟩ := cond_none e
  obtain ⟨h1, e⟩ := cond_none e
  have hne : ¬ b < 0 := by simpa using h0
  exact ⟨_, e, fun t => gives_int (fun P w => by simp [Go.binOp, Op.shift, hne]) (u8_other h1 _)⟩

theorem eqGuard_skip {P : Program} {w : World} {op : BinOp} {t : TypeId} {x y : Operand} {a b : Value} (h1 : ∀ u v, ¬ (a = .agg u ∧ b = .agg v)) (h2 : ¬ (a = .nilIface ∧ b = .nilIface)) : (eqGuard op t x y a b).run P w = .ok () w := by
  unfold eqGuard
  cases op <;> simp
  all_goals
    cases a <;> cases b <;> first | rfl | (simp at h2; done) | (exact absurd ⟨rfl, rfl⟩ (h1 _ _)) | simp

theorem bytesOf_length (s : ByteArray) : (bytesOf s).length = s.size := by simp [bytesOf]
theorem toList_data (s : ByteArray) : s.toList = s.data.toList := ByteArray.toList_eq s
theorem bytesOf_eq (s t : ByteArray) : (bytesOf s == bytesOf t) = (s.toList == t.toList) := by
  rw [toList_data, toList_data]
  unfold bytesOf
  generalize s.data.toList = l
  generalize t.data.toList = k
  induction l generalizing k with
  | nil => cases k <;> rfl
  | cons a l ih =>
    cases k with
    | nil => rfl
    | cons b k =>
      simp only [List.map_cons]
      have e1 : ∀ (x y : Int) (p q : List Int), (x :: p == y :: q) = (x == y && p == q) := fun _ _ _ _ => rfl
      have e2 : ∀ (x y : UInt8) (p q : List UInt8), (x :: p == y :: q) = (x == y && p == q) := fun _ _ _ _ => rfl
      rw [e1, e2, ih k]
      congr 1
      rw [Bool.eq_iff_iff]
      simp only [beq_iff_eq]
      constructor
      · intro h; exact UInt8.toNat_inj.1 (by omega)
      · intro h; rw [h]
theorem bytesOf_append (s t : ByteArray) : bytesOf (s ++ t) = bytesOf s ++ bytesOf t := by
  simp [bytesOf, ByteArray.data_append]

end Go.Proofs.YtklfdmnmiadgpaaAbs
