/-
  Operations on scalars: what is computed on bit vectors and integers is what the model's operations give.
-/
import Derived.Test.YtjofkjbpiaihbaaDoorAEvA
namespace Go.AEv
open Go

def bult {w : Nat} (x y : BitVec w) : Bool := decide (x < y)
def bule {w : Nat} (x y : BitVec w) : Bool := decide (x ≤ y)
def ilt (x y : Int) : Bool := decide (x < y)
def ile (x y : Int) : Bool := decide (x ≤ y)
def ub {w : Nat} (mk : BitVec w → SV) (op : BinOp) (x y : BitVec w) : Option SV :=
  match op with
  | .add => some (mk (x + y))
  | .sub => some (mk (x - y))
  | .mul => some (mk (x * y))
  | .quo => match decide (y = 0) with
    | true => none
    | false => some (mk (x / y))
  | .rem => match decide (y = 0) with
    | true => none
    | false => some (mk (x % y))
  | .and => some (mk (x &&& y))
  | .or => some (mk (x ||| y))
  | .xor => some (mk (x ^^^ y))
  | .andNot => some (mk (x &&& ~~~y))
  | .eql => some (.b (x == y))
  | .neq => some (.b (x != y))
  | .lss => some (.b (bult x y))
  | .leq => some (.b (bule x y))
  | .gtr => some (.b (bult y x))
  | .geq => some (.b (bule y x))
  | _ => none
def ibits (op : BinOp) (k : IntKind) (x y : Int) : Int :=
  let a := BitVec.ofInt k.bits x
  let b := BitVec.ofInt k.bits y
  match op with
  | .and => k.wrap (a &&& b).toNat
  | .or => k.wrap (a ||| b).toNat
  | .xor => k.wrap (a ^^^ b).toNat
  | _ => k.wrap (a &&& ~~~b).toNat
def ib (op : BinOp) (k : IntKind) (x y : Int) : Option SV :=
  match op with
  | .add => some (.i k (k.wrap (x + y)))
  | .sub => some (.i k (k.wrap (x - y)))
  | .mul => some (.i k (k.wrap (x * y)))
  | .quo => match decide (y = 0) with
    | true => none
    | false => some (.i k (k.wrap (x.tdiv y)))
  | .rem => match decide (y = 0) with
    | true => none
    | false => some (.i k (x.tmod y))
  | .and => some (.i k (ibits .and k x y))
  | .or => some (.i k (ibits .or k x y))
  | .xor => some (.i k (ibits .xor k x y))
  | .andNot => some (.i k (ibits .andNot k x y))
  | .eql => some (.b (x == y))
  | .neq => some (.b (x != y))
  | .lss => some (.b (ilt x y))
  | .leq => some (.b (ile x y))
  | .gtr => some (.b (ilt y x))
  | .geq => some (.b (ile y x))
  | _ => none
/-- A shift's count. -/
def shn : SV → Option Nat
  | .u8 x => some x.toNat
  | .u16 x => some x.toNat
  | .u32 x => some x.toNat
  | .u64 x => some x.toNat
  | .i _ y => match ilt y 0 with
    | true => none
    | false => some y.toNat
  | _ => none
def shl1 (x : SV) (n : Nat) : Option SV :=
  match x with
  | .u8 x => some (.u8 (x <<< n))
  | .u16 x => some (.u16 (x <<< n))
  | .u32 x => some (.u32 (x <<< n))
  | .u64 x => some (.u64 (x <<< n))
  | .i k x => some (.i k (k.wrap (x * 2 ^ min n k.bits)))
  | _ => none
def shr1 (x : SV) (n : Nat) : Option SV :=
  match x with
  | .u8 x => some (.u8 (x >>> n))
  | .u16 x => some (.u16 (x >>> n))
  | .u32 x => some (.u32 (x >>> n))
  | .u64 x => some (.u64 (x >>> n))
  | .i k x => some (.i k (x.fdiv (2 ^ min n k.bits)))
  | _ => none
def kindEq : IntKind → IntKind → Bool
  | .i8, .i8 | .i16, .i16 | .i32, .i32 | .i64, .i64 | .u8, .u8 | .u16, .u16 | .u32, .u32 | .u64, .u64 => true
  | _, _ => false
theorem kindEq_eq {a b : IntKind} (h : kindEq a b = true) : a = b := by cases a <;> cases b <;> first | rfl | simp [kindEq] at h
def sbin2 (op : BinOp) (x y : SV) : Option SV :=
  match x, y with
  | .u8 x, .u8 y => ub .u8 op x y
  | .u16 x, .u16 y => ub .u16 op x y
  | .u32 x, .u32 y => ub .u32 op x y
  | .u64 x, .u64 y => ub .u64 op x y
  | .i k x, .i k' y => match kindEq k k' with
    | true => ib op k x y
    | false => none
  | .str x, .str y => match op with
    | .eql => some (.b (x.toList == y.toList))
    | .neq => some (.b (!(x.toList == y.toList)))
    | _ => none
  | _, _ => none
def sbin (op : BinOp) (x y : SV) : Option SV :=
  match op with
  | .shl => match shn y with
    | some n => shl1 x n
    | none => none
  | .shr => match shn y with
    | some n => shr1 x n
    | none => none
  | _ => sbin2 op x y

theorem wrap_u {k : IntKind} (hs : k.signed = false) (n : Int) : k.wrap n = n % (2 ^ k.bits : Int) := by simp [IntKind.wrap, hs]
theorem wrap_nat {k : IntKind} (hs : k.signed = false) {w : Nat} (hw : w = k.bits) (x : BitVec w) : k.wrap (x.toNat : Int) = x.toNat := by
  subst hw
  rw [wrap_u hs]
  have := x.isLt
  exact Int.emod_eq_of_lt (by omega) (by exact_mod_cast this)

theorem ub_sound {P : Program} {k : IntKind} (hs : k.signed = false) {mk : BitVec k.bits → SV} (hmk : ∀ x, (mk x).val = .int k (x.toNat : Int)) {op : BinOp} {x y : BitVec k.bits} {r : SV}
    (h : ub mk op x y = some r) (t : TypeId) (w : World) : (binOp op t (.int k x.toNat) (.int k y.toNat)).run P w = .ok r.val w := by
  have hx := x.isLt
  have hy := y.isLt
  have ex : BitVec.ofInt k.bits (x.toNat : Int) = x := by simp
  have ey : BitVec.ofInt k.bits (y.toNat : Int) = y := by simp
  have hW : ((2 ^ k.bits : Nat) : Int) = (2 : Int) ^ k.bits := by simp
  cases op <;> simp only [ub] at h
  case add => cases h; simp [binOp, Op.intArith, hmk, wrap_u hs, BitVec.toNat_add]
  case sub =>
    cases h
    simp [binOp, Op.intArith, hmk, wrap_u hs, BitVec.toNat_sub]
    cases k <;> simp [IntKind.signed] at hs <;> simp [IntKind.bits] at * <;> omega
  case mul => cases h; simp [binOp, Op.intArith, hmk, wrap_u hs, BitVec.toNat_mul]
  case quo =>
    split at h
    · simp at h
    · rename_i hd
      cases h
      have hd' : ¬ y = 0 := by simpa using hd
      have : ¬ ((y.toNat : Int) = 0) := by
        intro he; apply hd'; apply BitVec.eq_of_toNat_eq; simp; omega
      simp only [binOp, Op.intDiv, ne_eq, not_true_eq_false, if_false, this, hmk, BitVec.toNat_udiv]
      rw [show ((x.toNat : Int).tdiv (y.toNat : Int)) = ((x / y).toNat : Int) by simp, wrap_nat hs rfl]
      simp
  case rem =>
    split at h
    · simp at h
    · rename_i hd
      cases h
      have hd' : ¬ y = 0 := by simpa using hd
      have : ¬ ((y.toNat : Int) = 0) := by
        intro he; apply hd'; apply BitVec.eq_of_toNat_eq; simp; omega
      simp only [binOp, Op.intDiv, ne_eq, not_true_eq_false, if_false, this, hmk, BitVec.toNat_umod]
      exact congrArg (fun z => Result.ok (Value.int k z) w) (Int.tmod_eq_emod_of_nonneg (by omega))
  case and => cases h; simp only [binOp, Op.intBits, ne_eq, not_true_eq_false, if_false, ex, ey, hmk, wrap_nat hs rfl]; simp
  case or => cases h; simp only [binOp, Op.intBits, ne_eq, not_true_eq_false, if_false, ex, ey, hmk, wrap_nat hs rfl]; simp
  case xor => cases h; simp only [binOp, Op.intBits, ne_eq, not_true_eq_false, if_false, ex, ey, hmk, wrap_nat hs rfl]; simp
  case andNot => cases h; simp only [binOp, Op.intBits, ne_eq, not_true_eq_false, if_false, ex, ey, hmk, wrap_nat hs rfl]; simp
  case eql =>
    cases h
    have : ((x.toNat : Int) == (y.toNat : Int)) = (x == y) := by
      rw [Bool.eq_iff_iff]; simp [BitVec.toNat_eq]; omega
    simp [binOp, Op.intCmp, SV.val, this]
  case neq =>
    cases h
    have : ((x.toNat : Int) != (y.toNat : Int)) = (x != y) := by
      rw [Bool.eq_iff_iff]; simp [BitVec.toNat_eq]; omega
    simp [binOp, Op.intCmp, SV.val, this]
  case lss => cases h; simp [binOp, Op.intCmp, SV.val, bult, BitVec.lt_def]
  case leq => cases h; simp [binOp, Op.intCmp, SV.val, bule, BitVec.le_def]
  case gtr => cases h; simp [binOp, Op.intCmp, SV.val, bult, BitVec.lt_def]
  case geq => cases h; simp [binOp, Op.intCmp, SV.val, bule, BitVec.le_def]
  all_goals simp at h

theorem ib_sound {P : Program} {k : IntKind} {op : BinOp} {x y : Int} {r : SV} (h : ib op k x y = some r) (t : TypeId) (w : World) :
    (binOp op t (.int k x) (.int k y)).run P w = .ok r.val w := by
  cases op <;> simp only [ib] at h
  case add => cases h; simp [binOp, Op.intArith, SV.val]
  case sub => cases h; simp [binOp, Op.intArith, SV.val]
  case mul => cases h; simp [binOp, Op.intArith, SV.val]
  case quo =>
    split at h
    · simp at h
    · rename_i hd
      cases h
      have hd' : ¬ y = 0 := by simpa using hd
      simp [binOp, Op.intDiv, hd', SV.val]
  case rem =>
    split at h
    · simp at h
    · rename_i hd
      cases h
      have hd' : ¬ y = 0 := by simpa using hd
      simp [binOp, Op.intDiv, hd', SV.val]
  case and => cases h; simp [binOp, Op.intBits, SV.val, ibits]
  case or => cases h; simp [binOp, Op.intBits, SV.val, ibits]
  case xor => cases h; simp [binOp, Op.intBits, SV.val, ibits]
  case andNot => cases h; simp [binOp, Op.intBits, SV.val, ibits]
  case eql => cases h; simp [binOp, Op.intCmp, SV.val]
  case neq => cases h; simp [binOp, Op.intCmp, SV.val]
  case lss => cases h; simp [binOp, Op.intCmp, SV.val, ilt]
  case leq => cases h; simp [binOp, Op.intCmp, SV.val, ile]
  case gtr => cases h; simp [binOp, Op.intCmp, SV.val, ilt]
  case geq => cases h; simp [binOp, Op.intCmp, SV.val, ile]
  all_goals simp at h

theorem shn_sound {y : SV} {n : Nat} (h : shn y = some n) : ∃ (k : IntKind) (b : Int), y.val = .int k b ∧ 0 ≤ b ∧ b.toNat = n := by
  cases y <;> simp only [shn] at h
  case u8 x => cases h; exact ⟨_, _, rfl, by omega, by simp⟩
  case u16 x => cases h; exact ⟨_, _, rfl, by omega, by simp⟩
  case u32 x => cases h; exact ⟨_, _, rfl, by omega, by simp⟩
  case u64 x => cases h; exact ⟨_, _, rfl, by omega, by simp⟩
  case i k x =>
    split at h
    · simp at h
    · rename_i hd; cases h; exact ⟨_, _, rfl, by simpa [ilt] using hd, rfl⟩
  all_goals simp at h

theorem shl_u {k : IntKind} (hs : k.signed = false) (x : BitVec k.bits) (n : Nat) : k.wrap ((x.toNat : Int) * 2 ^ min n k.bits) = ((x <<< n).toNat : Int) := by
  rw [wrap_u hs, BitVec.toNat_shiftLeft, Nat.shiftLeft_eq]
  by_cases hn : n ≤ k.bits
  · rw [Nat.min_eq_left hn]; push_cast; rfl
  · rw [Nat.min_eq_right (by omega)]
    have h1 : ((x.toNat : Int) * 2 ^ k.bits) % 2 ^ k.bits = 0 := by simp
    have h2 : (x.toNat * 2 ^ n) % 2 ^ k.bits = 0 := by
      rw [show n = k.bits + (n - k.bits) by omega, Nat.pow_add, ← Nat.mul_assoc, Nat.mul_right_comm]
      simp
    rw [h1, h2]; rfl
theorem shr_u {k : IntKind} (x : BitVec k.bits) (n : Nat) : (x.toNat : Int).fdiv (2 ^ min n k.bits) = ((x >>> n).toNat : Int) := by
  rw [BitVec.toNat_ushiftRight, Nat.shiftRight_eq_div_pow]
  have h2 : ((2 : Int) ^ min n k.bits) = ((2 ^ min n k.bits : Nat) : Int) := by simp
  rw [h2, Int.fdiv_eq_ediv_of_nonneg _ (Int.natCast_nonneg _), ← Int.natCast_ediv]
  congr 1
  by_cases hn : n ≤ k.bits
  · rw [Nat.min_eq_left hn]
  · rw [Nat.min_eq_right (by omega), Nat.div_eq_of_lt x.isLt, Nat.div_eq_of_lt]
    exact Nat.lt_of_lt_of_le x.isLt (Nat.pow_le_pow_right (by omega) (by omega))

theorem sbin_sound {P : Program} {op : BinOp} {x y r : SV} (h : sbin op x y = some r) (t : TypeId) (w : World) : (binOp op t x.val y.val).run P w = .ok r.val w := by
  by_cases hop : op = .shl
  · subst hop
    simp only [sbin] at h
    split at h
    · rename_i n hn
      obtain ⟨yk, b, hb, h0, hb'⟩ := shn_sound hn
      rw [hb]
      cases x <;> simp only [shl1] at h
      case u8 x => cases h; simp only [SV.val, binOp, Op.shift]; rw [if_neg (by omega), hb']; exact congrArg (fun z => Result.ok (Value.int .u8 z) w) (shl_u (k := .u8) rfl x n)
      case u16 x => cases h; simp only [SV.val, binOp, Op.shift]; rw [if_neg (by omega), hb']; exact congrArg (fun z => Result.ok (Value.int .u16 z) w) (shl_u (k := .u16) rfl x n)
      case u32 x => cases h; simp only [SV.val, binOp, Op.shift]; rw [if_neg (by omega), hb']; exact congrArg (fun z => Result.ok (Value.int .u32 z) w) (shl_u (k := .u32) rfl x n)
      case u64 x => cases h; simp only [SV.val, binOp, Op.shift]; rw [if_neg (by omega), hb']; exact congrArg (fun z => Result.ok (Value.int .u64 z) w) (shl_u (k := .u64) rfl x n)
      case i k x => cases h; simp only [SV.val, binOp, Op.shift]; rw [if_neg (by omega), hb']; simp
      all_goals simp at h
    · simp at h
  by_cases hop' : op = .shr
  · subst hop'
    simp only [sbin] at h
    split at h
    · rename_i n hn
      obtain ⟨yk, b, hb, h0, hb'⟩ := shn_sound hn
      rw [hb]
      cases x <;> simp only [shr1] at h
      case u8 x => cases h; simp only [SV.val, binOp, Op.shift]; rw [if_neg (by omega), hb']; exact congrArg (fun z => Result.ok (Value.int .u8 z) w) (shr_u (k := .u8) x n)
      case u16 x => cases h; simp only [SV.val, binOp, Op.shift]; rw [if_neg (by omega), hb']; exact congrArg (fun z => Result.ok (Value.int .u16 z) w) (shr_u (k := .u16) x n)
      case u32 x => cases h; simp only [SV.val, binOp, Op.shift]; rw [if_neg (by omega), hb']; exact congrArg (fun z => Result.ok (Value.int .u32 z) w) (shr_u (k := .u32) x n)
      case u64 x => cases h; simp only [SV.val, binOp, Op.shift]; rw [if_neg (by omega), hb']; exact congrArg (fun z => Result.ok (Value.int .u64 z) w) (shr_u (k := .u64) x n)
      case i k x => cases h; simp only [SV.val, binOp, Op.shift]; rw [if_neg (by omega), hb']; simp
      all_goals simp at h
    · simp at h
  have h' : sbin2 op x y = some r := by
    cases op <;> first | exact absurd rfl hop | exact absurd rfl hop' | exact h
  clear h
  unfold sbin2 at h'
  split at h'
  · exact ub_sound (k := .u8) rfl (fun _ => rfl) h' t w
  · exact ub_sound (k := .u16) rfl (fun _ => rfl) h' t w
  · exact ub_sound (k := .u32) rfl (fun _ => rfl) h' t w
  · exact ub_sound (k := .u64) rfl (fun _ => rfl) h' t w
  · split at h'
    · rename_i hk; rw [← kindEq_eq hk]; exact ib_sound h' t w
    · simp at h'
  · split at h'
    · cases h'; simp [binOp, SV.val, Op.stringOp]
    · cases h'; simp [binOp, SV.val, Op.stringOp]
    · simp at h'
  · simp at h'

/-! ### unary operations, conversions of integers -/
def sun (op : UnOp) (x : SV) : Option SV :=
  match op, x with
  | .neg, .u8 x => some (.u8 (-x))
  | .neg, .u16 x => some (.u16 (-x))
  | .neg, .u32 x => some (.u32 (-x))
  | .neg, .u64 x => some (.u64 (-x))
  | .neg, .i k x => some (.i k (k.wrap (0 - x)))
  | .xor, .u8 x => some (.u8 (~~~x))
  | .xor, .u16 x => some (.u16 (~~~x))
  | .xor, .u32 x => some (.u32 (~~~x))
  | .xor, .u64 x => some (.u64 (~~~x))
  | .xor, .i k x => match k.signed with
    | true => some (.i k (ibits .xor k (-1) x))
    | false => none
  | .not, .b x => some (.b (!x))
  | _, _ => none
theorem neg_u {k : IntKind} (hs : k.signed = false) (x : BitVec k.bits) : k.wrap (0 - (x.toNat : Int)) = ((-x).toNat : Int) := by
  rw [wrap_u hs, BitVec.toNat_neg]
  have := x.isLt
  cases k <;> simp [IntKind.signed] at hs <;> simp [IntKind.bits] at * <;> omega
theorem not_u {k : IntKind} (hs : k.signed = false) (x : BitVec k.bits) : k.wrap ((BitVec.ofInt k.bits k.max ^^^ BitVec.ofInt k.bits (x.toNat : Int)).toNat : Int) = ((~~~x).toNat : Int) := by
  rw [wrap_nat hs rfl]
  congr 2
  have : BitVec.ofInt k.bits k.max = BitVec.allOnes k.bits := by cases k <;> first | rfl | simp [IntKind.signed] at hs
  rw [this]
  simp
theorem sun_sound {P : Program} {op : UnOp} {x r : SV} (h : sun op x = some r) (w : World) : (Op.unary op x.val).run P w = .ok r.val w := by
  unfold sun at h
  split at h
  · cases h; exact congrArg (fun z => Result.ok (Value.int .u8 z) w) (neg_u (k := .u8) rfl _)
  · cases h; exact congrArg (fun z => Result.ok (Value.int .u16 z) w) (neg_u (k := .u16) rfl _)
  · cases h; exact congrArg (fun z => Result.ok (Value.int .u32 z) w) (neg_u (k := .u32) rfl _)
  · cases h; exact congrArg (fun z => Result.ok (Value.int .u64 z) w) (neg_u (k := .u64) rfl _)
  · cases h; rfl
  · cases h; exact congrArg (fun z => Result.ok (Value.int .u8 z) w) (not_u (k := .u8) rfl _)
  · cases h; exact congrArg (fun z => Result.ok (Value.int .u16 z) w) (not_u (k := .u16) rfl _)
  · cases h; exact congrArg (fun z => Result.ok (Value.int .u32 z) w) (not_u (k := .u32) rfl _)
  · cases h; exact congrArg (fun z => Result.ok (Value.int .u64 z) w) (not_u (k := .u64) rfl _)
  · split at h
    · rename_i hk; cases h; simp [Op.unary, Op.intBits, SV.val, hk, ibits]
    · simp at h
  · cases h; rfl
  · simp at h

/-- An integer of a kind, as a number. -/
def SV.num : SV → Option Int
  | .u8 x => some x.toNat
  | .u16 x => some x.toNat
  | .u32 x => some x.toNat
  | .u64 x => some x.toNat
  | .i _ x => some x
  | _ => none
theorem num_val {x : SV} {n : Int} (h : x.num = some n) : ∃ k, x.val = .int k n := by
  cases x <;> simp [SV.num] at h <;> subst h <;> exact ⟨_, rfl⟩
/-- To a kind. -/
def scv (k : IntKind) (x : SV) : Option SV :=
  match k with
  | .u8 => match x with
    | .u8 x => some (.u8 x)
    | .u16 x => some (.u8 (x.setWidth 8))
    | .u32 x => some (.u8 (x.setWidth 8))
    | .u64 x => some (.u8 (x.setWidth 8))
    | .i _ x => some (.u8 (BitVec.ofInt 8 x))
    | _ => none
  | .u16 => match x with
    | .u8 x => some (.u16 (x.setWidth 16))
    | .u16 x => some (.u16 x)
    | .u32 x => some (.u16 (x.setWidth 16))
    | .u64 x => some (.u16 (x.setWidth 16))
    | .i _ x => some (.u16 (BitVec.ofInt 16 x))
    | _ => none
  | .u32 => match x with
    | .u8 x => some (.u32 (x.setWidth 32))
    | .u16 x => some (.u32 (x.setWidth 32))
    | .u32 x => some (.u32 x)
    | .u64 x => some (.u32 (x.setWidth 32))
    | .i _ x => some (.u32 (BitVec.ofInt 32 x))
    | _ => none
  | .u64 => match x with
    | .u8 x => some (.u64 (x.setWidth 64))
    | .u16 x => some (.u64 (x.setWidth 64))
    | .u32 x => some (.u64 (x.setWidth 64))
    | .u64 x => some (.u64 x)
    | .i _ x => some (.u64 (BitVec.ofInt 64 x))
    | _ => none
  | k => match x.num with
    | some n => some (.i k (k.wrap n))
    | none => none
theorem cv_u {w v : Nat} {k : IntKind} (hs : k.signed = false) (hv : v = k.bits) (x : BitVec w) : k.wrap (x.toNat : Int) = ((x.setWidth v).toNat : Int) := by
  subst hv
  rw [wrap_u hs, BitVec.toNat_setWidth]; push_cast; rfl
theorem cv_i {v : Nat} {k : IntKind} (hs : k.signed = false) (hv : v = k.bits) (x : Int) : k.wrap x = ((BitVec.ofInt v x).toNat : Int) := by
  subst hv
  rw [wrap_u hs, BitVec.toNat_ofInt]
  have : (0 : Int) ≤ x % 2 ^ k.bits := Int.emod_nonneg _ (by have := Int.pow_pos (n := 2) (m := k.bits) (by omega); omega)
  rw [Int.toNat_of_nonneg (by simpa using this)]; simp
theorem scv_sound {k : IntKind} {x r : SV} (h : scv k x = some r) : ∃ j n, x.val = .int j n ∧ r.val = .int k (k.wrap n) := by
  cases k <;> cases x <;> simp only [scv, SV.num, Option.some.injEq, reduceCtorEq] at h <;> subst h <;> refine ⟨_, _, rfl, ?_⟩
  all_goals first
    | rfl
    | exact congrArg (Value.int .u8) (cv_u (k := .u8) rfl rfl _).symm
    | exact congrArg (Value.int .u8) (wrap_nat (k := .u8) rfl rfl _).symm
    | exact congrArg (Value.int .u8) (cv_i (k := .u8) rfl rfl _).symm
    | exact congrArg (Value.int .u16) (cv_u (k := .u16) rfl rfl _).symm
    | exact congrArg (Value.int .u16) (wrap_nat (k := .u16) rfl rfl _).symm
    | exact congrArg (Value.int .u16) (cv_i (k := .u16) rfl rfl _).symm
    | exact congrArg (Value.int .u32) (cv_u (k := .u32) rfl rfl _).symm
    | exact congrArg (Value.int .u32) (wrap_nat (k := .u32) rfl rfl _).symm
    | exact congrArg (Value.int .u32) (cv_i (k := .u32) rfl rfl _).symm
    | exact congrArg (Value.int .u64) (cv_u (k := .u64) rfl rfl _).symm
    | exact congrArg (Value.int .u64) (wrap_nat (k := .u64) rfl rfl _).symm
    | exact congrArg (Value.int .u64) (cv_i (k := .u64) rfl rfl _).symm
end Go.AEv
