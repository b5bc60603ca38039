/- Numbers as bytes, the high ones first. -/
import Derived.Test.YtekkglhoeaipbaaDoorAbOwn
namespace Go.Ab

theorem wrap_u64 {m : Int} (h : 0 ≤ m) (h2 : m < 18446744073709551616) : IntKind.u64.wrap m = m := by
  simp [IntKind.wrap, IntKind.signed, IntKind.bits]; omega

def be : Nat → Nat → List UInt8
  | 0, _ => []
  | n + 1, v => UInt8.ofNat (v / 256 ^ n) :: be n v
@[simp] theorem be_length : ∀ n v, (be n v).length = n
  | 0, _ => rfl
  | n + 1, v => by simp [be, be_length n v]

/-- The number of bytes. -/
def num (l : List UInt8) : Nat := l.foldl (fun v c => v * 256 + c.toNat) 0
theorem num_append (a b : List UInt8) : num (a ++ b) = num a * 256 ^ b.length + num b := by
  have key : ∀ (b : List UInt8) (v : Nat), b.foldl (fun v c => v * 256 + c.toNat) v = v * 256 ^ b.length + num b := by
    intro b
    induction b with
    | nil => intro v; simp [num]
    | cons x b ih =>
      intro v
      simp only [List.foldl_cons, num]
      rw [ih, ih (0 * 256 + x.toNat), List.length_cons, Nat.pow_succ, Nat.add_mul, Nat.add_mul, Nat.mul_assoc, Nat.mul_comm 256]
      omega
  simp only [num, List.foldl_append]
  rw [key]
  rfl
theorem num_cons (x : UInt8) (l : List UInt8) : num (x :: l) = x.toNat * 256 ^ l.length + num l := by
  rw [show x :: l = [x] ++ l from rfl, num_append]; simp [num]
theorem num_lt : ∀ l : List UInt8, num l < 256 ^ l.length
  | [] => by simp [num]
  | x :: l => by
    have ih := num_lt l
    have := x.toNat_lt
    rw [num_cons, List.length_cons, Nat.pow_succ]
    have : (x.toNat + 1) * 256 ^ l.length ≤ 256 * 256 ^ l.length := Nat.mul_le_mul_right _ (by omega)
    rw [Nat.add_mul] at this
    omega
theorem num_snoc (l : List UInt8) (x : UInt8) : num (l ++ [x]) = num l * 256 + x.toNat := by
  rw [num_append]; simp [num]
theorem num_be : ∀ n v, num (be n v) = v % 256 ^ n
  | 0, v => by simp [be, num]; omega
  | n + 1, v => by
    rw [be, num_cons, num_be n v, be_length, Nat.pow_succ, Nat.mod_mul]
    have : (UInt8.ofNat (v / 256 ^ n)).toNat = v / 256 ^ n % 256 := by simp
    rw [this, Nat.mul_comm (256 ^ n), Nat.add_comm]
theorem be_num : ∀ l : List UInt8, be l.length (num l) = l := by
  intro l
  induction l with
  | nil => rfl
  | cons x l ih =>
    have h1 := num_cons x l
    have h2 := num_lt l
    have h3 : ∀ n v w, be n (v * 256 ^ n + w) = be n w := by
      intro n
      induction n with
      | zero => intros; rfl
      | succ n ihn =>
        intro v w
        have e : v * 256 ^ (n + 1) + w = v * 256 * 256 ^ n + w := by rw [Nat.pow_succ, Nat.mul_comm (256 ^ n), Nat.mul_assoc]
        simp only [be]
        rw [e, ihn]
        congr 1
        rw [Nat.mul_comm (v * 256), Nat.mul_add_div (Nat.pos_of_ne_zero (by simp))]
        apply UInt8.toNat_inj.1
        simp only [UInt8.toNat_ofNat']
        omega
    simp only [List.length_cons, be]
    rw [h1, h3, ih]
    congr 1
    rw [Nat.mul_comm, Nat.mul_add_div (Nat.pos_of_ne_zero (by simp)), Nat.div_eq_of_lt h2]
    simp
theorem be_inj {n v w : Nat} (hv : v < 256 ^ n) (hw : w < 256 ^ n) (h : be n v = be n w) : v = w := by
  have := congrArg num h
  rwa [num_be, num_be, Nat.mod_eq_of_lt hv, Nat.mod_eq_of_lt hw] at this

/-- A byte of a number, as the code comes to it. -/
theorem shr_byte (v i : Nat) (hi : i < 8) : IntKind.u8.wrap (Int.fdiv (v : Int) (2 ^ min (8 * (i : Int)).toNat IntKind.u64.bits)) = ((UInt8.ofNat (v / 256 ^ i)).toNat : Int) := by
  have e : min (8 * (i : Int)).toNat IntKind.u64.bits = 8 * i := by
    rw [show IntKind.u64.bits = 64 from rfl]; omega
  have e2 : (2 : Int) ^ (8 * i) = ((256 ^ i : Nat) : Int) := by
    rw [Int.pow_mul, Int.natCast_pow]; rfl
  rw [e, e2]
  have : Int.fdiv (v : Int) ((256 ^ i : Nat) : Int) = ((v / 256 ^ i : Nat) : Int) := by
    rw [Int.fdiv_eq_ediv_of_nonneg _ (Int.natCast_nonneg _)]; rfl
  rw [this]
  obtain ⟨q, hq⟩ : ∃ q, q = v / 256 ^ i := ⟨_, rfl⟩
  rw [← hq]
  have : (UInt8.ofNat q).toNat = q % 256 := by simp
  rw [this]
  simp [IntKind.wrap, IntKind.signed, IntKind.bits]
end Go.Ab
