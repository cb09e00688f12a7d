/- YtabcpghhfeplaaaGreatOPa2: parts of the proof, put together by program. -/
import Derived.Test.YtabcpghhfeplaaaGreatOPa1
set_option linter.unusedVariables false
set_option linter.unusedSimpArgs false
set_option linter.unusedSectionVars false
namespace Go.Proofs.YtabcpghhfeplaaaGreat
namespace Cdc
theorem byte_nat {n : Nat} (h : n < 256) : (UInt8.ofNat n).toNat = n := by rw [UInt8.toNat_ofNat']; omega
theorem cont_byte (q : Nat) : cont (UInt8.ofNat (128 + q % 64)) = true := by
 unfold cont; rw [byte_nat (by omega)]; simp; omega
def Scalar (a : Int) : Prop := (0 ≤ a ∧ a < 55296) ∨ (57343 < a ∧ a ≤ 1114111)
theorem nx8_pt {a : Int} (h : Scalar a) (r : Bs) : nx8 (pt8 a ++ r) = (a, sz8 a) := by
 obtain ⟨n, rfl⟩ : ∃ n : Nat, a = (n : Int) := Int.eq_ofNat_of_zero_le (by rcases h with h | h <;> omega)
 have hs : sz8 (n : Int) = if n < 128 then 1 else if n < 2048 then 2 else if n < 65536 then 3 else 4 := by
  unfold sz8
  rw [if_neg (by rcases h with h | h <;> omega)]
  repeat' split
  all_goals first | rfl | omega
 unfold pt8
 rw [if_neg (by omega), hs, Int.toNat_natCast]
 by_cases h1 : n < 128
 ·rw [if_pos h1, if_pos rfl]
  have hb : (UInt8.ofNat n).toNat = n := byte_nat (by omega)
  show nx8 (UInt8.ofNat n :: r) = _
  have hbn : bnds n = (1, 0, 0) := by unfold bnds; rw [if_pos h1]
  have hr : rowOf (UInt8.ofNat n :: r) = (1, 1) := by simp only [rowOf, hb, hbn]; rfl
  simp only [nx8, hr, hb]
  rw [if_neg (by decide)]
  rfl
 rw [if_neg h1]
 by_cases h2 : n < 2048
 ·rw [if_pos h2, if_neg (by decide)]
  have hb : (UInt8.ofNat (mk8 2 + n / 64 ^ (2 - 1))).toNat = 192 + n / 64 := by
   show (UInt8.ofNat (192 + n / 64)).toNat = _
   exact byte_nat (by omega)
  have hc : (UInt8.ofNat (128 + n / 64 ^ 0 % 64)).toNat = 128 + n % 64 := by
   rw [byte_nat (by omega)]; simp
  have hbn : bnds (192 + n / 64) = (2, 128, 191) := by
   unfold bnds; rw [if_neg (by omega), if_neg (by omega), if_pos (by omega)]
  show nx8 (UInt8.ofNat (mk8 2 + n / 64 ^ (2 - 1)) :: UInt8.ofNat (128 + n / 64 ^ 0 % 64) :: r) = _
  have hr : rowOf (UInt8.ofNat (mk8 2 + n / 64 ^ (2 - 1)) :: UInt8.ofNat (128 + n / 64 ^ 0 % 64) :: r) = (2, 2) := by
   simp only [rowOf, hb, hbn, hc]
   rw [if_neg (by decide), if_neg (by omega)]
   cases r <;> rfl
  simp only [nx8, hr, hb]
  rw [if_neg (by decide)]
  show (((rest (lead 2 (192 + n / 64)) [UInt8.ofNat (128 + n / 64 ^ 0 % 64)] : Nat) : Int), 2) = _
  have : rest (lead 2 (192 + n / 64)) [UInt8.ofNat (128 + n / 64 ^ 0 % 64)] = n := by
   show (192 + n / 64) % 32 * 64 + (UInt8.ofNat (128 + n / 64 ^ 0 % 64)).toNat % 64 = n
   rw [hc]; omega
  rw [this]
 rw [if_neg h2]
 by_cases h3 : n < 65536
 ·rw [if_pos h3, if_neg (by decide)]
  have hb : (UInt8.ofNat (mk8 3 + n / 64 ^ (3 - 1))).toNat = 224 + n / 4096 := by
   show (UInt8.ofNat (224 + n / 4096)).toNat = _
   exact byte_nat (by omega)
  have hc : (UInt8.ofNat (128 + n / 64 ^ 1 % 64)).toNat = 128 + n / 64 % 64 := by
   rw [byte_nat (by omega)]
  have hd : (UInt8.ofNat (128 + n / 64 ^ 0 % 64)).toNat = 128 + n % 64 := by
   rw [byte_nat (by omega)]; simp
  have hbn : ∃ lo hi, bnds (224 + n / 4096) = (3, lo, hi) ∧ ¬ (128 + n / 64 % 64 < lo ∨ hi < 128 + n / 64 % 64) := by
   unfold bnds
   rw [if_neg (by omega), if_neg (by omega), if_neg (by omega)]
   split
   ·exact ⟨_, _, rfl, by omega⟩
   ·split
    ·exact ⟨_, _, rfl, by rcases h with h | h <;> omega⟩
    ·rw [if_pos (by omega)]
     exact ⟨_, _, rfl, by omega⟩
  obtain ⟨lo, hi, hbn, hin⟩ := hbn
  show nx8 (UInt8.ofNat (mk8 3 + n / 64 ^ (3 - 1)) :: UInt8.ofNat (128 + n / 64 ^ 1 % 64) :: UInt8.ofNat (128 + n / 64 ^ 0 % 64) :: r) = _
  have hr : rowOf (UInt8.ofNat (mk8 3 + n / 64 ^ (3 - 1)) :: UInt8.ofNat (128 + n / 64 ^ 1 % 64) :: UInt8.ofNat (128 + n / 64 ^ 0 % 64) :: r) = (3, 3) := by
   simp only [rowOf, hb, hbn, hc]
   rw [if_neg (by decide), if_neg hin]
   show (2 + more 1 _, 3) = _
   simp only [more, cont_byte, if_true]
  simp only [nx8, hr, hb]
  rw [if_neg (by decide)]
  show (((rest (lead 3 (224 + n / 4096)) [UInt8.ofNat (128 + n / 64 ^ 1 % 64), UInt8.ofNat (128 + n / 64 ^ 0 % 64)] : Nat) : Int), 3) = _
  have : rest (lead 3 (224 + n / 4096)) [UInt8.ofNat (128 + n / 64 ^ 1 % 64), UInt8.ofNat (128 + n / 64 ^ 0 % 64)] = n := by
   show ((224 + n / 4096) % 16 * 64 + (UInt8.ofNat (128 + n / 64 ^ 1 % 64)).toNat % 64) * 64 + (UInt8.ofNat (128 + n / 64 ^ 0 % 64)).toNat % 64 = n
   rw [hc, hd]; omega
  rw [this]
 rw [if_neg h3, if_neg (by decide)]
 have hb : (UInt8.ofNat (mk8 4 + n / 64 ^ (4 - 1))).toNat = 240 + n / 262144 := by
  show (UInt8.ofNat (240 + n / 262144)).toNat = _
  exact byte_nat (by rcases h with h | h <;> omega)
 have hc : (UInt8.ofNat (128 + n / 64 ^ 2 % 64)).toNat = 128 + n / 4096 % 64 := by
  rw [byte_nat (by omega)]
 have hd : (UInt8.ofNat (128 + n / 64 ^ 1 % 64)).toNat = 128 + n / 64 % 64 := by
  rw [byte_nat (by omega)]
 have he : (UInt8.ofNat (128 + n / 64 ^ 0 % 64)).toNat = 128 + n % 64 := by
  rw [byte_nat (by omega)]; simp
 have hbn : ∃ lo hi, bnds (240 + n / 262144) = (4, lo, hi) ∧ ¬ (128 + n / 4096 % 64 < lo ∨ hi < 128 + n / 4096 % 64) := by
  unfold bnds
  rw [if_neg (by omega), if_neg (by omega), if_neg (by omega), if_neg (by omega), if_neg (by omega), if_neg (by omega)]
  split
  ·exact ⟨_, _, rfl, by omega⟩
  ·split
   ·exact ⟨_, _, rfl, by omega⟩
   ·rw [if_pos (by rcases h with h | h <;> omega)]
    exact ⟨_, _, rfl, by rcases h with h | h <;> omega⟩
 obtain ⟨lo, hi, hbn, hin⟩ := hbn
 show nx8 (UInt8.ofNat (mk8 4 + n / 64 ^ (4 - 1)) :: UInt8.ofNat (128 + n / 64 ^ 2 % 64) :: UInt8.ofNat (128 + n / 64 ^ 1 % 64) :: UInt8.ofNat (128 + n / 64 ^ 0 % 64) :: r) = _
 have hr : rowOf (UInt8.ofNat (mk8 4 + n / 64 ^ (4 - 1)) :: UInt8.ofNat (128 + n / 64 ^ 2 % 64) :: UInt8.ofNat (128 + n / 64 ^ 1 % 64) :: UInt8.ofNat (128 + n / 64 ^ 0 % 64) :: r) = (4, 4) := by
  simp only [rowOf, hb, hbn, hc]
  rw [if_neg (by decide), if_neg hin]
  show (2 + more 2 _, 4) = _
  simp only [more, cont_byte, if_true]
 simp only [nx8, hr, hb]
 rw [if_neg (by decide)]
 show (((rest (lead 4 (240 + n / 262144)) [UInt8.ofNat (128 + n / 64 ^ 2 % 64), UInt8.ofNat (128 + n / 64 ^ 1 % 64), UInt8.ofNat (128 + n / 64 ^ 0 % 64)] : Nat) : Int), 4) = _
 have : rest (lead 4 (240 + n / 262144)) [UInt8.ofNat (128 + n / 64 ^ 2 % 64), UInt8.ofNat (128 + n / 64 ^ 1 % 64), UInt8.ofNat (128 + n / 64 ^ 0 % 64)] = n := by
  show (((240 + n / 262144) % 8 * 64 + (UInt8.ofNat (128 + n / 64 ^ 2 % 64)).toNat % 64) * 64 + (UInt8.ofNat (128 + n / 64 ^ 1 % 64)).toNat % 64) * 64 + (UInt8.ofNat (128 + n / 64 ^ 0 % 64)).toNat % 64 = n
  rw [hc, hd, he]; rcases h with h | h <;> omega
 rw [this]
theorem uni_two (be : Bool) (u : Nat) (hu : u < 65536) : ∃ x y, uni be u = [x, y] ∧ un be x y = u := by
 have h1 : (UInt8.ofNat (u / 256)).toNat = u / 256 := byte_nat (by omega)
 have h2 : (UInt8.ofNat u).toNat = u % 256 := by rw [UInt8.toNat_ofNat']
 cases be with
 | false => exact ⟨_, _, rfl, by show (UInt8.ofNat u).toNat + (UInt8.ofNat (u / 256)).toNat * 256 = u; rw [h1, h2]; omega⟩
 | true => exact ⟨_, _, rfl, by show (UInt8.ofNat u).toNat + (UInt8.ofNat (u / 256)).toNat * 256 = u; rw [h1, h2]; omega⟩
theorem nx16_pt {be : Bool} {a : Int} (h : Scalar a) (r : Bs) : nx16 be (pt16 be a ++ r) = (a, sz16 a) := by
 obtain ⟨n, rfl⟩ : ∃ n : Nat, a = (n : Int) := Int.eq_ofNat_of_zero_le (by rcases h with h | h <;> omega)
 unfold pt16 sz16
 have a1 : ¬ (n : Int) < 0 := by omega
 have a2 : ¬ ((n : Int) < -256 ∨ 1114111 < (n : Int)) := by rcases h with h | h <;> omega
 rw [if_neg a1, if_neg a2, if_neg a1, Int.toNat_natCast]
 by_cases h1 : (n : Int) < 65536
 ·rw [if_pos h1, if_pos h1]
  obtain ⟨x, y, e, hu⟩ := uni_two be n (by omega)
  rw [e]
  show nx16 be (x :: y :: r) = _
  simp only [nx16, hu]
  rw [if_neg (by rcases h with h | h <;> omega)]
 ·rw [if_neg h1, if_neg h1]
  obtain ⟨x, y, e, hu⟩ := uni_two be (55296 + (n - 65536) / 1024) (by rcases h with h | h <;> omega)
  obtain ⟨x', y', e', hu'⟩ := uni_two be (56320 + n % 1024) (by omega)
  rw [e, e']
  show nx16 be (x :: y :: x' :: y' :: r) = _
  simp only [nx16, hu, hu']
  rw [if_pos (by rcases h with h | h <;> omega), if_pos (by omega)]
  have : (65536 : Int) + (((55296 + (n - 65536) / 1024) % 1024 * 1024 + (56320 + n % 1024) % 1024 : Nat) : Int) = (n : Int) := by rcases h with h | h <;> omega
  rw [this]
theorem nx1_pt {a : Int} (h0 : 0 ≤ a) (h : a ≤ 255) (r : Bs) : nx1 (pt1 a ++ r) = (a, sz1 a) := by
 obtain ⟨n, rfl⟩ := Int.eq_ofNat_of_zero_le h0
 have : (UInt8.ofNat n).toNat = n := byte_nat (by omega)
 show (((UInt8.ofNat n).toNat : Int), 1) = _
 rw [this]
 unfold sz1
 rw [if_neg (by omega)]
theorem nx_pt {e : Enc} {a : Int} (h : Scalar a) (hf : sz e a ≠ 0) (r : Bs) : nx e (pt e a ++ r) = (a, sz e a) := by
 cases e with
 | u8 => exact nx8_pt h r
 | le => exact nx16_pt h r
 | be => exact nx16_pt h r
 | l1 =>
  have hh : ¬ (a < 0 ∨ 255 < a) := fun hc => hf (by show sz1 a = 0; unfold sz1; rw [if_pos hc])
  exact nx1_pt (by omega) (by omega) r
theorem ats_pt {e : Enc} {a : Int} (h : Scalar a) (hf : sz e a ≠ 0) (r : Bs) : ats e (pt e a ++ r) = (a, sz e a) :: ats e r := by
 have hl := pt_len e a hf
 have hne : pt e a ++ r ≠ [] := fun hc => by
  have := congrArg List.length hc
  rw [List.length_append, List.length_nil] at this
  omega
 rw [ats_cons e hne, nx_pt h hf]
 have : (pt e a ++ r).drop (sz e a) = r := by rw [← hl, List.drop_left]
 rw [this]
end Cdc
end Go.Proofs.YtabcpghhfeplaaaGreat
set_option maxRecDepth 100000
namespace Go.Proofs.YtabcpghhfeplaaaGreat
open Go Go.Vx
def bs_29aed6ba : ByteArray := { data := #[48, 48, 57, 49, 53, 48, 48, 57, 51, 57, 49, 48, 48, 57, 53, 56, 48, 48, 57, 53, 70, 49, 48, 48, 57, 55, 56, 48, 48, 57, 55, 70, 49, 48, 48, 57, 57, 53, 48, 48, 57, 65, 56, 49, 48, 48, 57, 65, 65, 48, 48, 57, 66, 48, 49, 48, 48, 57, 66, 50, 48, 48, 57, 66, 50, 49, 48, 48, 57, 66, 54, 48, 48, 57, 66, 57, 49, 48, 48, 57, 68, 67, 48, 48, 57, 68, 68, 49, 48, 48, 57, 68, 70, 48, 48, 57, 68, 70, 49, 48, 48, 57, 70, 48, 48, 48, 57, 70, 49, 49, 48, 48, 65, 57, 53, 48, 48, 65, 65, 56, 49, 48, 48, 65, 65, 65, 48, 48, 65, 66, 48, 49, 48, 48, 65, 66, 50, 48, 48, 65, 66, 51, 49, 48, 48, 65, 66, 53, 48, 48, 65, 66, 57, 49, 48, 48, 65, 70, 57, 48, 48, 65, 70, 57, 49, 48, 48, 66, 49, 53, 48, 48, 66, 50, 56, 49, 48, 48, 66, 50, 65, 48, 48, 66, 51, 48, 49, 48, 48, 66, 51, 50, 48, 48, 66, 51, 51, 49, 48, 48, 66, 51, 53, 48, 48, 66, 51, 57, 49, 48, 48, 66, 53, 67, 48, 48, 66, 53, 68, 49, 48, 48, 66, 53, 70, 48, 48, 66, 53, 70, 49, 48, 48, 66, 55, 49, 48, 48, 66, 55, 49, 49, 48, 48, 67, 49, 53, 48, 48, 67, 50, 56, 49, 48, 48, 67, 50, 65, 48, 48, 67, 51, 57, 49, 48, 48, 67, 53, 56, 48, 48, 67, 53, 65, 49, 48, 48, 68, 49, 53, 48, 48, 68, 51, 65, 49] }
def bs_88441808 : ByteArray := { data := #[48, 48, 48, 48, 48, 48, 48, 48, 48, 57, 51, 48, 48, 48, 48, 65, 48, 48, 48, 48, 65, 50, 48, 48, 48, 48, 66, 48, 48, 48, 48, 67, 51, 48, 48, 48, 48, 68, 48, 48, 48, 48, 68, 49, 48, 48, 48, 48, 69, 48, 48, 48, 49, 70, 51, 48, 48, 48, 55, 70, 48, 48, 48, 57, 70, 51, 48, 48, 48, 65, 57, 48, 48, 48, 65, 57, 69, 48, 48, 48, 65, 68, 48, 48, 48, 65, 68, 51, 48, 48, 48, 65, 69, 48, 48, 48, 65, 69, 69, 48, 48, 51, 48, 48, 48, 48, 51, 54, 70, 52, 48, 48, 52, 56, 51, 48, 48, 52, 56, 57, 52, 48, 48, 53, 57, 49, 48, 48, 53, 66, 68, 52, 48, 48, 53, 66, 70, 48, 48, 53, 66, 70, 52, 48, 48, 53, 67, 49, 48, 48, 53, 67, 50, 52, 48, 48, 53, 67, 52, 48, 48, 53, 67, 53, 52, 48, 48, 53, 67, 55, 48, 48, 53, 67, 55, 52, 48, 48, 54, 48, 48, 48, 48, 54, 48, 53, 55, 48, 48, 54, 49, 48, 48, 48, 54, 49, 65, 52, 48, 48, 54, 49, 67, 48, 48, 54, 49, 67, 51, 48, 48, 54, 52, 66, 48, 48, 54, 53, 70, 52, 48, 48, 54, 55, 48, 48, 48, 54, 55, 48, 52, 48, 48, 54, 68, 54, 48, 48, 54, 68, 67, 52, 48, 48, 54, 68, 68, 48, 48, 54, 68, 68, 55, 48, 48, 54, 68, 70, 48, 48, 54, 69, 52, 52, 48, 48, 54, 69, 55, 48, 48, 54, 69, 56, 52, 48, 48, 54, 69, 65, 48, 48, 54, 69, 68, 52, 48, 48, 55, 48, 70, 48, 48, 55, 48, 70, 55, 48, 48, 55, 49, 49, 48, 48, 55, 49, 49, 52, 48, 48, 55, 51, 48, 48, 48, 55, 52, 65, 52, 48, 48, 55, 65, 54, 48, 48, 55, 66, 48, 52, 48, 48, 55, 69, 66, 48, 48, 55, 70, 51, 52, 48, 48, 55, 70, 68, 48, 48, 55, 70, 68, 52, 48, 48, 56, 49, 54, 48, 48, 56, 49, 57, 52, 48, 48, 56, 49, 66, 48, 48, 56, 50, 51, 52, 48, 48, 56, 50, 53, 48, 48, 56, 50, 55, 52, 48, 48, 56, 50, 57, 48, 48, 56, 50, 68, 52, 48, 48, 56, 53, 57, 48, 48, 56, 53, 66, 52, 48, 48, 56, 57, 48, 48, 48, 56, 57, 49, 55, 48, 48, 56, 57, 56, 48, 48, 56, 57, 70, 52, 48, 48, 56, 67, 65, 48, 48, 56, 69, 49, 52, 48, 48, 56, 69, 50, 48, 48, 56, 69, 50, 55, 48, 48, 56, 69, 51, 48, 48, 57, 48, 50, 52, 48, 48, 57, 48, 51, 48, 48, 57, 48, 51, 56, 48, 48, 57, 51, 65, 48, 48, 57, 51, 65, 52, 48, 48, 57, 51, 66, 48, 48, 57, 51, 66, 56, 48, 48, 57, 51, 67, 48, 48, 57, 51, 67, 52, 48, 48, 57, 51, 69, 48, 48, 57, 52, 48, 56, 48, 48, 57, 52, 49, 48, 48, 57, 52, 56, 52, 48, 48, 57, 52, 57, 48, 48, 57, 52, 67, 56, 48, 48, 57, 52, 68, 48, 48, 57, 52, 68, 52, 48, 48, 57, 52, 69, 48, 48, 57, 52, 70, 56, 48, 48, 57, 53, 49, 48, 48, 57, 53, 55, 52, 48, 48, 57, 54, 50, 48, 48, 57, 54, 51, 52, 48, 48, 57, 56, 49, 48, 48, 57, 56, 49, 52, 48, 48, 57, 56, 50, 48, 48, 57, 56, 51, 56, 48, 48, 57, 66, 67, 48, 48, 57, 66, 67, 52, 48, 48, 57, 66, 69, 48, 48, 57, 66, 69, 52, 48, 48, 57, 66, 70, 48, 48, 57, 67, 48, 56, 48, 48, 57, 67, 49, 48, 48, 57, 67, 52, 52, 48, 48, 57, 67, 55, 48, 48, 57, 67, 56, 56, 48, 48, 57, 67, 66, 48, 48, 57, 67, 67, 56, 48, 48, 57, 67, 68, 48, 48, 57, 67, 68, 52, 48, 48, 57, 68, 55, 48, 48, 57, 68, 55, 52, 48, 48, 57, 69, 50, 48, 48, 57, 69, 51, 52, 48, 48, 57, 70, 69, 48, 48, 57, 70, 69, 52, 48, 48, 65, 48, 49, 48, 48, 65, 48, 50, 52, 48, 48, 65, 48, 51, 48, 48, 65, 48, 51, 56, 48, 48, 65, 51, 67, 48, 48, 65, 51, 67, 52, 48, 48, 65, 51, 69, 48, 48, 65, 52, 48, 56, 48, 48, 65, 52, 49, 48, 48, 65, 52, 50, 52, 48, 48, 65, 52, 55, 48, 48, 65, 52, 56, 52, 48, 48, 65, 52, 66, 48, 48, 65, 52, 68, 52, 48, 48, 65, 53, 49, 48, 48, 65, 53, 49, 52, 48, 48, 65, 55, 48, 48, 48, 65, 55, 49, 52, 48, 48, 65, 55, 53, 48, 48, 65, 55, 53, 52, 48, 48, 65, 56, 49, 48, 48, 65, 56, 50, 52, 48, 48, 65, 56, 51, 48, 48, 65, 56, 51, 56, 48, 48, 65, 66, 67, 48, 48, 65, 66, 67, 52, 48, 48, 65, 66, 69, 48, 48, 65, 67, 48, 56, 48, 48, 65, 67, 49, 48, 48, 65, 67, 53, 52, 48, 48, 65, 67, 55, 48, 48, 65, 67, 56, 52, 48, 48, 65, 67, 57, 48, 48, 65, 67, 57, 56, 48, 48, 65, 67, 66, 48, 48, 65, 67, 67, 56, 48, 48, 65, 67, 68, 48, 48, 65, 67, 68, 52, 48, 48, 65, 69, 50, 48, 48, 65, 69, 51, 52, 48, 48, 65, 70, 65, 48, 48, 65, 70, 70, 52, 48, 48, 66, 48, 49, 48, 48, 66, 48, 49, 52, 48, 48, 66, 48, 50, 48, 48, 66, 48, 51, 56, 48, 48, 66, 51, 67, 48, 48, 66, 51, 67, 52, 48, 48, 66, 51, 69, 48, 48, 66, 51, 70, 52, 48, 48, 66, 52, 48, 48, 48, 66, 52, 48, 56, 48, 48, 66, 52, 49, 48, 48, 66, 52, 52, 52, 48, 48, 66, 52, 55, 48, 48, 66, 52, 56, 56, 48, 48, 66, 52, 66, 48, 48, 66, 52, 67, 56, 48, 48, 66, 52, 68, 48, 48, 66, 52, 68, 52, 48, 48, 66, 53, 53, 48, 48, 66, 53, 55, 52, 48, 48, 66, 54, 50, 48, 48, 66, 54, 51, 52, 48, 48, 66, 56, 50, 48, 48, 66, 56, 50, 52, 48, 48, 66, 66, 69, 48, 48, 66, 66, 69, 52, 48, 48, 66, 66, 70, 48, 48, 66, 66, 70, 56, 48, 48, 66, 67, 48, 48, 48, 66, 67, 48, 52, 48, 48, 66, 67, 49, 48, 48, 66, 67, 50, 56, 48, 48, 66, 67, 54, 48, 48, 66, 67, 56, 56, 48, 48, 66, 67, 65, 48, 48, 66, 67, 67, 56, 48, 48, 66, 67, 68, 48, 48, 66, 67, 68, 52, 48, 48, 66, 68, 55, 48, 48, 66, 68, 55, 52, 48, 48, 67, 48, 48, 48, 48, 67, 48, 48, 52, 48, 48, 67, 48, 49, 48, 48, 67, 48, 51, 56, 48, 48, 67, 48, 52, 48, 48, 67, 48, 52, 52, 48, 48, 67, 51, 67, 48, 48, 67, 51, 67, 52, 48, 48, 67, 51, 69, 48, 48, 67, 52, 48, 52, 48, 48, 67, 52, 49, 48, 48, 67, 52, 52, 56, 48, 48, 67, 52, 54, 48, 48, 67, 52, 56, 52, 48, 48, 67, 52, 65, 48, 48, 67, 52, 68, 52, 48, 48, 67, 53, 53, 48, 48, 67, 53, 54, 52, 48, 48, 67, 54, 50, 48, 48, 67, 54, 51, 52, 48, 48, 67, 56, 49, 48, 48, 67, 56, 49, 52, 48, 48, 67, 56, 50, 48, 48, 67, 56, 51, 56, 48, 48, 67, 66, 67, 48, 48, 67, 66, 67, 52, 48, 48, 67, 66, 69, 48, 48, 67, 66, 69, 56, 48, 48, 67, 66, 70, 48, 48, 67, 66, 70, 52, 48, 48, 67, 67, 48, 48, 48, 67, 67, 49, 56, 48, 48, 67, 67, 50, 48, 48, 67, 67, 50, 52, 48, 48, 67, 67, 51, 48, 48, 67, 67, 52, 56, 48, 48, 67, 67, 54, 48, 48, 67, 67, 54, 52, 48, 48, 67, 67, 55, 48, 48, 67, 67, 56, 56, 48, 48, 67, 67, 65, 48, 48, 67, 67, 66, 56, 48, 48, 67, 67, 67, 48, 48, 67, 67, 68, 52, 48, 48, 67, 68, 53, 48, 48, 67, 68, 54, 52, 48, 48, 67, 69, 50, 48, 48, 67, 69, 51, 52, 48, 48, 67, 70, 51, 48, 48, 67, 70, 51, 56, 48, 48, 68, 48, 48, 48, 48, 68, 48, 49, 52, 48, 48, 68, 48, 50, 48, 48, 68, 48, 51, 56, 48, 48, 68, 51, 66, 48, 48, 68, 51, 67, 52, 48, 48, 68, 51, 69, 48, 48, 68, 51, 69, 52, 48, 48, 68, 51, 70, 48, 48, 68, 52, 48, 56, 48, 48, 68, 52, 49, 48, 48, 68, 52, 52, 52, 48, 48, 68, 52, 54, 48, 48, 68, 52, 56, 56, 48, 48, 68, 52, 65, 48, 48, 68, 52, 67, 56, 48, 48, 68, 52, 68, 48, 48, 68, 52, 68, 52, 48, 48, 68, 52, 69, 48, 48, 68, 52, 69, 55, 48, 48, 68, 53, 55, 48, 48, 68, 53, 55, 52, 48, 48, 68, 54, 50, 48, 48, 68, 54, 51, 52, 48, 48, 68, 56, 49, 48, 48, 68, 56, 49, 52, 48, 48, 68, 56, 50, 48, 48, 68, 56, 51, 56, 48, 48, 68, 67, 65, 48, 48, 68, 67, 65, 52, 48, 48, 68, 67, 70, 48, 48, 68, 67, 70, 52, 48, 48, 68, 68, 48, 48, 48, 68, 68, 49, 56, 48, 48, 68, 68, 50, 48, 48, 68, 68, 52, 52, 48, 48, 68, 68, 54, 48, 48, 68, 68, 54, 52, 48, 48, 68, 68, 56, 48, 48, 68, 68, 69, 56, 48, 48, 68, 68, 70, 48, 48, 68, 68, 70, 52, 48, 48, 68, 70, 50, 48, 48, 68, 70, 51, 56, 48, 48, 69, 51, 49, 48, 48, 69, 51, 49, 52, 48, 48, 69, 51, 51, 48, 48, 69, 51, 51, 56, 48, 48, 69, 51, 52, 48, 48, 69, 51, 65, 52, 48, 48, 69, 52, 55, 48, 48, 69, 52, 69, 52, 48, 48, 69, 66, 49, 48, 48, 69, 66, 49, 52, 48, 48, 69, 66, 51, 48, 48, 69, 66, 51, 56, 48, 48, 69, 66, 52, 48, 48, 69, 66, 67, 52, 48, 48, 69, 67, 56, 48, 48, 69, 67, 69, 52, 48, 48, 70, 49, 56, 48, 48, 70, 49, 57, 52, 48, 48, 70, 51, 53, 48, 48, 70, 51, 53, 52, 48, 48, 70, 51, 55, 48, 48, 70, 51, 55, 52, 48, 48, 70, 51, 57, 48, 48, 70, 51, 57, 52, 48, 48, 70, 51, 69, 48, 48, 70, 51, 70, 56, 48, 48, 70, 55, 49, 48, 48, 70, 55, 69, 52, 48, 48, 70, 55, 70, 48, 48, 70, 55, 70, 56, 48, 48, 70, 56, 48, 48, 48, 70, 56, 52, 52, 48, 48, 70, 56, 54, 48, 48, 70, 56, 55, 52, 48, 48, 70, 56, 68, 48, 48, 70, 57, 55, 52, 48, 48, 70, 57, 57, 48, 48, 70, 66, 67, 52, 48, 48, 70, 67, 54, 48, 48, 70, 67, 54, 52, 48, 49, 48, 50, 68, 48, 49, 48, 51, 48, 52, 48, 49, 48, 51, 49, 48, 49, 48, 51, 49, 56, 48, 49, 48, 51, 50, 48, 49, 48, 51, 55, 52, 48, 49, 48, 51, 57, 48, 49, 48, 51, 65, 52, 48, 49, 48, 51, 66, 48, 49, 48, 51, 67, 56, 48, 49, 48, 51, 68, 48, 49, 48, 51, 69, 52, 48, 49, 48, 53, 54, 48, 49, 48, 53, 55, 56, 48, 49, 48, 53, 56, 48, 49, 48, 53, 57, 52, 48, 49, 48, 53, 69, 48, 49, 48, 54, 48, 52, 48, 49, 48, 55, 49, 48, 49, 48, 55, 52, 52, 48, 49, 48, 56, 50, 48, 49, 48, 56, 50, 52, 48, 49, 48, 56, 52, 48, 49, 48, 56, 52, 56, 48, 49, 48, 56, 53, 48, 49, 48, 56, 54, 52, 48, 49, 48, 56, 68, 48, 49, 48, 56, 68, 52, 48, 49, 48, 57, 68, 48, 49, 48, 57, 68, 52, 48, 49, 49, 48, 48, 48, 49, 49, 53, 70, 57, 48, 49, 49, 54, 48, 48, 49, 49, 65, 55, 65, 48, 49, 49, 65, 56, 48, 49, 49, 70, 70, 66, 48, 49, 51, 53, 68, 48, 49, 51, 53, 70, 52, 48, 49, 55, 66, 52, 48, 49, 55, 66, 53, 52, 48, 49, 55, 66, 54, 48, 49, 55, 66, 54, 56, 48, 49, 55, 66, 55, 48, 49, 55, 66, 68, 52, 48, 49, 55, 66, 69, 48, 49, 55, 67, 53, 56, 48, 49, 55, 67, 54, 48, 49, 55, 67, 54, 52, 48, 49, 55, 67, 55, 48, 49, 55, 67, 56, 56, 48, 49, 55, 67, 57, 48, 49, 55, 68, 51, 52, 48, 49, 55, 68, 68, 48, 49, 55, 68, 68, 52, 48, 49, 56, 48, 66, 48, 49, 56, 48, 68, 52, 48, 49, 56, 48, 69, 48, 49, 56, 48, 69, 51, 48, 49, 56, 48, 70, 48, 49, 56, 48, 70, 52, 48, 49, 56, 65, 57, 48, 49, 56, 65, 57, 52, 48, 49, 65, 66, 48, 48, 49, 65, 67, 69, 52, 48, 49, 68, 67, 48, 48, 49, 68, 70, 70, 52, 48, 50, 48, 48, 66, 48, 50, 48, 48, 66, 51, 48, 50, 48, 48, 67, 48, 50, 48, 48, 67, 52, 48, 50, 48, 48, 68, 48, 50, 48, 48, 68, 53, 48, 50, 48, 48, 69, 48, 50, 48, 48, 70, 51, 48, 50, 48, 50, 56, 48, 50, 48, 50, 69, 51, 48, 50, 48, 51, 67, 48, 50, 48, 51, 67, 69, 48, 50, 48, 52, 57, 48, 50, 48, 52, 57, 69, 48, 50, 48, 54, 48, 48, 50, 48, 54, 70, 51, 48, 50, 48, 68, 48, 48, 50, 48, 70, 48, 52, 48, 50, 49, 50, 50, 48, 50, 49, 50, 50, 69, 48, 50, 49, 51, 57, 48, 50, 49, 51, 57, 69, 48, 50, 49, 57, 52, 48, 50, 49, 57, 57, 69, 48, 50, 49, 65, 57, 48, 50, 49, 65, 65, 69, 48, 50, 51, 49, 65, 48, 50, 51, 49, 66, 69, 48, 50, 51, 50, 56, 48, 50, 51, 50, 56, 69, 48, 50, 51, 56, 56, 48, 50, 51, 56, 56, 69, 48, 50, 51, 67, 70, 48, 50, 51, 67, 70, 69, 48, 50, 51, 69, 57, 48, 50, 51, 70, 51, 69, 48, 50, 51, 70, 56, 48, 50, 51, 70, 65, 69, 48, 50, 52, 67, 50, 48, 50, 52, 67, 50, 69, 48, 50, 53, 65, 65, 48, 50, 53, 65, 66, 69, 48, 50, 53, 66, 54, 48, 50, 53, 66, 54, 69, 48, 50, 53, 67, 48, 48, 50, 53, 67, 48, 69, 48, 50, 53, 70, 66, 48, 50, 53, 70, 69, 69, 48, 50, 54, 48, 48, 48, 50, 54, 48, 53, 69, 48, 50, 54, 48, 55, 48, 50, 54, 49, 50, 69, 48, 50, 54, 49, 52, 48, 50, 54, 56, 53, 69, 48, 50, 54, 57, 48, 48, 50, 55, 48, 53, 69, 48, 50, 55, 48, 56, 48, 50, 55, 49, 50, 69, 48, 50, 55, 49, 52, 48, 50, 55, 49, 52, 69, 48, 50, 55, 49, 54, 48, 50, 55, 49, 54, 69, 48, 50, 55, 49, 68, 48, 50, 55, 49, 68, 69, 48, 50, 55, 50, 49, 48, 50, 55, 50, 49, 69, 48, 50, 55, 50, 56, 48, 50, 55, 50, 56, 69, 48, 50, 55, 51, 51, 48, 50, 55, 51, 52, 69, 48, 50, 55, 52, 52, 48, 50, 55, 52, 52, 69, 48, 50, 55, 52, 55, 48, 50, 55, 52, 55, 69, 48, 50, 55, 52, 67, 48, 50, 55, 52, 67, 69, 48, 50, 55, 52, 69, 48, 50, 55, 52, 69, 69, 48, 50, 55, 53, 51, 48, 50, 55, 53, 53, 69, 48, 50, 55, 53, 55, 48, 50, 55, 53, 55, 69, 48, 50, 55, 54, 51, 48, 50, 55, 54, 55, 69, 48, 50, 55, 57, 53, 48, 50, 55, 57, 55, 69, 48, 50, 55, 65, 49, 48, 50, 55, 65, 49, 69, 48, 50, 55, 66, 48, 48, 50, 55, 66, 48, 69, 48, 50, 55, 66, 70, 48, 50, 55, 66, 70, 69, 48, 50, 57, 51, 52, 48, 50, 57, 51, 53, 69, 48, 50, 66, 48, 53, 48, 50, 66, 48, 55, 69, 48, 50, 66, 49, 66, 48, 50, 66, 49, 67, 69, 48, 50, 66, 53, 48, 48, 50, 66, 53, 48, 69, 48, 50, 66, 53, 53, 48, 50, 66, 53, 53, 69, 48, 51, 48, 50, 65, 48, 51, 48, 50, 70, 52, 48, 51, 48, 51, 48, 48, 51, 48, 51, 48, 69, 48, 51, 48, 51, 68, 48, 51, 48, 51, 68, 69, 48, 51, 48, 57, 57, 48, 51, 48, 57, 65, 52, 48, 51, 50, 57, 55, 48, 51, 50, 57, 55, 69, 48, 51, 50, 57, 57, 48, 51, 50, 57, 57, 69, 48, 65, 54, 54, 70, 48, 65, 54, 55, 50, 52, 48, 65, 54, 55, 52, 48, 65, 54, 55, 68, 52, 48, 65, 54, 57, 69, 48, 65, 54, 57, 70, 52, 48, 65, 54, 70, 48, 48, 65, 54, 70, 49, 52, 48, 65, 57, 54, 48, 48, 65, 57, 55, 67, 57, 48, 68, 55, 66, 48, 48, 68, 55, 67, 54, 65, 48, 68, 55, 67, 66, 48, 68, 55, 70, 66, 66, 48, 70, 66, 49, 69, 48, 70, 66, 49, 69, 52, 48, 70, 69, 48, 48, 48, 70, 69, 48, 70, 52, 48, 70, 69, 50, 48, 48, 70, 69, 50, 70, 52, 48, 70, 69, 70, 70, 48, 70, 69, 70, 70, 51, 48, 70, 70, 57, 69, 48, 70, 70, 57, 70, 52, 48, 70, 70, 70, 48, 48, 70, 70, 70, 66, 51, 49, 48, 49, 70, 68, 49, 48, 49, 70, 68, 52, 49, 49, 48, 66, 68, 49, 49, 48, 66, 68, 55, 49, 49, 48, 67, 68, 49, 49, 48, 67, 68, 55, 49, 49, 49, 67, 50, 49, 49, 49, 67, 51, 55, 49, 51, 52, 51, 48, 49, 51, 52, 51, 70, 51, 49, 66, 67, 65, 48, 49, 66, 67, 65, 51, 51, 49, 68, 49, 54, 53, 49, 68, 49, 54, 53, 52, 49, 68, 49, 54, 55, 49, 68, 49, 54, 57, 52, 49, 68, 49, 54, 69, 49, 68, 49, 55, 50, 52, 49, 68, 49, 55, 51, 49, 68, 49, 55, 65, 51, 49, 68, 49, 55, 66, 49, 68, 49, 56, 50, 52, 49, 68, 49, 56, 53, 49, 68, 49, 56, 66, 52, 49, 68, 49, 65, 65, 49, 68, 49, 65, 68, 52, 49, 70, 48, 48, 48, 49, 70, 48, 70, 70, 69, 49, 70, 49, 48, 68, 49, 70, 49, 48, 70, 69, 49, 70, 49, 50, 70, 49, 70, 49, 50, 70, 69, 49, 70, 49, 54, 67, 49, 70, 49, 55, 49, 69, 49, 70, 49, 55, 69, 49, 70, 49, 55, 70, 69, 49, 70, 49, 56, 69, 49, 70, 49, 56, 69, 69, 49, 70, 49, 57, 49, 49, 70, 49, 57, 65, 69, 49, 70, 49, 65, 68, 49, 70, 49, 69, 53, 69, 49, 70, 49, 69, 54, 49, 70, 49, 70, 70, 54, 49, 70, 50, 48, 49, 49, 70, 50, 48, 70, 69, 49, 70, 50, 49, 65, 49, 70, 50, 49, 65, 69, 49, 70, 50, 50, 70, 49, 70, 50, 50, 70, 69, 49, 70, 50, 51, 50, 49, 70, 50, 51, 65, 69, 49, 70, 50, 51, 67, 49, 70, 50, 51, 70, 69, 49, 70, 50, 52, 57, 49, 70, 51, 70, 65, 69, 49, 70, 51, 70, 66, 49, 70, 51, 70, 70, 52, 49, 70, 52, 48, 48, 49, 70, 53, 51, 68, 69, 49, 70, 53, 52, 54, 49, 70, 54, 52, 70, 69, 49, 70, 54, 56, 48, 49, 70, 54, 70, 70, 69, 49, 70, 55, 55, 52, 49, 70, 55, 55, 70, 69, 49, 70, 55, 68, 53, 49, 70, 55, 70, 70, 69, 49, 70, 56, 48, 67, 49, 70, 56, 48, 70, 69, 49, 70, 56, 52, 56, 49, 70, 56, 52, 70, 69, 49, 70, 56, 53, 65, 49, 70, 56, 53, 70, 69, 49, 70, 56, 56, 56, 49, 70, 56, 56, 70, 69, 49, 70, 56, 65, 69, 49, 70, 56, 70, 70, 69, 49, 70, 57, 48, 67, 49, 70, 57, 51, 65, 69, 49, 70, 57, 51, 67, 49, 70, 57, 52, 53, 69, 49, 70, 57, 52, 55, 49, 70, 65, 70, 70, 69, 49, 70, 67, 48, 48, 49, 70, 70, 70, 68, 69, 69, 48, 48, 48, 48, 69, 48, 48, 49, 70, 51, 69, 48, 48, 50, 48, 69, 48, 48, 55, 70, 52, 69, 48, 48, 56, 48, 69, 48, 48, 70, 70, 51, 69, 48, 49, 48, 48, 69, 48, 49, 69, 70, 52, 69, 48, 49, 70, 48, 69, 48, 70, 70, 70, 51] }
def bs_94cae01e : ByteArray := { data := #[48, 48, 48, 48, 57, 48, 48, 48, 48, 68, 49, 48, 48, 48, 50, 48, 48, 48, 48, 50, 48, 49, 48, 48, 48, 51, 48, 48, 48, 48, 51, 57, 50, 48, 48, 48, 52, 49, 48, 48, 48, 53, 65, 50, 48, 48, 48, 53, 70, 48, 48, 48, 53, 70, 50, 48, 48, 48, 54, 49, 48, 48, 48, 55, 65, 50, 48, 48, 48, 56, 53, 48, 48, 48, 56, 53, 49, 48, 48, 48, 65, 48, 48, 48, 48, 65, 48, 49, 48, 48, 48, 65, 65, 48, 48, 48, 65, 65, 50, 48, 48, 48, 66, 53, 48, 48, 48, 66, 53, 50, 48, 48, 48, 66, 65, 48, 48, 48, 66, 65, 50, 48, 48, 48, 67, 48, 48, 48, 48, 68, 54, 50, 48, 48, 48, 68, 56, 48, 48, 48, 70, 54, 50, 48, 48, 48, 70, 56, 48, 48, 50, 67, 49, 50, 48, 48, 51, 48, 48, 48, 48, 51, 55, 52, 50, 48, 48, 51, 55, 54, 48, 48, 51, 55, 68, 50, 48, 48, 51, 55, 70, 48, 48, 51, 55, 70, 50, 48, 48, 51, 56, 54, 48, 48, 51, 56, 54, 50, 48, 48, 51, 56, 56, 48, 48, 51, 70, 53, 50, 48, 48, 51, 70, 55, 48, 48, 52, 56, 49, 50, 48, 48, 52, 56, 51, 48, 48, 53, 50, 70, 50, 48, 48, 53, 51, 49, 48, 48, 53, 53, 54, 50, 48, 48, 53, 54, 48, 48, 48, 53, 56, 56, 50, 48, 48, 53, 57, 49, 48, 48, 53, 66, 68, 50, 48, 48, 53, 68, 48, 48, 48, 53, 69, 65, 50, 48, 48, 54, 49, 48, 48, 48, 54, 49, 65, 50, 48, 48, 54, 50, 48, 48, 48, 54, 54, 57, 50, 48, 48, 54, 54, 69, 48, 48, 54, 68, 51, 50, 48, 48, 54, 68, 53, 48, 48, 54, 68, 67, 50, 48, 48, 54, 68, 70, 48, 48, 54, 69, 56, 50, 48, 48, 54, 69, 65, 48, 48, 54, 70, 67, 50, 48, 48, 55, 49, 48, 48, 48, 55, 52, 65, 50, 48, 48, 57, 48, 48, 48, 48, 57, 54, 51, 50, 48, 48, 57, 54, 54, 48, 48, 57, 54, 70, 50, 48, 48, 57, 55, 49, 48, 48, 68, 70, 51, 50, 48, 48, 69, 48, 49, 48, 48, 69, 51, 65, 50, 48, 48, 69, 52, 48, 48, 48, 69, 52, 69, 50, 48, 48, 69, 53, 48, 48, 48, 69, 53, 57, 50, 48, 48, 69, 56, 49, 48, 48, 69, 68, 70, 50, 48, 48, 70, 49, 56, 48, 48, 70, 51, 57, 50, 48, 48, 70, 52, 48, 48, 48, 70, 56, 52, 50, 48, 48, 70, 57, 48, 48, 48, 70, 66, 67, 50, 48, 49, 48, 48, 48, 48, 49, 48, 52, 57, 50, 48, 49, 48, 53, 48, 48, 49, 48, 57, 68, 50, 48, 49, 48, 65, 48, 48, 49, 48, 70, 65, 50, 48, 49, 48, 70, 67, 48, 49, 49, 70, 70, 50, 48, 49, 50, 48, 48, 48, 49, 51, 53, 70, 50, 48, 49, 54, 56, 48, 48, 49, 54, 56, 48, 49, 48, 49, 55, 56, 48, 48, 49, 55, 68, 51, 50, 48, 49, 69, 48, 48, 48, 49, 70, 70, 67, 50, 48, 50, 48, 48, 48, 48, 50, 48, 48, 65, 49, 48, 50, 48, 50, 56, 48, 50, 48, 50, 57, 49, 48, 50, 48, 50, 70, 48, 50, 48, 50, 70, 49, 48, 50, 48, 53, 70, 48, 50, 48, 53, 70, 49, 48, 50, 49, 50, 54, 48, 50, 49, 50, 54, 50, 48, 50, 49, 50, 65, 48, 50, 49, 50, 66, 50, 48, 50, 49, 54, 48, 48, 50, 49, 56, 56, 50, 48, 51, 48, 48, 48, 48, 51, 48, 48, 48, 49, 48, 51, 48, 48, 53, 48, 51, 48, 48, 55, 50, 48, 51, 48, 50, 49, 48, 51, 48, 50, 70, 50, 48, 51, 48, 52, 49, 48, 51, 48, 57, 54, 50, 48, 51, 48, 57, 57, 48, 51, 48, 57, 65, 50, 48, 51, 48, 57, 68, 48, 51, 48, 57, 70, 50, 48, 51, 48, 65, 49, 48, 51, 48, 70, 65, 50, 48, 51, 48, 70, 67, 48, 51, 48, 70, 70, 50, 48, 51, 49, 48, 53, 48, 51, 49, 50, 70, 50, 48, 51, 49, 51, 49, 48, 51, 49, 56, 69, 50, 48, 51, 52, 48, 48, 48, 52, 68, 66, 70, 50, 48, 52, 69, 48, 48, 48, 57, 70, 70, 70, 50, 48, 65, 57, 54, 48, 48, 65, 57, 55, 67, 50, 48, 65, 67, 48, 48, 48, 68, 55, 65, 51, 50, 48, 68, 55, 66, 48, 48, 68, 55, 70, 66, 50, 48, 70, 57, 48, 48, 48, 70, 65, 70, 70, 50, 48, 70, 66, 49, 68, 48, 70, 66, 52, 70, 50, 48, 70, 70, 49, 48, 48, 70, 70, 49, 57, 50, 48, 70, 70, 50, 49, 48, 70, 70, 51, 65, 50, 48, 70, 70, 52, 49, 48, 70, 70, 53, 65, 50, 48, 70, 70, 54, 54, 48, 70, 70, 68, 67, 50, 49, 48, 52, 48, 48, 49, 48, 52, 52, 70, 50, 50, 48, 48, 48, 48, 50, 70, 65, 49, 70, 50, 51, 48, 48, 48, 48, 51, 50, 51, 65, 70, 50] }
abbrev c24 : List Cell := [.int .i64, .sl]
abbrev c28 : List Cell := [.ptr, .sl]
abbrev c34 : List Cell := [.int .i64, .int .i64, .int .i64]
abbrev c39 : List Cell := [.int .i64, .int .i64, .int .i64]
abbrev c43 : List Cell := [.int .i64, .int .i64, .int .i64, .int .i64, .int .i64, .int .i64, .sl]
abbrev c72 : List Cell := [.int .i64, .int .i64, .int .i64, .bool, .int .i64]
abbrev c83 : List Cell := [.int .i64, .int .i64, .sl]
abbrev c89 : List Cell := [.int .i64, .any]
abbrev c100 : List Cell := [.int .i64, .int .i64, .int .i64, .int .i64]
abbrev c105 : List Cell := [.ptr]
abbrev c107 : List Cell := [.int .i64, .int .i64, .ptr, .sl]
abbrev c110 : List Cell := [.int .i64, .int .i64, .int .i64, .bool, .bool]
abbrev c112 : List Cell := [.sl, .int .i64, .int .i64, .int .i64, .int .i64, .bool, .bool]
abbrev c144 : List Cell := [.ptr, .ptr, .sl, .int .i64, .int .i64, .int .i64, .int .i64, .bool, .bool, .int .i64, .int .i64, .int .i64, .int .i64, .int .i64, .bool, .bool]
abbrev c149 : List Cell := [.int .i64, .int .i64, .int .i64]
abbrev c163 : List Cell := []
abbrev c165 : List Cell := [.int .i64]
abbrev c166 : List Cell := []
abbrev c169 : List Cell := [.int .i64, .int .i64, .int .i64, .int .i64]
abbrev c174 : List Cell := [.int .i64, .int .i64, .int .i64, .int .i64]
abbrev c180 : List Cell := [.int .i64, .int .i64, .int .i64]
abbrev c192 : List Cell := [.int .i64, .int .i64, .int .i64, .int .i64, .int .i64]
abbrev c224 : List Cell := [.int .u8, .int .u8, .int .u8, .int .u8, .int .u8]
abbrev c227 : List Cell := [.int .u8, .int .u8]
noncomputable def i0 : Inf := ⟨Tryz.t0.desc, Tryz.t0.size, Tryz.t0.bytes, Tryz.t0.zero, (.one .any), (.tup [])⟩
theorem i0_ok : InfOk Tryz.prog 0 i0 := ⟨by kernel_rfl, by kernel_rfl, by kernel_rfl⟩
noncomputable def i3 : Inf := ⟨Tryz.t3.desc, Tryz.t3.size, Tryz.t3.bytes, Tryz.t3.zero, (.one (.int .i64)), (.one (.one (.int .i64)))⟩
theorem i3_ok : InfOk Tryz.prog 3 i3 := ⟨by kernel_rfl, by kernel_rfl, by kernel_rfl⟩
noncomputable def i4 : Inf := ⟨Tryz.t4.desc, Tryz.t4.size, Tryz.t4.bytes, Tryz.t4.zero, (.one .bool), (.one (.one .bool))⟩
theorem i4_ok : InfOk Tryz.prog 4 i4 := ⟨by kernel_rfl, by kernel_rfl, by kernel_rfl⟩
noncomputable def i5 : Inf := ⟨Tryz.t5.desc, Tryz.t5.size, Tryz.t5.bytes, Tryz.t5.zero, (.one (.int .u8)), (.one (.one (.int .u8)))⟩
theorem i5_ok : InfOk Tryz.prog 5 i5 := ⟨by kernel_rfl, by kernel_rfl, by kernel_rfl⟩
noncomputable def i9 : Inf := ⟨Tryz.t9.desc, Tryz.t9.size, Tryz.t9.bytes, Tryz.t9.zero, (.one .str), (.one (.one .str))⟩
theorem i9_ok : InfOk Tryz.prog 9 i9 := ⟨by kernel_rfl, by kernel_rfl, by kernel_rfl⟩
noncomputable def i21 : Inf := ⟨Tryz.t21.desc, Tryz.t21.size, Tryz.t21.bytes, Tryz.t21.zero, (.one (.int .i32)), (.one (.one (.int .i32)))⟩
theorem i21_ok : InfOk Tryz.prog 21 i21 := ⟨by kernel_rfl, by kernel_rfl, by kernel_rfl⟩
noncomputable def i22 : Inf := ⟨Tryz.t22.desc, Tryz.t22.size, Tryz.t22.bytes, Tryz.t22.zero, (.one .sl), (.one (.one .sl))⟩
theorem i22_ok : InfOk Tryz.prog 22 i22 := ⟨by kernel_rfl, by kernel_rfl, by kernel_rfl⟩
noncomputable def i24 : Inf := ⟨Tryz.t23.desc, Tryz.t24.size, Tryz.t24.bytes, Tryz.t24.zero, (.agg c24), (.one (.agg c24))⟩
theorem i24_ok : InfOk Tryz.prog 24 i24 := ⟨by kernel_rfl, by kernel_rfl, by kernel_rfl⟩
noncomputable def i25 : Inf := ⟨Tryz.t25.desc, Tryz.t25.size, Tryz.t25.bytes, Tryz.t25.zero, (.one .ptr), (.one (.one .ptr))⟩
theorem i25_ok : InfOk Tryz.prog 25 i25 := ⟨by kernel_rfl, by kernel_rfl, by kernel_rfl⟩
noncomputable def i26 : Inf := ⟨Tryz.t26.desc, Tryz.t26.size, Tryz.t26.bytes, Tryz.t26.zero, (.one .sl), (.one (.one .sl))⟩
theorem i26_ok : InfOk Tryz.prog 26 i26 := ⟨by kernel_rfl, by kernel_rfl, by kernel_rfl⟩
noncomputable def i28 : Inf := ⟨Tryz.t27.desc, Tryz.t28.size, Tryz.t28.bytes, Tryz.t28.zero, (.agg c28), (.one (.agg c28))⟩
theorem i28_ok : InfOk Tryz.prog 28 i28 := ⟨by kernel_rfl, by kernel_rfl, by kernel_rfl⟩
noncomputable def i29 : Inf := ⟨Tryz.t29.desc, Tryz.t29.size, Tryz.t29.bytes, Tryz.t29.zero, (.one .any), (.tup [(.agg c28), (.one .bool)])⟩
theorem i29_ok : InfOk Tryz.prog 29 i29 := ⟨by kernel_rfl, by kernel_rfl, by kernel_rfl⟩
noncomputable def i34 : Inf := ⟨Tryz.t33.desc, Tryz.t34.size, Tryz.t34.bytes, Tryz.t34.zero, (.agg c34), (.one (.agg c34))⟩
theorem i34_ok : InfOk Tryz.prog 34 i34 := ⟨by kernel_rfl, by kernel_rfl, by kernel_rfl⟩
noncomputable def i35 : Inf := ⟨Tryz.t3.desc, Tryz.t35.size, Tryz.t35.bytes, Tryz.t35.zero, (.one (.int .i64)), (.one (.one (.int .i64)))⟩
theorem i35_ok : InfOk Tryz.prog 35 i35 := ⟨by kernel_rfl, by kernel_rfl, by kernel_rfl⟩
noncomputable def i36 : Inf := ⟨Tryz.t36.desc, Tryz.t36.size, Tryz.t36.bytes, Tryz.t36.zero, (.one .any), (.tup [(.agg c34), (.one (.int .i64))])⟩
theorem i36_ok : InfOk Tryz.prog 36 i36 := ⟨by kernel_rfl, by kernel_rfl, by kernel_rfl⟩
noncomputable def i39 : Inf := ⟨Tryz.t38.desc, Tryz.t39.size, Tryz.t39.bytes, Tryz.t39.zero, (.agg c39), (.one (.agg c39))⟩
theorem i39_ok : InfOk Tryz.prog 39 i39 := ⟨by kernel_rfl, by kernel_rfl, by kernel_rfl⟩
noncomputable def i41 : Inf := ⟨Tryz.t41.desc, Tryz.t41.size, Tryz.t41.bytes, Tryz.t41.zero, (.one .sl), (.one (.one .sl))⟩
theorem i41_ok : InfOk Tryz.prog 41 i41 := ⟨by kernel_rfl, by kernel_rfl, by kernel_rfl⟩
noncomputable def i43 : Inf := ⟨Tryz.t42.desc, Tryz.t43.size, Tryz.t43.bytes, Tryz.t43.zero, (.agg c43), (.one (.agg c43))⟩
theorem i43_ok : InfOk Tryz.prog 43 i43 := ⟨by kernel_rfl, by kernel_rfl, by kernel_rfl⟩
noncomputable def i54 : Inf := ⟨Tryz.t54.desc, Tryz.t54.size, Tryz.t54.bytes, Tryz.t54.zero, (.one .sl), (.one (.one .sl))⟩
theorem i54_ok : InfOk Tryz.prog 54 i54 := ⟨by kernel_rfl, by kernel_rfl, by kernel_rfl⟩
noncomputable def i60 : Inf := ⟨Tryz.t60.desc, Tryz.t60.size, Tryz.t60.bytes, Tryz.t60.zero, (.one .any), (.tup [(.one .sl), (.one (.int .i64))])⟩
theorem i60_ok : InfOk Tryz.prog 60 i60 := ⟨by kernel_rfl, by kernel_rfl, by kernel_rfl⟩
noncomputable def i62 : Inf := ⟨Tryz.t62.desc, Tryz.t62.size, Tryz.t62.bytes, Tryz.t62.zero, (.one .any), (.tup [(.one .ptr), (.one (.int .i64))])⟩
theorem i62_ok : InfOk Tryz.prog 62 i62 := ⟨by kernel_rfl, by kernel_rfl, by kernel_rfl⟩
noncomputable def i66 : Inf := ⟨Tryz.t66.desc, Tryz.t66.size, Tryz.t66.bytes, Tryz.t66.zero, (.one .any), (.tup [(.one (.int .i64)), (.one .bool)])⟩
theorem i66_ok : InfOk Tryz.prog 66 i66 := ⟨by kernel_rfl, by kernel_rfl, by kernel_rfl⟩
noncomputable def i68 : Inf := ⟨Tryz.t68.desc, Tryz.t68.size, Tryz.t68.bytes, Tryz.t68.zero, (.one .sl), (.one (.one .sl))⟩
theorem i68_ok : InfOk Tryz.prog 68 i68 := ⟨by kernel_rfl, by kernel_rfl, by kernel_rfl⟩
noncomputable def i72 : Inf := ⟨Tryz.t71.desc, Tryz.t72.size, Tryz.t72.bytes, Tryz.t72.zero, (.agg c72), (.one (.agg c72))⟩
theorem i72_ok : InfOk Tryz.prog 72 i72 := ⟨by kernel_rfl, by kernel_rfl, by kernel_rfl⟩
noncomputable def i79 : Inf := ⟨Tryz.t79.desc, Tryz.t79.size, Tryz.t79.bytes, Tryz.t79.zero, (.one .any), (.one (.one .any))⟩
theorem i79_ok : InfOk Tryz.prog 79 i79 := ⟨by kernel_rfl, by kernel_rfl, by kernel_rfl⟩
noncomputable def i83 : Inf := ⟨Tryz.t82.desc, Tryz.t83.size, Tryz.t83.bytes, Tryz.t83.zero, (.agg c83), (.one (.agg c83))⟩
theorem i83_ok : InfOk Tryz.prog 83 i83 := ⟨by kernel_rfl, by kernel_rfl, by kernel_rfl⟩
noncomputable def i84 : Inf := ⟨Tryz.t84.desc, Tryz.t84.size, Tryz.t84.bytes, Tryz.t84.zero, (.one .sl), (.one (.one .sl))⟩
theorem i84_ok : InfOk Tryz.prog 84 i84 := ⟨by kernel_rfl, by kernel_rfl, by kernel_rfl⟩
noncomputable def i85 : Inf := ⟨Tryz.t85.desc, Tryz.t85.size, Tryz.t85.bytes, Tryz.t85.zero, (.one .any), (.tup [(.one .sl), (.one (.int .i64))])⟩
theorem i85_ok : InfOk Tryz.prog 85 i85 := ⟨by kernel_rfl, by kernel_rfl, by kernel_rfl⟩
noncomputable def i87 : Inf := ⟨Tryz.t87.desc, Tryz.t87.size, Tryz.t87.bytes, Tryz.t87.zero, (.one .any), (.one (.one .any))⟩
theorem i87_ok : InfOk Tryz.prog 87 i87 := ⟨by kernel_rfl, by kernel_rfl, by kernel_rfl⟩
noncomputable def i89 : Inf := ⟨Tryz.t88.desc, Tryz.t89.size, Tryz.t89.bytes, Tryz.t89.zero, (.agg c89), (.one (.agg c89))⟩
theorem i89_ok : InfOk Tryz.prog 89 i89 := ⟨by kernel_rfl, by kernel_rfl, by kernel_rfl⟩
noncomputable def i91 : Inf := ⟨Tryz.t91.desc, Tryz.t91.size, Tryz.t91.bytes, Tryz.t91.zero, (.one .any), (.tup [(.one (.int .i64)), (.one (.int .i64)), (.one .bool)])⟩
theorem i91_ok : InfOk Tryz.prog 91 i91 := ⟨by kernel_rfl, by kernel_rfl, by kernel_rfl⟩
noncomputable def i95 : Inf := ⟨Tryz.t95.desc, Tryz.t95.size, Tryz.t95.bytes, Tryz.t95.zero, (.one .sl), (.one (.one .sl))⟩
theorem i95_ok : InfOk Tryz.prog 95 i95 := ⟨by kernel_rfl, by kernel_rfl, by kernel_rfl⟩
noncomputable def i97 : Inf := ⟨Tryz.t96.desc, Tryz.t97.size, Tryz.t97.bytes, Tryz.t97.zero, (.one .any), (.one (.one .any))⟩
theorem i97_ok : InfOk Tryz.prog 97 i97 := ⟨by kernel_rfl, by kernel_rfl, by kernel_rfl⟩
noncomputable def i100 : Inf := ⟨Tryz.t99.desc, Tryz.t100.size, Tryz.t100.bytes, Tryz.t100.zero, (.agg c100), (.one (.agg c100))⟩
theorem i100_ok : InfOk Tryz.prog 100 i100 := ⟨by kernel_rfl, by kernel_rfl, by kernel_rfl⟩
noncomputable def i101 : Inf := ⟨Tryz.t101.desc, Tryz.t101.size, Tryz.t101.bytes, Tryz.t101.zero, (.one .any), (.tup [(.one (.int .i64)), (.one (.int .i64))])⟩
theorem i101_ok : InfOk Tryz.prog 101 i101 := ⟨by kernel_rfl, by kernel_rfl, by kernel_rfl⟩
noncomputable def i103 : Inf := ⟨Tryz.t103.desc, Tryz.t103.size, Tryz.t103.bytes, Tryz.t103.zero, (.one .ptr), (.one (.one .ptr))⟩
theorem i103_ok : InfOk Tryz.prog 103 i103 := ⟨by kernel_rfl, by kernel_rfl, by kernel_rfl⟩
noncomputable def i105 : Inf := ⟨Tryz.t104.desc, Tryz.t105.size, Tryz.t105.bytes, Tryz.t105.zero, (.agg c105), (.one (.agg c105))⟩
theorem i105_ok : InfOk Tryz.prog 105 i105 := ⟨by kernel_rfl, by kernel_rfl, by kernel_rfl⟩
noncomputable def i107 : Inf := ⟨Tryz.t106.desc, Tryz.t107.size, Tryz.t107.bytes, Tryz.t107.zero, (.agg c107), (.one (.agg c107))⟩
theorem i107_ok : InfOk Tryz.prog 107 i107 := ⟨by kernel_rfl, by kernel_rfl, by kernel_rfl⟩
noncomputable def i108 : Inf := ⟨Tryz.t108.desc, Tryz.t108.size, Tryz.t108.bytes, Tryz.t108.zero, (.one .sl), (.one (.one .sl))⟩
theorem i108_ok : InfOk Tryz.prog 108 i108 := ⟨by kernel_rfl, by kernel_rfl, by kernel_rfl⟩
noncomputable def i110 : Inf := ⟨Tryz.t109.desc, Tryz.t110.size, Tryz.t110.bytes, Tryz.t110.zero, (.agg c110), (.one (.agg c110))⟩
theorem i110_ok : InfOk Tryz.prog 110 i110 := ⟨by kernel_rfl, by kernel_rfl, by kernel_rfl⟩
noncomputable def i112 : Inf := ⟨Tryz.t111.desc, Tryz.t112.size, Tryz.t112.bytes, Tryz.t112.zero, (.agg c112), (.one (.agg c112))⟩
theorem i112_ok : InfOk Tryz.prog 112 i112 := ⟨by kernel_rfl, by kernel_rfl, by kernel_rfl⟩
noncomputable def i117 : Inf := ⟨Tryz.t117.desc, Tryz.t117.size, Tryz.t117.bytes, Tryz.t117.zero, (.one .any), (.tup [(.agg c100), (.one (.int .i64))])⟩
theorem i117_ok : InfOk Tryz.prog 117 i117 := ⟨by kernel_rfl, by kernel_rfl, by kernel_rfl⟩
noncomputable def i122 : Inf := ⟨Tryz.t121.desc, Tryz.t122.size, Tryz.t122.bytes, Tryz.t122.zero, (.one .any), (.one (.one .any))⟩
theorem i122_ok : InfOk Tryz.prog 122 i122 := ⟨by kernel_rfl, by kernel_rfl, by kernel_rfl⟩
noncomputable def i132 : Inf := ⟨Tryz.t131.desc, Tryz.t132.size, Tryz.t132.bytes, Tryz.t132.zero, (.one .any), (.one (.one .any))⟩
theorem i132_ok : InfOk Tryz.prog 132 i132 := ⟨by kernel_rfl, by kernel_rfl, by kernel_rfl⟩
noncomputable def i139 : Inf := ⟨Tryz.t139.desc, Tryz.t139.size, Tryz.t139.bytes, Tryz.t139.zero, (.one .any), (.tup [(.agg c112), (.one .bool)])⟩
theorem i139_ok : InfOk Tryz.prog 139 i139 := ⟨by kernel_rfl, by kernel_rfl, by kernel_rfl⟩
noncomputable def i144 : Inf := ⟨Tryz.t143.desc, Tryz.t144.size, Tryz.t144.bytes, Tryz.t144.zero, (.agg c144), (.one (.agg c144))⟩
theorem i144_ok : InfOk Tryz.prog 144 i144 := ⟨by kernel_rfl, by kernel_rfl, by kernel_rfl⟩
noncomputable def i146 : Inf := ⟨Tryz.t146.desc, Tryz.t146.size, Tryz.t146.bytes, Tryz.t146.zero, (.one .any), (.one (.one .any))⟩
theorem i146_ok : InfOk Tryz.prog 146 i146 := ⟨by kernel_rfl, by kernel_rfl, by kernel_rfl⟩
noncomputable def i147 : Inf := ⟨Tryz.t147.desc, Tryz.t147.size, Tryz.t147.bytes, Tryz.t147.zero, (.one .any), (.one (.one .any))⟩
theorem i147_ok : InfOk Tryz.prog 147 i147 := ⟨by kernel_rfl, by kernel_rfl, by kernel_rfl⟩
noncomputable def i149 : Inf := ⟨Tryz.t33.desc, Tryz.t149.size, Tryz.t149.bytes, Tryz.t149.zero, (.agg c149), (.one (.agg c149))⟩
theorem i149_ok : InfOk Tryz.prog 149 i149 := ⟨by kernel_rfl, by kernel_rfl, by kernel_rfl⟩
noncomputable def i150 : Inf := ⟨Tryz.t150.desc, Tryz.t150.size, Tryz.t150.bytes, Tryz.t150.zero, (.one .any), (.tup [(.agg c149), (.one (.int .i64))])⟩
theorem i150_ok : InfOk Tryz.prog 150 i150 := ⟨by kernel_rfl, by kernel_rfl, by kernel_rfl⟩
noncomputable def i154 : Inf := ⟨Tryz.t154.desc, Tryz.t154.size, Tryz.t154.bytes, Tryz.t154.zero, (.one .any), (.tup [(.agg c112), (.agg c112)])⟩
theorem i154_ok : InfOk Tryz.prog 154 i154 := ⟨by kernel_rfl, by kernel_rfl, by kernel_rfl⟩
noncomputable def i157 : Inf := ⟨Tryz.t157.desc, Tryz.t157.size, Tryz.t157.bytes, Tryz.t157.zero, (.one .any), (.tup [(.agg c105), (.one (.int .i64))])⟩
theorem i157_ok : InfOk Tryz.prog 157 i157 := ⟨by kernel_rfl, by kernel_rfl, by kernel_rfl⟩
noncomputable def i163 : Inf := ⟨Tryz.t162.desc, Tryz.t163.size, Tryz.t163.bytes, Tryz.t163.zero, (.agg c163), (.one (.agg c163))⟩
theorem i163_ok : InfOk Tryz.prog 163 i163 := ⟨by kernel_rfl, by kernel_rfl, by kernel_rfl⟩
noncomputable def i165 : Inf := ⟨Tryz.t164.desc, Tryz.t165.size, Tryz.t165.bytes, Tryz.t165.zero, (.agg c165), (.one (.agg c165))⟩
theorem i165_ok : InfOk Tryz.prog 165 i165 := ⟨by kernel_rfl, by kernel_rfl, by kernel_rfl⟩
noncomputable def i166 : Inf := ⟨Tryz.t162.desc, Tryz.t166.size, Tryz.t166.bytes, Tryz.t166.zero, (.agg c166), (.one (.agg c166))⟩
theorem i166_ok : InfOk Tryz.prog 166 i166 := ⟨by kernel_rfl, by kernel_rfl, by kernel_rfl⟩
noncomputable def i169 : Inf := ⟨Tryz.t168.desc, Tryz.t169.size, Tryz.t169.bytes, Tryz.t169.zero, (.agg c169), (.one (.agg c169))⟩
theorem i169_ok : InfOk Tryz.prog 169 i169 := ⟨by kernel_rfl, by kernel_rfl, by kernel_rfl⟩
noncomputable def i172 : Inf := ⟨Tryz.t172.desc, Tryz.t172.size, Tryz.t172.bytes, Tryz.t172.zero, (.one .sl), (.one (.one .sl))⟩
theorem i172_ok : InfOk Tryz.prog 172 i172 := ⟨by kernel_rfl, by kernel_rfl, by kernel_rfl⟩
noncomputable def i174 : Inf := ⟨Tryz.t99.desc, Tryz.t174.size, Tryz.t174.bytes, Tryz.t174.zero, (.agg c174), (.one (.agg c174))⟩
theorem i174_ok : InfOk Tryz.prog 174 i174 := ⟨by kernel_rfl, by kernel_rfl, by kernel_rfl⟩
noncomputable def i180 : Inf := ⟨Tryz.t179.desc, Tryz.t180.size, Tryz.t180.bytes, Tryz.t180.zero, (.agg c180), (.one (.agg c180))⟩
theorem i180_ok : InfOk Tryz.prog 180 i180 := ⟨by kernel_rfl, by kernel_rfl, by kernel_rfl⟩
noncomputable def i187 : Inf := ⟨Tryz.t187.desc, Tryz.t187.size, Tryz.t187.bytes, Tryz.t187.zero, (.one .any), (.tup [(.one .sl), (.one (.int .i64)), (.one (.int .i64))])⟩
theorem i187_ok : InfOk Tryz.prog 187 i187 := ⟨by kernel_rfl, by kernel_rfl, by kernel_rfl⟩
noncomputable def i189 : Inf := ⟨Tryz.t189.desc, Tryz.t189.size, Tryz.t189.bytes, Tryz.t189.zero, (.one .any), (.tup [(.one .ptr), (.one .ptr)])⟩
theorem i189_ok : InfOk Tryz.prog 189 i189 := ⟨by kernel_rfl, by kernel_rfl, by kernel_rfl⟩
noncomputable def i192 : Inf := ⟨Tryz.t192.desc, Tryz.t192.size, Tryz.t192.bytes, Tryz.t192.zero, (.agg c192), (.one (.agg c192))⟩
theorem i192_ok : InfOk Tryz.prog 192 i192 := ⟨by kernel_rfl, by kernel_rfl, by kernel_rfl⟩
noncomputable def i196 : Inf := ⟨Tryz.t196.desc, Tryz.t196.size, Tryz.t196.bytes, Tryz.t196.zero, (.one .any), (.tup [(.agg c174), (.one (.int .i64))])⟩
theorem i196_ok : InfOk Tryz.prog 196 i196 := ⟨by kernel_rfl, by kernel_rfl, by kernel_rfl⟩
noncomputable def i199 : Inf := ⟨Tryz.t199.desc, Tryz.t199.size, Tryz.t199.bytes, Tryz.t199.zero, (.one .sl), (.one (.one .sl))⟩
theorem i199_ok : InfOk Tryz.prog 199 i199 := ⟨by kernel_rfl, by kernel_rfl, by kernel_rfl⟩
noncomputable def i200 : Inf := ⟨Tryz.t200.desc, Tryz.t200.size, Tryz.t200.bytes, Tryz.t200.zero, (.one .any), (.tup [(.one .sl), (.one (.int .i64))])⟩
theorem i200_ok : InfOk Tryz.prog 200 i200 := ⟨by kernel_rfl, by kernel_rfl, by kernel_rfl⟩
noncomputable def i204 : Inf := ⟨Tryz.t204.desc, Tryz.t204.size, Tryz.t204.bytes, Tryz.t204.zero, (.one .any), (.tup [(.agg c112), (.one .ptr)])⟩
theorem i204_ok : InfOk Tryz.prog 204 i204 := ⟨by kernel_rfl, by kernel_rfl, by kernel_rfl⟩
noncomputable def i224 : Inf := ⟨Tryz.t224.desc, Tryz.t224.size, Tryz.t224.bytes, Tryz.t224.zero, (.agg c224), (.one (.agg c224))⟩
theorem i224_ok : InfOk Tryz.prog 224 i224 := ⟨by kernel_rfl, by kernel_rfl, by kernel_rfl⟩
noncomputable def i225 : Inf := ⟨Tryz.t225.desc, Tryz.t225.size, Tryz.t225.bytes, Tryz.t225.zero, (.one .any), (.tup [(.one (.int .i64)), (.one (.int .u8)), (.one (.int .u8))])⟩
theorem i225_ok : InfOk Tryz.prog 225 i225 := ⟨by kernel_rfl, by kernel_rfl, by kernel_rfl⟩
noncomputable def i227 : Inf := ⟨Tryz.t227.desc, Tryz.t227.size, Tryz.t227.bytes, Tryz.t227.zero, (.agg c227), (.one (.agg c227))⟩
theorem i227_ok : InfOk Tryz.prog 227 i227 := ⟨by kernel_rfl, by kernel_rfl, by kernel_rfl⟩
noncomputable def tab : Tab := ⟨[(0, i0), (3, i3), (4, i4), (5, i5), (9, i9), (21, i21), (22, i22), (24, i24), (25, i25), (26, i26), (28, i28), (29, i29), (34, i34), (35, i35), (36, i36), (39, i39), (41, i41), (43, i43), (54, i54), (60, i60), (62, i62), (66, i66), (68, i68), (72, i72), (79, i79), (83, i83), (84, i84), (85, i85), (87, i87), (89, i89), (91, i91), (95, i95), (97, i97), (100, i100), (101, i101), (103, i103), (105, i105), (107, i107), (108, i108), (110, i110), (112, i112), (117, i117), (122, i122), (132, i132), (139, i139), (144, i144), (146, i146), (147, i147), (149, i149), (150, i150), (154, i154), (157, i157), (163, i163), (165, i165), (166, i166), (169, i169), (172, i172), (174, i174), (180, i180), (187, i187), (189, i189), (192, i192), (196, i196), (199, i199), (200, i200), (204, i204), (224, i224), (225, i225), (227, i227)], [16, 17, 18, 19, 20, 21, 22, 23, 24, 25, 26, 27, 28, 29, 30, 31, 32, 33, 34, 35, 36, 37, 38, 39, 40, 41, 42, 43, 44, 45, 46, 47, 49, 50, 51, 55, 57, 58, 59, 61, 62, 63, 64, 65, 66, 67, 68, 69, 70, 71, 72, 73, 74, 75, 76, 77, 78, 79, 80, 81, 83, 84, 85, 86, 87, 88, 89, 90, 91, 92, 93, 95, 96, 97, 98, 102, 103, 104, 105, 106, 107, 108, 109, 110, 111, 112, 113, 114, 115, 116, 117, 118, 119, 120, 121, 122, 123, 124, 125, 126, 127, 128, 129, 130, 131, 132, 133, 134, 135, 136, 137, 138, 139, 140, 142, 143, 144, 145, 146, 147, 148, 149, 150, 151, 152, 153, 154, 155, 156, 157, 158, 159, 160, 161, 162, 163, 164, 165, 166, 167, 168, 169, 170, 171, 172, 198, 199, 200, 206, 207, 208, 209]⟩
theorem fnsOk : FnsOk Tryz.prog [16, 17, 18, 19, 20, 21, 22, 23, 24, 25, 26, 27, 28, 29, 30, 31, 32, 33, 34, 35, 36, 37, 38, 39, 40, 41, 42, 43, 44, 45, 46, 47, 49, 50, 51, 55, 57, 58, 59, 61, 62, 63, 64, 65, 66, 67, 68, 69, 70, 71, 72, 73, 74, 75, 76, 77, 78, 79, 80, 81, 83, 84, 85, 86, 87, 88, 89, 90, 91, 92, 93, 95, 96, 97, 98, 102, 103, 104, 105, 106, 107, 108, 109, 110, 111, 112, 113, 114, 115, 116, 117, 118, 119, 120, 121, 122, 123, 124, 125, 126, 127, 128, 129, 130, 131, 132, 133, 134, 135, 136, 137, 138, 139, 140, 142, 143, 144, 145, 146, 147, 148, 149, 150, 151, 152, 153, 154, 155, 156, 157, 158, 159, 160, 161, 162, 163, 164, 165, 166, 167, 168, 169, 170, 171, 172, 198, 199, 200, 206, 207, 208, 209] := ⟨by kernel_rfl, by kernel_rfl, by kernel_rfl, by kernel_rfl, by kernel_rfl, by kernel_rfl, by kernel_rfl, by kernel_rfl, by kernel_rfl, by kernel_rfl, by kernel_rfl, by kernel_rfl, by kernel_rfl, by kernel_rfl, by kernel_rfl, by kernel_rfl, by kernel_rfl, by kernel_rfl, by kernel_rfl, by kernel_rfl, by kernel_rfl, by kernel_rfl, by kernel_rfl, by kernel_rfl, by kernel_rfl, by kernel_rfl, by kernel_rfl, by kernel_rfl, by kernel_rfl, by kernel_rfl, by kernel_rfl, by kernel_rfl, by kernel_rfl, by kernel_rfl, by kernel_rfl, by kernel_rfl, by kernel_rfl, by kernel_rfl, by kernel_rfl, by kernel_rfl, by kernel_rfl, by kernel_rfl, by kernel_rfl, by kernel_rfl, by kernel_rfl, by kernel_rfl, by kernel_rfl, by kernel_rfl, by kernel_rfl, by kernel_rfl, by kernel_rfl, by kernel_rfl, by kernel_rfl, by kernel_rfl, by kernel_rfl, by kernel_rfl, by kernel_rfl, by kernel_rfl, by kernel_rfl, by kernel_rfl, by kernel_rfl, by kernel_rfl, by kernel_rfl, by kernel_rfl, by kernel_rfl, by kernel_rfl, by kernel_rfl, by kernel_rfl, by kernel_rfl, by kernel_rfl, by kernel_rfl, by kernel_rfl, by kernel_rfl, by kernel_rfl, by kernel_rfl, by kernel_rfl, by kernel_rfl, by kernel_rfl, by kernel_rfl, by kernel_rfl, by kernel_rfl, by kernel_rfl, by kernel_rfl, by kernel_rfl, by kernel_rfl, by kernel_rfl, by kernel_rfl, by kernel_rfl, by kernel_rfl, by kernel_rfl, by kernel_rfl, by kernel_rfl, by kernel_rfl, by kernel_rfl, by kernel_rfl, by kernel_rfl, by kernel_rfl, by kernel_rfl, by kernel_rfl, by kernel_rfl, by kernel_rfl, by kernel_rfl, by kernel_rfl, by kernel_rfl, by kernel_rfl, by kernel_rfl, by kernel_rfl, by kernel_rfl, by kernel_rfl, by kernel_rfl, by kernel_rfl, by kernel_rfl, by kernel_rfl, by kernel_rfl, by kernel_rfl, by kernel_rfl, by kernel_rfl, by kernel_rfl, by kernel_rfl, by kernel_rfl, by kernel_rfl, by kernel_rfl, by kernel_rfl, by kernel_rfl, by kernel_rfl, by kernel_rfl, by kernel_rfl, by kernel_rfl, by kernel_rfl, by kernel_rfl, by kernel_rfl, by kernel_rfl, by kernel_rfl, by kernel_rfl, by kernel_rfl, by kernel_rfl, by kernel_rfl, by kernel_rfl, by kernel_rfl, by kernel_rfl, by kernel_rfl, by kernel_rfl, by kernel_rfl, by kernel_rfl, by kernel_rfl, by kernel_rfl, by kernel_rfl, by kernel_rfl, by kernel_rfl, by kernel_rfl, by kernel_rfl, by kernel_rfl, trivial⟩
theorem tabOk : tab.Ok Tryz.prog := ⟨⟨i0_ok, i3_ok, i4_ok, i5_ok, i9_ok, i21_ok, i22_ok, i24_ok, i25_ok, i26_ok, i28_ok, i29_ok, i34_ok, i35_ok, i36_ok, i39_ok, i41_ok, i43_ok, i54_ok, i60_ok, i62_ok, i66_ok, i68_ok, i72_ok, i79_ok, i83_ok, i84_ok, i85_ok, i87_ok, i89_ok, i91_ok, i95_ok, i97_ok, i100_ok, i101_ok, i103_ok, i105_ok, i107_ok, i108_ok, i110_ok, i112_ok, i117_ok, i122_ok, i132_ok, i139_ok, i144_ok, i146_ok, i147_ok, i149_ok, i150_ok, i154_ok, i157_ok, i163_ok, i165_ok, i166_ok, i169_ok, i172_ok, i174_ok, i180_ok, i187_ok, i189_ok, i192_ok, i196_ok, i199_ok, i200_ok, i204_ok, i224_ok, i225_ok, i227_ok, trivial⟩, fnsOk, by kernel_rfl⟩
end Go.Proofs.YtabcpghhfeplaaaGreat
namespace Go.Proofs.YtabcpghhfeplaaaGreat
open Cdc
namespace Gly
structure Row where
 lo : Nat
 hi : Nat
 v : Nat
def digit (c : UInt8) : Nat := if 57 < c.toNat then c.toNat - 55 else c.toNat - 48
def num (l : Bs) : Nat := l.foldl (fun n c => n * 16 + digit c) 0
def okC (c : UInt8) : Bool := (Nat.ble 48 c.toNat && Nat.ble c.toNat 57) || (Nat.ble 65 c.toNat && Nat.ble c.toNat 70)
def rowsN : Nat → Bs → List Row
 | 0, _ => []
 | n + 1, l => ⟨num (l.take 5), num ((l.drop 5).take 5), num ((l.drop 10).take 1)⟩ :: rowsN n (l.drop 11)
def lkup : List Row → Nat → Nat
 | [], _ => 0
 | r :: t, a => bif Nat.ble r.lo a && Nat.ble a r.hi then r.v else lkup t a
def srt : Nat → List Row → Bool
 | _, [] => true
 | m, r :: t => Nat.ble m r.lo && (Nat.ble r.lo r.hi && srt (r.hi + 1) t)
theorem okC_iff (c : UInt8) : okC c = true ↔ (48 ≤ c.toNat ∧ c.toNat ≤ 57) ∨ (65 ≤ c.toNat ∧ c.toNat ≤ 70) := by
 simp [okC, Nat.ble_eq]
theorem rowsN_len : ∀ (n : Nat) (l : Bs), (rowsN n l).length = n
 | 0, _ => rfl
 | n + 1, l => by rw [rowsN, List.length_cons, rowsN_len]
theorem rowsN_get : ∀ (n : Nat) (l : Bs) (m : Nat), m < n → (rowsN n l)[m]? = some ⟨num ((l.drop (11 * m)).take 5), num ((l.drop (11 * m + 5)).take 5), num ((l.drop (11 * m + 10)).take 1)⟩
 | n + 1, l, 0, _ => by simp [rowsN]
 | n + 1, l, m + 1, h => by
  rw [rowsN, List.getElem?_cons_succ, rowsN_get n _ m (by omega)]
  simp only [List.drop_drop]
  rw [show 11 + 11 * m = 11 * (m + 1) by omega, show 11 + (11 * m + 5) = 11 * (m + 1) + 5 by omega, show 11 + (11 * m + 10) = 11 * (m + 1) + 10 by omega]
theorem srt_get : ∀ {T : List Row} {m : Nat}, srt m T = true → ∀ {i : Nat} {r : Row}, T[i]? = some r → m ≤ r.lo ∧ r.lo ≤ r.hi
 | [], _, _, i, r, hr => by simp at hr
 | x :: t, m, h, 0, r, hr => by
  cases hr
  simp only [srt, Bool.and_eq_true, Nat.ble_eq] at h
  exact ⟨h.1, h.2.1⟩
 | x :: t, m, h, i + 1, r, hr => by
  simp only [srt, Bool.and_eq_true, Nat.ble_eq] at h
  have := srt_get h.2.2 (i := i) (by simpa using hr)
  exact ⟨by omega, this.2⟩
theorem srt_lt : ∀ {T : List Row} {m : Nat}, srt m T = true → ∀ {i j : Nat} {r s : Row}, i < j → T[i]? = some r → T[j]? = some s → r.hi < s.lo
 | [], _, _, i, j, r, s, _, hr, _ => by simp at hr
 | x :: t, m, h, 0, j + 1, r, s, _, hr, hs => by
  cases hr
  simp only [srt, Bool.and_eq_true, Nat.ble_eq] at h
  have := srt_get h.2.2 (i := j) (by simpa using hs)
  omega
 | x :: t, m, h, i + 1, j + 1, r, s, hij, hr, hs => by
  simp only [srt, Bool.and_eq_true, Nat.ble_eq] at h
  exact srt_lt h.2.2 (i := i) (j := j) (by omega) (by simpa using hr) (by simpa using hs)
theorem lkup_none : ∀ {T : List Row} {a : Nat}, (∀ (i : Nat) (r : Row), T[i]? = some r → a < r.lo ∨ r.hi < a) → lkup T a = 0
 | [], _, _ => rfl
 | x :: t, a, h => by
  have h0 := h 0 x rfl
  have : (Nat.ble x.lo a && Nat.ble a x.hi) = false := by
   rw [Bool.eq_false_iff]
   simp only [ne_eq, Bool.and_eq_true, Nat.ble_eq]
   omega
  rw [lkup, this]
  exact lkup_none fun i r hr => h (i + 1) r (by simpa using hr)
theorem lkup_at : ∀ {T : List Row} {m a : Nat}, srt m T = true → ∀ {i : Nat} {r : Row}, T[i]? = some r → r.lo ≤ a → a ≤ r.hi → lkup T a = r.v
 | [], _, _, _, i, r, hr, _, _ => by simp at hr
 | x :: t, m, a, h, 0, r, hr, h1, h2 => by
  cases hr
  have : (Nat.ble x.lo a && Nat.ble a x.hi) = true := by simp only [Bool.and_eq_true, Nat.ble_eq]; omega
  rw [lkup, this]; rfl
 | x :: t, m, a, h, i + 1, r, hr, h1, h2 => by
  have hlt := srt_lt h (i := 0) (j := i + 1) (by omega) rfl hr
  have : (Nat.ble x.lo a && Nat.ble a x.hi) = false := by
   rw [Bool.eq_false_iff]
   simp only [ne_eq, Bool.and_eq_true, Nat.ble_eq]
   omega
  rw [lkup, this]
  simp only [srt, Bool.and_eq_true, Nat.ble_eq] at h
  exact lkup_at h.2.2 (i := i) (by simpa using hr) h1 h2
theorem num_lt : ∀ (l : Bs), l.all okC = true → num l < 16 ^ l.length := by
 have key : ∀ (l : Bs) (n k : Nat), l.all okC = true → n < 16 ^ k → l.foldl (fun n c => n * 16 + digit c) n < 16 ^ (k + l.length) := by
  intro l
  induction l with
  | nil => intro n k _ h; simpa using h
  | cons c r ih =>
   intro n k h hn
   simp only [List.all_cons, Bool.and_eq_true] at h
   have hc := (okC_iff c).1 h.1
   have hd : digit c < 16 := by unfold digit; split <;> omega
   rw [List.foldl_cons, List.length_cons, show k + (r.length + 1) = (k + 1) + r.length by omega]
   refine ih _ _ h.2 ?_
   rw [Nat.pow_succ]; omega
 intro l h
 have := key l 0 0 h (by simp)
 simpa [num] using this
noncomputable def clsT : List Row := rowsN 324 bs_88441808.data.toList
noncomputable def cnjT : List Row := rowsN 26 bs_29aed6ba.data.toList
noncomputable def wrdT : List Row := rowsN 81 bs_94cae01e.data.toList
instance (a : Int) : Decidable (Scalar a) := by unfold Scalar; infer_instance
noncomputable def cls (a : Int) : Nat :=
 if Scalar a then (if 44032 ≤ a ∧ a < 55204 then (if (a.toNat - 44032) % 28 = 0 then 12 else 13) else lkup clsT a.toNat) else 3
noncomputable def cnj (a : Int) : Nat :=
 if a = 2381 ∨ a = 2509 ∨ a = 2765 ∨ a = 2893 ∨ a = 3149 ∨ a = 3405 then 3 else if a = 8204 then 0 else if cls a = 4 ∨ cls a = 5 then 2 else if cls a = 0 ∧ Scalar a then lkup cnjT a.toNat else 0
noncomputable def wrd (a : Int) : Nat :=
 if Scalar a then (if lkup wrdT a.toNat = 2 then 2 else if lkup wrdT a.toNat = 1 then 0 else 1) else 1
end Gly
end Go.Proofs.YtabcpghhfeplaaaGreat
namespace Go.Proofs.YtabcpghhfeplaaaGreat
open Go Go.Vx
theorem tied {T : Tab} {P : Program} (ok : T.Ok P) {f : FuncId} {fn : Func} (hf : P.funcs[f]? = some fn) (h : Hint) (l : List Value) {t : RTy} {K : t.T → World → Prop} {w : World} {Q : World → Prop} (e : vcgF T P fn h l t K = Q) (q : Q w) : callT P f l.toArray t K w := vcgF_sound ok hf h l t K w (by rw [e]; exact q)
noncomputable def F158 (a0 : Int) (K : Int → World → Prop) : World → Prop :=
 callT Tryz.prog 165 #[(.int .i64 a0)] (.one (.one .bool)) fun (x1 : Bool) =>
 sif x1 (
 K (0 : Int)) (
 callT Tryz.prog 166 #[(.int .i64 a0)] (.one (.one .bool)) fun (x2 : Bool) =>
 sif x2 (
 K (2 : Int)) (
 K (1 : Int)))
def hR (n : Nat) : Hint := .region [] (.ops n .done)
def hO (n : Nat) : RS := .ops n .done
def hS (a b : Hint) : Hint := .seq none a b
def hC (a b : Hint) : Hint := .cond none a b
def hL : Hint := .leaf
def hJ (x : Nat × List (Nat × Ty)) (a b : Hint) : Hint := .seq (some x) a b
def tB : Ty := .one .bool
def tI : Ty := .one (.int .i64)
def tS : Ty := .one .sl
def tP : Ty := .one .ptr
noncomputable def h158 : Hint := (hS (hR 1) (hS (hS (hR 2) (hC (hS (hR 1) hL) hL)) (hS (hS (hR 2) (hC (hS (hR 1) hL) hL)) (hS (hR 1) hL))))
theorem F158_calls {a0 : Int} {K : Int → World → Prop} {w : World} (h : F158 a0 K w) : callT Tryz.prog 158 #[(.int .i64 a0)] (.one (.one (.int .i64))) K w := tied tabOk Tryz.func158 h158 [(.int .i64 a0)] (by kernel_rfl) h
noncomputable def F159 (a0 : Int) (K : Int → World → Prop) : World → Prop :=
 callT Tryz.prog 167 #[(.int .i64 a0)] (.one (.one .bool)) fun (x1 : Bool) =>
 sif (!x1) (
 K (3 : Int)) (
 join (S := Bool × Unit) (fun J2 =>
 sif (decide (a0 ≥ (44032 : Int))) (
 J2 ((decide (a0 ≤ (55203 : Int))), ())) (
 J2 (false, ()))) fun (s3 : Bool × Unit) =>
 sif s3.1 (
 chk ((28 : Int) ≠ 0) <|
 sif ((Int.tmod (IntKind.wrap .i64 (a0 - (44032 : Int))) (28 : Int)) == (0 : Int)) (
 K (12 : Int)) (
 K (13 : Int))) (
 sif (decide (a0 < (3076 : Int))) (
 callT Tryz.prog 168 #[(.int .i64 a0)] (.one (.one (.int .i64))) fun (x4 : Int) =>
 K x4) (
 sif (decide (a0 < (8505 : Int))) (
 callT Tryz.prog 169 #[(.int .i64 a0)] (.one (.one (.int .i64))) fun (x5 : Int) =>
 K x5) (
 callT Tryz.prog 170 #[(.int .i64 a0)] (.one (.one (.int .i64))) fun (x6 : Int) =>
 K x6))))
noncomputable def h159 : Hint := (hS (hR 1) (hS (hS (hR 3) (hC (hS (hR 1) hL) hL)) (hS (hJ (4032, [(11, tB)]) (.region [] (.ops 3 (.split 8 (hO 3) (.skips 2 (hO 1))))) (hC (hS (hS (hR 4) (hC (hS (hR 1) hL) hL)) (hS (hR 1) hL)) hL)) (hS (.block (hS (hR 3) (hC (hS (hR 3) hL) (hS (hR 3) (hC (hS (hR 3) hL) hL))))) (hS (hR 3) hL)))))
theorem F159_calls {a0 : Int} {K : Int → World → Prop} {w : World} (h : F159 a0 K w) : callT Tryz.prog 159 #[(.int .i64 a0)] (.one (.one (.int .i64))) K w := tied tabOk Tryz.func159 h159 [(.int .i64 a0)] (by kernel_rfl) h
noncomputable def F167 (a0 : Int) (K : Bool → World → Prop) : World → Prop :=
 sif (decide (a0 ≥ (0 : Int))) (
 sif (decide (a0 ≤ (1114111 : Int))) (
 sif (decide (a0 < (55296 : Int))) (
 K true) (
 K (decide (a0 > (57343 : Int))))) (
 K false)) (
 K false)
noncomputable def h167 : Hint := (hS (hR 1) (hS (.region [] (.ops 3 (.split 5 (.ops 4 (.split 9 (.ops 3 (.split 12 (.skips 2 (hO 3)) (hO 5))) (.skips 6 (hO 2)))) (.skips 2 (.ops 2 (.skips 6 (hO 2))))))) hL))
theorem F167_calls {a0 : Int} {K : Bool → World → Prop} {w : World} (h : F167 a0 K w) : callT Tryz.prog 167 #[(.int .i64 a0)] (.one (.one .bool)) K w := tied tabOk Tryz.func167 h167 [(.int .i64 a0)] (by kernel_rfl) h
noncomputable def F171 (a0 : Int) (K : Int → World → Prop) : World → Prop :=
 join (S := Bool × Unit) (fun J1 =>
 sif (a0 == (2381 : Int)) (
 J1 (true, ())) (
 sif (a0 == (2509 : Int)) (
 J1 (true, ())) (
 sif (a0 == (2765 : Int)) (
 J1 (true, ())) (
 sif (a0 == (2893 : Int)) (
 J1 (true, ())) (
 sif (a0 == (3149 : Int)) (
 J1 (true, ())) (
 J1 ((a0 == (3405 : Int)), ()))))))) fun (s2 : Bool × Unit) =>
 sif s2.1 (
 K (3 : Int)) (
 callT Tryz.prog 159 #[(.int .i64 a0)] (.one (.one (.int .i64))) fun (x3 : Int) =>
 join (S := Bool × Unit) (fun J4 =>
 sif (x3 == (4 : Int)) (
 J4 ((a0 != (8204 : Int)), ())) (
 sif (x3 == (5 : Int)) (
 J4 ((a0 != (8204 : Int)), ())) (
 J4 (false, ())))) fun (s5 : Bool × Unit) =>
 sif s5.1 (
 K (2 : Int)) (
 callT Tryz.prog 172 #[(.int .i64 a0)] (.one (.one .bool)) fun (x6 : Bool) =>
 sif x6 (
 K (1 : Int)) (
 K (0 : Int))))
noncomputable def h171 : Hint := (hS (hR 1) (hS (hJ (67108848, [(25, tB)]) (.region [] (.ops 3 (.split 6 (.skips 2 (.ops 2 (.skips 2 (.ops 2 (.skips 2 (.ops 2 (.skips 2 (.ops 2 (.skips 2 (hO 1)))))))))) (.ops 4 (.split 10 (.skips 2 (.ops 2 (.skips 2 (.ops 2 (.skips 2 (.ops 2 (.skips 2 (hO 1)))))))) (.ops 4 (.split 14 (.skips 2 (.ops 2 (.skips 2 (.ops 2 (.skips 2 (hO 1)))))) (.ops 4 (.split 18 (.skips 2 (.ops 2 (.skips 2 (hO 1)))) (.ops 4 (.split 22 (.skips 2 (hO 1)) (hO 3)))))))))))) (hC (hS (hR 1) hL) hL)) (hS (hR 3) (hS (hJ (274609471488, [(37, tB)]) (.region [] (.ops 3 (.split 30 (.skips 2 (hO 5)) (.ops 4 (.split 34 (hO 3) (.skips 2 (hO 1))))))) (hC (hS (hR 1) hL) hL)) (hS (hS (hR 2) (hC (hS (hR 1) hL) hL)) (hS (hR 1) hL))))))
theorem F171_calls {a0 : Int} {K : Int → World → Prop} {w : World} (h : F171 a0 K w) : callT Tryz.prog 171 #[(.int .i64 a0)] (.one (.one (.int .i64))) K w := tied tabOk Tryz.func171 h171 [(.int .i64 a0)] (by kernel_rfl) h
end Go.Proofs.YtabcpghhfeplaaaGreat
namespace Go.Proofs.YtabcpghhfeplaaaGreat
open Go Go.Vx Cdc Gly
namespace Rgl
def chainW (a : Int) (J : Bool × Unit → World → Prop) : List (Bool × Int × Int) → World → Prop
 | [] => J (false, ())
 | [(true, v, _)] => J ((a == v), ())
 | [(false, l, h)] => sif (decide (a ≥ l)) (J ((decide (a ≤ h)), ())) (J (false, ()))
 | (true, v, _) :: x :: r => sif (a == v) (J ((a == v), ())) (chainW a J (x :: r))
 | (false, l, h) :: x :: r => join (S := Bool × Unit) (fun J3 => sif (decide (a ≥ l)) (J3 ((decide (a ≤ h)), ())) (J3 (false, ()))) fun s => sif s.1 (J (s.1, ())) (chainW a J (x :: r))
def clsW (a : Int) (K : Int → World → Prop) (d : Int) : List (List (Bool × Int × Int) × Int) → World → Prop
 | [] => K d
 | ([(true, v, _)], n) :: r => sif (a == v) (K n) (clsW a K d r)
 | (ch, n) :: r => join (S := Bool × Unit) (fun J => chainW a J ch) fun s => sif s.1 (K n) (clsW a K d r)
def inR (a : Int) (x : Bool × Int × Int) : Bool := if x.1 then a == x.2.1 else decide (x.2.1 ≤ a) && decide (a ≤ x.2.2)
def inCh (a : Int) (ch : List (Bool × Int × Int)) : Bool := ch.any (inR a)
def clsV (a d : Int) : List (List (Bool × Int × Int) × Int) → Int
 | [] => d
 | (ch, n) :: r => if inCh a ch then n else clsV a d r
variable {w : World}
theorem chain_r {a : Int} {J : Bool × Unit → World → Prop} : ∀ {ch : List (Bool × Int × Int)}, J (inCh a ch, ()) w → chainW a J ch w
 | [], h => h
 | [(true, v, _)], h => by
  have e : inCh a [(true, v, ‹Int›)] = (a == v) := by simp [inCh, inR]
  rw [e] at h; exact h
 | [(false, l, u)], h => by
  have e : inCh a [(false, l, u)] = (decide (l ≤ a) && decide (a ≤ u)) := by simp [inCh, inR]
  rw [e] at h
  refine sif_r (fun h1 => ?_) (fun h1 => ?_)
  ·simp only [decide_eq_true_eq, ge_iff_le] at h1
   rw [decide_eq_true h1, Bool.true_and] at h; exact h
  ·simp only [decide_eq_false_iff_not, ge_iff_le] at h1
   rw [decide_eq_false h1, Bool.false_and] at h; exact h
 | (true, v, u) :: x :: r, h => by
  have e : inCh a ((true, v, u) :: x :: r) = ((a == v) || inCh a (x :: r)) := by simp [inCh, inR]
  rw [e] at h
  refine sif_r (fun h1 => ?_) (fun h1 => ?_)
  ·have h1 : (a == v) = true := h1
   rw [h1, Bool.true_or] at h
   rw [h1]; exact h
  ·have h1 : (a == v) = false := h1
   rw [h1, Bool.false_or] at h
   exact chain_r h
 | (false, l, u) :: x :: r, h => by
  have e : inCh a ((false, l, u) :: x :: r) = ((decide (l ≤ a) && decide (a ≤ u)) || inCh a (x :: r)) := by simp [inCh, inR]
  rw [e] at h
  refine join_r (fun y W => y = ((decide (l ≤ a) && decide (a ≤ u)), ()) ∧ w = W) (sif_r (fun h1 => ?_) (fun h1 => ?_)) ?_
  ·simp only [decide_eq_true_eq, ge_iff_le] at h1
   rw [decide_eq_true h1, Bool.true_and]; exact ⟨rfl, rfl⟩
  ·simp only [decide_eq_false_iff_not, ge_iff_le] at h1
   rw [decide_eq_false h1, Bool.false_and]; exact ⟨rfl, rfl⟩
  rintro _ _ ⟨rfl, rfl⟩
  refine sif_r (fun h1 => ?_) (fun h1 => ?_)
  ·have h1 : (decide (l ≤ a) && decide (a ≤ u)) = true := h1
   rw [h1, Bool.true_or] at h
   show J ((decide (l ≤ a) && decide (a ≤ u)), ()) w
   rw [h1]; exact h
  ·have h1 : (decide (l ≤ a) && decide (a ≤ u)) = false := h1
   rw [h1, Bool.false_or] at h
   exact chain_r h
theorem cls_join {a d n : Int} {K : Int → World → Prop} {ch : List (Bool × Int × Int)} {r : List (List (Bool × Int × Int) × Int)} (ih : K (clsV a d r) w → clsW a K d r w) (h : K (clsV a d ((ch, n) :: r)) w) :
  join (S := Bool × Unit) (fun J => chainW a J ch) (fun s => sif s.1 (K n) (clsW a K d r)) w := by
 refine join_r (fun x W => x = (inCh a ch, ()) ∧ w = W) (chain_r ⟨rfl, rfl⟩) ?_
 rintro _ _ ⟨rfl, rfl⟩
 rw [clsV] at h
 refine sif_r (fun h1 => ?_) (fun h1 => ?_)
 ·have h1 : inCh a ch = true := h1
  rw [if_pos h1] at h; exact h
 ·have h1 : inCh a ch = false := h1
  rw [if_neg (by rw [h1]; decide)] at h; exact ih h
theorem cls_r {a d : Int} {K : Int → World → Prop} : ∀ {T : List (List (Bool × Int × Int) × Int)}, K (clsV a d T) w → clsW a K d T w
 | [], h => h
 | ([(true, v, u)], n) :: r, h => by
  rw [clsV] at h
  have e : inCh a [(true, v, u)] = (a == v) := by simp [inCh, inR]
  rw [e] at h
  refine sif_r (fun h1 => ?_) (fun h1 => ?_)
  ·have h1 : (a == v) = true := h1
   rw [if_pos h1] at h; exact h
  ·have h1 : (a == v) = false := h1
   rw [if_neg (by rw [h1]; decide)] at h; exact cls_r h
 | ([], n) :: r, h => cls_join cls_r h
 | ([(false, l, u)], n) :: r, h => cls_join cls_r h
 | (x :: y :: z, n) :: r, h => by
  have : clsW a K d ((x :: y :: z, n) :: r) = join (S := Bool × Unit) (fun J => chainW a J (x :: y :: z)) fun s => sif s.1 (K n) (clsW a K d r) := by
   obtain ⟨b, l, u⟩ := x
   cases b <;> rfl
  rw [this]
  exact cls_join cls_r h
def rC1 : List (List (Bool × Int × Int) × Int) := [([(true, 13, 13)], 1), ([(true, 10, 10)], 2), ([(false, 0, 9), (false, 11, 12), (false, 14, 31), (false, 127, 159), (true, 173, 173), (true, 1564, 1564)], 3), ([(false, 768, 879), (false, 1155, 1161), (false, 1425, 1469), (true, 1471, 1471), (false, 1473, 1474), (false, 1476, 1477), (true, 1479, 1479), (false, 1552, 1562), (false, 1611, 1631), (true, 1648, 1648), (false, 1750, 1756), (false, 1759, 1764), (false, 1767, 1768), (false, 1770, 1773), (true, 1809, 1809), (false, 1840, 1866), (false, 1958, 1968), (false, 2027, 2035), (true, 2045, 2045), (false, 2070, 2073), (false, 2075, 2083), (false, 2085, 2087), (false, 2089, 2093), (false, 2137, 2139), (false, 2200, 2207), (false, 2250, 2273), (false, 2275, 2306), (true, 2362, 2362), (true, 2364, 2364), (false, 2369, 2376), (true, 2381, 2381), (false, 2385, 2391), (false, 2402, 2403), (true, 2433, 2433), (true, 2492, 2492), (true, 2494, 2494), (false, 2497, 2500), (true, 2509, 2509), (true, 2519, 2519), (false, 2530, 2531), (true, 2558, 2558), (false, 2561, 2562), (true, 2620, 2620), (false, 2625, 2626), (false, 2631, 2632), (false, 2635, 2637), (true, 2641, 2641), (false, 2672, 2673), (true, 2677, 2677), (false, 2689, 2690), (true, 2748, 2748), (false, 2753, 2757), (false, 2759, 2760), (true, 2765, 2765), (false, 2786, 2787), (false, 2810, 2815), (true, 2817, 2817), (true, 2876, 2876), (false, 2878, 2879), (false, 2881, 2884), (true, 2893, 2893), (false, 2901, 2903), (false, 2914, 2915), (true, 2946, 2946), (true, 3006, 3006), (true, 3008, 3008), (true, 3021, 3021), (true, 3031, 3031), (true, 3072, 3072)], 4), ([(false, 1536, 1541), (true, 1757, 1757), (true, 1807, 1807), (false, 2192, 2193), (true, 2274, 2274)], 7), ([(true, 2307, 2307), (true, 2363, 2363), (false, 2366, 2368), (false, 2377, 2380), (false, 2382, 2383), (false, 2434, 2435), (false, 2495, 2496), (false, 2503, 2504), (false, 2507, 2508), (true, 2563, 2563), (false, 2622, 2624), (true, 2691, 2691), (false, 2750, 2752), (true, 2761, 2761), (false, 2763, 2764), (false, 2818, 2819), (true, 2880, 2880), (false, 2887, 2888), (false, 2891, 2892), (true, 3007, 3007), (false, 3009, 3010), (false, 3014, 3016), (false, 3018, 3020), (false, 3073, 3075)], 8), ([(true, 169, 169), (true, 174, 174)], 14)]
def rC2 : List (List (Bool × Int × Int) × Int) := [([(true, 6158, 6158), (true, 8203, 8203), (false, 8206, 8207), (false, 8232, 8238), (false, 8288, 8303)], 3), ([(true, 3076, 3076), (true, 3132, 3132), (false, 3134, 3136), (false, 3142, 3144), (false, 3146, 3149), (false, 3157, 3158), (false, 3170, 3171), (true, 3201, 3201), (true, 3260, 3260), (true, 3263, 3263), (true, 3266, 3266), (true, 3270, 3270), (false, 3276, 3277), (false, 3285, 3286), (false, 3298, 3299), (false, 3328, 3329), (false, 3387, 3388), (true, 3390, 3390), (false, 3393, 3396), (true, 3405, 3405), (true, 3415, 3415), (false, 3426, 3427), (true, 3457, 3457), (true, 3530, 3530), (true, 3535, 3535), (false, 3538, 3540), (true, 3542, 3542), (true, 3551, 3551), (true, 3633, 3633), (false, 3636, 3642), (false, 3655, 3662), (true, 3761, 3761), (false, 3764, 3772), (false, 3784, 3790), (false, 3864, 3865), (true, 3893, 3893), (true, 3895, 3895), (true, 3897, 3897), (false, 3953, 3966), (false, 3968, 3972), (false, 3974, 3975), (false, 3981, 3991), (false, 3993, 4028), (true, 4038, 4038), (false, 4141, 4144), (false, 4146, 4151), (false, 4153, 4154), (false, 4157, 4158), (false, 4184, 4185), (false, 4190, 4192), (false, 4209, 4212), (true, 4226, 4226), (false, 4229, 4230), (true, 4237, 4237), (true, 4253, 4253), (false, 4957, 4959), (false, 6068, 6069), (false, 6071, 6077), (true, 6086, 6086), (false, 6089, 6099), (true, 6109, 6109), (false, 6155, 6157), (true, 6159, 6159), (true, 6313, 6313), (false, 6832, 6862), (false, 7616, 7679), (true, 8204, 8204), (false, 8400, 8432)], 4), ([(true, 8205, 8205)], 5), ([(true, 3406, 3406)], 7), ([(false, 3137, 3140), (false, 3202, 3203), (true, 3262, 3262), (false, 3264, 3265), (false, 3267, 3268), (false, 3271, 3272), (false, 3274, 3275), (true, 3315, 3315), (false, 3330, 3331), (false, 3391, 3392), (false, 3398, 3400), (false, 3402, 3404), (false, 3458, 3459), (false, 3536, 3537), (false, 3544, 3550), (false, 3570, 3571), (true, 3635, 3635), (true, 3763, 3763), (false, 3902, 3903), (true, 3967, 3967), (true, 4145, 4145), (false, 4155, 4156), (false, 4182, 4183), (true, 4228, 4228), (true, 6070, 6070), (false, 6078, 6085), (false, 6087, 6088)], 8), ([(false, 4352, 4447)], 9), ([(false, 4448, 4519)], 10), ([(false, 4520, 4607)], 11), ([(true, 8252, 8252), (true, 8265, 8265), (true, 8482, 8482)], 14)]
def rC3 : List (List (Bool × Int × Int) × Int) := [([(true, 65279, 65279), (false, 65520, 65531), (false, 78896, 78911), (false, 113824, 113827), (false, 119155, 119162), (false, 917504, 917535), (false, 917632, 917759), (false, 918000, 921599)], 3), ([(false, 12330, 12335), (false, 12441, 12442), (false, 42607, 42610), (false, 42612, 42621), (false, 42654, 42655), (false, 42736, 42737), (true, 64286, 64286), (false, 65024, 65039), (false, 65056, 65071), (false, 65438, 65439), (true, 66045, 66045), (true, 119141, 119141), (false, 119143, 119145), (false, 119150, 119154), (false, 119163, 119170), (false, 119173, 119179), (false, 119210, 119213), (false, 127995, 127999), (false, 917536, 917631), (false, 917760, 917999)], 4), ([(false, 127462, 127487)], 6), ([(true, 69821, 69821), (true, 69837, 69837), (false, 70082, 70083)], 7), ([(false, 43360, 43388)], 9), ([(false, 55216, 55238)], 10), ([(false, 55243, 55291)], 11), ([(true, 8505, 8505), (false, 8596, 8601), (false, 8617, 8618), (false, 8986, 8987), (true, 9000, 9000), (true, 9096, 9096), (true, 9167, 9167), (false, 9193, 9203), (false, 9208, 9210), (true, 9410, 9410), (false, 9642, 9643), (true, 9654, 9654), (true, 9664, 9664), (false, 9723, 9726), (false, 9728, 9733), (false, 9735, 9746), (false, 9748, 9861), (false, 9872, 9989), (false, 9992, 10002), (true, 10004, 10004), (true, 10006, 10006), (true, 10013, 10013), (true, 10017, 10017), (true, 10024, 10024), (false, 10035, 10036), (true, 10052, 10052), (true, 10055, 10055), (true, 10060, 10060), (true, 10062, 10062), (false, 10067, 10069), (true, 10071, 10071), (false, 10083, 10087), (false, 10133, 10135), (true, 10145, 10145), (true, 10160, 10160), (true, 10175, 10175), (false, 10548, 10549), (false, 11013, 11015), (false, 11035, 11036), (true, 11088, 11088), (true, 11093, 11093), (true, 12336, 12336), (true, 12349, 12349), (true, 12951, 12951), (true, 12953, 12953), (false, 126976, 127231), (false, 127245, 127247), (true, 127279, 127279), (false, 127340, 127345), (false, 127358, 127359), (true, 127374, 127374), (false, 127377, 127386), (false, 127405, 127461), (false, 127489, 127503), (true, 127514, 127514), (true, 127535, 127535), (false, 127538, 127546), (false, 127548, 127551), (false, 127561, 127994), (false, 128000, 128317), (false, 128326, 128591), (false, 128640, 128767), (false, 128884, 128895), (false, 128981, 129023), (false, 129036, 129039), (false, 129096, 129103), (false, 129114, 129119), (false, 129160, 129167), (false, 129198, 129279), (false, 129292, 129338), (false, 129340, 129349), (false, 129351, 129791), (false, 130048, 131069)], 14)]
def rCon : List (Bool × Int × Int) := [(false, 2325, 2361), (false, 2392, 2399), (false, 2424, 2431), (false, 2453, 2472), (false, 2474, 2480), (true, 2482, 2482), (false, 2486, 2489), (false, 2524, 2525), (true, 2527, 2527), (false, 2544, 2545), (false, 2709, 2728), (false, 2730, 2736), (false, 2738, 2739), (false, 2741, 2745), (true, 2809, 2809), (false, 2837, 2856), (false, 2858, 2864), (false, 2866, 2867), (false, 2869, 2873), (false, 2908, 2909), (true, 2911, 2911), (true, 2929, 2929), (false, 3093, 3112), (false, 3114, 3129), (false, 3160, 3162), (false, 3349, 3386)]
def rBla : List (Bool × Int × Int) := [(false, 9, 13), (true, 32, 32), (true, 133, 133), (true, 160, 160), (true, 5760, 5760), (false, 8192, 8202), (false, 8232, 8233), (true, 8239, 8239), (true, 8287, 8287), (true, 12288, 12288)]
def rLet : List (Bool × Int × Int) := [(false, 48, 57), (false, 65, 90), (true, 95, 95), (false, 97, 122), (true, 170, 170), (true, 181, 181), (true, 186, 186), (false, 192, 214), (false, 216, 246), (false, 248, 705), (false, 768, 884), (false, 886, 893), (true, 895, 895), (true, 902, 902), (false, 904, 1013), (false, 1015, 1153), (false, 1155, 1327), (false, 1329, 1366), (false, 1376, 1416), (false, 1425, 1469), (false, 1488, 1514), (false, 1552, 1562), (false, 1568, 1641), (false, 1646, 1747), (false, 1749, 1756), (false, 1759, 1768), (false, 1770, 1788), (false, 1808, 1866), (false, 2304, 2403), (false, 2406, 2415), (false, 2417, 3571), (false, 3585, 3642), (false, 3648, 3662), (false, 3664, 3673), (false, 3713, 3807), (false, 3864, 3897), (false, 3904, 3972), (false, 3984, 4028), (false, 4096, 4169), (false, 4176, 4253), (false, 4256, 4346), (false, 4348, 4607), (false, 4608, 4959), (false, 6016, 6099), (false, 7680, 8188), (true, 8486, 8486), (false, 8490, 8491), (false, 8544, 8584), (false, 12293, 12295), (false, 12321, 12335), (false, 12353, 12438), (false, 12441, 12442), (false, 12445, 12447), (false, 12449, 12538), (false, 12540, 12543), (false, 12549, 12591), (false, 12593, 12686), (false, 13312, 19903), (false, 19968, 40959), (false, 43360, 43388), (false, 44032, 55203), (false, 55216, 55291), (false, 63744, 64255), (false, 64285, 64335), (false, 65296, 65305), (false, 65313, 65338), (false, 65345, 65370), (false, 65382, 65500), (false, 66560, 66639), (false, 131072, 195103), (false, 196608, 205743)]
def slN : List (Bool × Int × Int) → Nat
 | [] => 0
 | x :: r => (if x.1 then 2 else 6) + slN r
def rgH (b : Nat) : Hint := .region [] (.ops 3 (.split (b + 2) (.ops 4 .done) (.skips 2 (.ops 2 .done))))
def sgH : Hint := .region [] (.ops 3 .done)
def chH (o : Nat) : List (Bool × Int × Int) → Nat → Hint
 | [], _ => .leaf
 | [x], b => if x.1 then sgH else rgH b
 | x :: y :: r, b => if x.1 then .seq none sgH (.cond none .leaf (chH o (y :: r) (b + 2))) else .seq (some (2 ^ (b + 6) - 2 ^ b + 2 ^ o, [(o, .one .bool)])) (rgH b) (.cond none .leaf (chH o (y :: r) (b + 6)))
def rtH : Hint := .seq none (.region [] (.ops 1 .done)) .leaf
def csH : List (List (Bool × Int × Int) × Int) → Nat → Hint
 | [], _ => .leaf
 | ([(true, _)], _) :: r, o => .seq none sgH (.cond none rtH (csH r (o + 3)))
 | (ch, _) :: r, o => .seq (some (2 ^ (o + 1 + slN ch) - 2 ^ o, [(o, .one .bool)])) (chH o ch (o + 1)) (.cond none rtH (csH r (o + 1 + slN ch)))
def tbH (T : List (List (Bool × Int × Int) × Int)) : Hint := .seq none (.region [] (.ops 1 .done)) (.seq none (.block (csH T 3)) rtH)
theorem g1_call {a : Int} {K : Int → World → Prop} (h : K (clsV a 0 rC1) w) : callT Tryz.prog 168 #[.int .i64 a] (.one (.one (.int .i64))) K w := by
 have e : vcgF tab Tryz.prog Tryz.f168 (tbH rC1) [.int .i64 a] (.one (.one (.int .i64))) K = clsW a K 0 rC1 := by kernel_rfl
 exact vcgF_sound tabOk Tryz.func168 (tbH rC1) [.int .i64 a] (.one (.one (.int .i64))) K w (by rw [e]; exact cls_r h)
theorem g2_call {a : Int} {K : Int → World → Prop} (h : K (clsV a 0 rC2) w) : callT Tryz.prog 169 #[.int .i64 a] (.one (.one (.int .i64))) K w := by
 have e : vcgF tab Tryz.prog Tryz.f169 (tbH rC2) [.int .i64 a] (.one (.one (.int .i64))) K = clsW a K 0 rC2 := by kernel_rfl
 exact vcgF_sound tabOk Tryz.func169 (tbH rC2) [.int .i64 a] (.one (.one (.int .i64))) K w (by rw [e]; exact cls_r h)
theorem g3_call {a : Int} {K : Int → World → Prop} (h : K (clsV a 0 rC3) w) : callT Tryz.prog 170 #[.int .i64 a] (.one (.one (.int .i64))) K w := by
 have e : vcgF tab Tryz.prog Tryz.f170 (tbH rC3) [.int .i64 a] (.one (.one (.int .i64))) K = clsW a K 0 rC3 := by kernel_rfl
 exact vcgF_sound tabOk Tryz.func170 (tbH rC3) [.int .i64 a] (.one (.one (.int .i64))) K w (by rw [e]; exact cls_r h)
theorem bool_r {a : Int} {K : Bool → World → Prop} {ch : List (Bool × Int × Int)} (h : K (inCh a ch) w) : join (S := Bool × Unit) (fun J => chainW a J ch) (fun s => sif s.1 (K true) (K false)) w := by
 refine join_r (fun x W => x = (inCh a ch, ()) ∧ w = W) (chain_r ⟨rfl, rfl⟩) ?_
 rintro _ _ ⟨rfl, rfl⟩
 refine sif_r (fun h1 => ?_) (fun h1 => ?_)
 ·have h1 : inCh a ch = true := h1
  rw [h1] at h; exact h
 ·have h1 : inCh a ch = false := h1
  rw [h1] at h; exact h
theorem gcon_call {a : Int} {K : Bool → World → Prop} (h : K (inCh a rCon) w) : callT Tryz.prog 172 #[.int .i64 a] (.one (.one .bool)) K w := by
 have e : vcgF tab Tryz.prog Tryz.f172 (tbH [(rCon, 1)]) [.int .i64 a] (.one (.one .bool)) K = join (S := Bool × Unit) (fun J => chainW a J rCon) fun s => sif s.1 (K true) (K false) := by kernel_rfl
 exact vcgF_sound tabOk Tryz.func172 (tbH [(rCon, 1)]) [.int .i64 a] (.one (.one .bool)) K w (by rw [e]; exact bool_r h)
theorem gbla_call {a : Int} {K : Bool → World → Prop} (h : K (inCh a rBla) w) : callT Tryz.prog 165 #[.int .i64 a] (.one (.one .bool)) K w := by
 have e : vcgF tab Tryz.prog Tryz.f165 (tbH [(rBla, 1)]) [.int .i64 a] (.one (.one .bool)) K = join (S := Bool × Unit) (fun J => chainW a J rBla) fun s => sif s.1 (K true) (K false) := by kernel_rfl
 exact vcgF_sound tabOk Tryz.func165 (tbH [(rBla, 1)]) [.int .i64 a] (.one (.one .bool)) K w (by rw [e]; exact bool_r h)
theorem glet_call {a : Int} {K : Bool → World → Prop} (h : K (inCh a rLet) w) : callT Tryz.prog 166 #[.int .i64 a] (.one (.one .bool)) K w := by
 have e : vcgF tab Tryz.prog Tryz.f166 (tbH [(rLet, 1)]) [.int .i64 a] (.one (.one .bool)) K = join (S := Bool × Unit) (fun J => chainW a J rLet) fun s => sif s.1 (K true) (K false) := by kernel_rfl
 exact vcgF_sound tabOk Tryz.func166 (tbH [(rLet, 1)]) [.int .i64 a] (.one (.one .bool)) K w (by rw [e]; exact bool_r h)
end Rgl
end Go.Proofs.YtabcpghhfeplaaaGreat
namespace Go.Proofs.YtabcpghhfeplaaaGreat
open Cdc Gly
namespace Rgl
def lCls : List Row := [⟨0, 9, 3⟩, ⟨10, 10, 2⟩, ⟨11, 12, 3⟩, ⟨13, 13, 1⟩, ⟨14, 31, 3⟩, ⟨127, 159, 3⟩, ⟨169, 169, 14⟩, ⟨173, 173, 3⟩, ⟨174, 174, 14⟩, ⟨768, 879, 4⟩, ⟨1155, 1161, 4⟩, ⟨1425, 1469, 4⟩, ⟨1471, 1471, 4⟩, ⟨1473, 1474, 4⟩, ⟨1476, 1477, 4⟩, ⟨1479, 1479, 4⟩, ⟨1536, 1541, 7⟩, ⟨1552, 1562, 4⟩, ⟨1564, 1564, 3⟩, ⟨1611, 1631, 4⟩, ⟨1648, 1648, 4⟩, ⟨1750, 1756, 4⟩, ⟨1757, 1757, 7⟩, ⟨1759, 1764, 4⟩, ⟨1767, 1768, 4⟩, ⟨1770, 1773, 4⟩, ⟨1807, 1807, 7⟩, ⟨1809, 1809, 4⟩, ⟨1840, 1866, 4⟩, ⟨1958, 1968, 4⟩, ⟨2027, 2035, 4⟩, ⟨2045, 2045, 4⟩, ⟨2070, 2073, 4⟩, ⟨2075, 2083, 4⟩, ⟨2085, 2087, 4⟩, ⟨2089, 2093, 4⟩, ⟨2137, 2139, 4⟩, ⟨2192, 2193, 7⟩, ⟨2200, 2207, 4⟩, ⟨2250, 2273, 4⟩, ⟨2274, 2274, 7⟩, ⟨2275, 2306, 4⟩, ⟨2307, 2307, 8⟩, ⟨2362, 2362, 4⟩, ⟨2363, 2363, 8⟩, ⟨2364, 2364, 4⟩, ⟨2366, 2368, 8⟩, ⟨2369, 2376, 4⟩, ⟨2377, 2380, 8⟩, ⟨2381, 2381, 4⟩, ⟨2382, 2383, 8⟩, ⟨2385, 2391, 4⟩, ⟨2402, 2403, 4⟩, ⟨2433, 2433, 4⟩, ⟨2434, 2435, 8⟩, ⟨2492, 2492, 4⟩, ⟨2494, 2494, 4⟩, ⟨2495, 2496, 8⟩, ⟨2497, 2500, 4⟩, ⟨2503, 2504, 8⟩, ⟨2507, 2508, 8⟩, ⟨2509, 2509, 4⟩, ⟨2519, 2519, 4⟩, ⟨2530, 2531, 4⟩, ⟨2558, 2558, 4⟩, ⟨2561, 2562, 4⟩, ⟨2563, 2563, 8⟩, ⟨2620, 2620, 4⟩, ⟨2622, 2624, 8⟩, ⟨2625, 2626, 4⟩, ⟨2631, 2632, 4⟩, ⟨2635, 2637, 4⟩, ⟨2641, 2641, 4⟩, ⟨2672, 2673, 4⟩, ⟨2677, 2677, 4⟩, ⟨2689, 2690, 4⟩, ⟨2691, 2691, 8⟩, ⟨2748, 2748, 4⟩, ⟨2750, 2752, 8⟩, ⟨2753, 2757, 4⟩, ⟨2759, 2760, 4⟩, ⟨2761, 2761, 8⟩, ⟨2763, 2764, 8⟩, ⟨2765, 2765, 4⟩, ⟨2786, 2787, 4⟩, ⟨2810, 2815, 4⟩, ⟨2817, 2817, 4⟩, ⟨2818, 2819, 8⟩, ⟨2876, 2876, 4⟩, ⟨2878, 2879, 4⟩, ⟨2880, 2880, 8⟩, ⟨2881, 2884, 4⟩, ⟨2887, 2888, 8⟩, ⟨2891, 2892, 8⟩, ⟨2893, 2893, 4⟩, ⟨2901, 2903, 4⟩, ⟨2914, 2915, 4⟩, ⟨2946, 2946, 4⟩, ⟨3006, 3006, 4⟩, ⟨3007, 3007, 8⟩, ⟨3008, 3008, 4⟩, ⟨3009, 3010, 8⟩, ⟨3014, 3016, 8⟩, ⟨3018, 3020, 8⟩, ⟨3021, 3021, 4⟩, ⟨3031, 3031, 4⟩, ⟨3072, 3072, 4⟩, ⟨3073, 3075, 8⟩, ⟨3076, 3076, 4⟩, ⟨3132, 3132, 4⟩, ⟨3134, 3136, 4⟩, ⟨3137, 3140, 8⟩, ⟨3142, 3144, 4⟩, ⟨3146, 3149, 4⟩, ⟨3157, 3158, 4⟩, ⟨3170, 3171, 4⟩, ⟨3201, 3201, 4⟩, ⟨3202, 3203, 8⟩, ⟨3260, 3260, 4⟩, ⟨3262, 3262, 8⟩, ⟨3263, 3263, 4⟩, ⟨3264, 3265, 8⟩, ⟨3266, 3266, 4⟩, ⟨3267, 3268, 8⟩, ⟨3270, 3270, 4⟩, ⟨3271, 3272, 8⟩, ⟨3274, 3275, 8⟩, ⟨3276, 3277, 4⟩, ⟨3285, 3286, 4⟩, ⟨3298, 3299, 4⟩, ⟨3315, 3315, 8⟩, ⟨3328, 3329, 4⟩, ⟨3330, 3331, 8⟩, ⟨3387, 3388, 4⟩, ⟨3390, 3390, 4⟩, ⟨3391, 3392, 8⟩, ⟨3393, 3396, 4⟩, ⟨3398, 3400, 8⟩, ⟨3402, 3404, 8⟩, ⟨3405, 3405, 4⟩, ⟨3406, 3406, 7⟩, ⟨3415, 3415, 4⟩, ⟨3426, 3427, 4⟩, ⟨3457, 3457, 4⟩, ⟨3458, 3459, 8⟩, ⟨3530, 3530, 4⟩, ⟨3535, 3535, 4⟩, ⟨3536, 3537, 8⟩, ⟨3538, 3540, 4⟩, ⟨3542, 3542, 4⟩, ⟨3544, 3550, 8⟩, ⟨3551, 3551, 4⟩, ⟨3570, 3571, 8⟩, ⟨3633, 3633, 4⟩, ⟨3635, 3635, 8⟩, ⟨3636, 3642, 4⟩, ⟨3655, 3662, 4⟩, ⟨3761, 3761, 4⟩, ⟨3763, 3763, 8⟩, ⟨3764, 3772, 4⟩, ⟨3784, 3790, 4⟩, ⟨3864, 3865, 4⟩, ⟨3893, 3893, 4⟩, ⟨3895, 3895, 4⟩, ⟨3897, 3897, 4⟩, ⟨3902, 3903, 8⟩, ⟨3953, 3966, 4⟩, ⟨3967, 3967, 8⟩, ⟨3968, 3972, 4⟩, ⟨3974, 3975, 4⟩, ⟨3981, 3991, 4⟩, ⟨3993, 4028, 4⟩, ⟨4038, 4038, 4⟩, ⟨4141, 4144, 4⟩, ⟨4145, 4145, 8⟩, ⟨4146, 4151, 4⟩, ⟨4153, 4154, 4⟩, ⟨4155, 4156, 8⟩, ⟨4157, 4158, 4⟩, ⟨4182, 4183, 8⟩, ⟨4184, 4185, 4⟩, ⟨4190, 4192, 4⟩, ⟨4209, 4212, 4⟩, ⟨4226, 4226, 4⟩, ⟨4228, 4228, 8⟩, ⟨4229, 4230, 4⟩, ⟨4237, 4237, 4⟩, ⟨4253, 4253, 4⟩, ⟨4352, 4447, 9⟩, ⟨4448, 4519, 10⟩, ⟨4520, 4607, 11⟩, ⟨4957, 4959, 4⟩, ⟨6068, 6069, 4⟩, ⟨6070, 6070, 8⟩, ⟨6071, 6077, 4⟩, ⟨6078, 6085, 8⟩, ⟨6086, 6086, 4⟩, ⟨6087, 6088, 8⟩, ⟨6089, 6099, 4⟩, ⟨6109, 6109, 4⟩, ⟨6155, 6157, 4⟩, ⟨6158, 6158, 3⟩, ⟨6159, 6159, 4⟩, ⟨6313, 6313, 4⟩, ⟨6832, 6862, 4⟩, ⟨7616, 7679, 4⟩, ⟨8203, 8203, 3⟩, ⟨8204, 8204, 4⟩, ⟨8205, 8205, 5⟩, ⟨8206, 8207, 3⟩, ⟨8232, 8238, 3⟩, ⟨8252, 8252, 14⟩, ⟨8265, 8265, 14⟩, ⟨8288, 8303, 3⟩, ⟨8400, 8432, 4⟩, ⟨8482, 8482, 14⟩, ⟨8505, 8505, 14⟩, ⟨8596, 8601, 14⟩, ⟨8617, 8618, 14⟩, ⟨8986, 8987, 14⟩, ⟨9000, 9000, 14⟩, ⟨9096, 9096, 14⟩, ⟨9167, 9167, 14⟩, ⟨9193, 9203, 14⟩, ⟨9208, 9210, 14⟩, ⟨9410, 9410, 14⟩, ⟨9642, 9643, 14⟩, ⟨9654, 9654, 14⟩, ⟨9664, 9664, 14⟩, ⟨9723, 9726, 14⟩, ⟨9728, 9733, 14⟩, ⟨9735, 9746, 14⟩, ⟨9748, 9861, 14⟩, ⟨9872, 9989, 14⟩, ⟨9992, 10002, 14⟩, ⟨10004, 10004, 14⟩, ⟨10006, 10006, 14⟩, ⟨10013, 10013, 14⟩, ⟨10017, 10017, 14⟩, ⟨10024, 10024, 14⟩, ⟨10035, 10036, 14⟩, ⟨10052, 10052, 14⟩, ⟨10055, 10055, 14⟩, ⟨10060, 10060, 14⟩, ⟨10062, 10062, 14⟩, ⟨10067, 10069, 14⟩, ⟨10071, 10071, 14⟩, ⟨10083, 10087, 14⟩, ⟨10133, 10135, 14⟩, ⟨10145, 10145, 14⟩, ⟨10160, 10160, 14⟩, ⟨10175, 10175, 14⟩, ⟨10548, 10549, 14⟩, ⟨11013, 11015, 14⟩, ⟨11035, 11036, 14⟩, ⟨11088, 11088, 14⟩, ⟨11093, 11093, 14⟩, ⟨12330, 12335, 4⟩, ⟨12336, 12336, 14⟩, ⟨12349, 12349, 14⟩, ⟨12441, 12442, 4⟩, ⟨12951, 12951, 14⟩, ⟨12953, 12953, 14⟩, ⟨42607, 42610, 4⟩, ⟨42612, 42621, 4⟩, ⟨42654, 42655, 4⟩, ⟨42736, 42737, 4⟩, ⟨43360, 43388, 9⟩, ⟨55216, 55238, 10⟩, ⟨55243, 55291, 11⟩, ⟨64286, 64286, 4⟩, ⟨65024, 65039, 4⟩, ⟨65056, 65071, 4⟩, ⟨65279, 65279, 3⟩, ⟨65438, 65439, 4⟩, ⟨65520, 65531, 3⟩, ⟨66045, 66045, 4⟩, ⟨69821, 69821, 7⟩, ⟨69837, 69837, 7⟩, ⟨70082, 70083, 7⟩, ⟨78896, 78911, 3⟩, ⟨113824, 113827, 3⟩, ⟨119141, 119141, 4⟩, ⟨119143, 119145, 4⟩, ⟨119150, 119154, 4⟩, ⟨119155, 119162, 3⟩, ⟨119163, 119170, 4⟩, ⟨119173, 119179, 4⟩, ⟨119210, 119213, 4⟩, ⟨126976, 127231, 14⟩, ⟨127245, 127247, 14⟩, ⟨127279, 127279, 14⟩, ⟨127340, 127345, 14⟩, ⟨127358, 127359, 14⟩, ⟨127374, 127374, 14⟩, ⟨127377, 127386, 14⟩, ⟨127405, 127461, 14⟩, ⟨127462, 127487, 6⟩, ⟨127489, 127503, 14⟩, ⟨127514, 127514, 14⟩, ⟨127535, 127535, 14⟩, ⟨127538, 127546, 14⟩, ⟨127548, 127551, 14⟩, ⟨127561, 127994, 14⟩, ⟨127995, 127999, 4⟩, ⟨128000, 128317, 14⟩, ⟨128326, 128591, 14⟩, ⟨128640, 128767, 14⟩, ⟨128884, 128895, 14⟩, ⟨128981, 129023, 14⟩, ⟨129036, 129039, 14⟩, ⟨129096, 129103, 14⟩, ⟨129114, 129119, 14⟩, ⟨129160, 129167, 14⟩, ⟨129198, 129279, 14⟩, ⟨129292, 129338, 14⟩, ⟨129340, 129349, 14⟩, ⟨129351, 129791, 14⟩, ⟨130048, 131069, 14⟩, ⟨917504, 917535, 3⟩, ⟨917536, 917631, 4⟩, ⟨917632, 917759, 3⟩, ⟨917760, 917999, 4⟩, ⟨918000, 921599, 3⟩]
def lCnj : List Row := [⟨2325, 2361, 1⟩, ⟨2392, 2399, 1⟩, ⟨2424, 2431, 1⟩, ⟨2453, 2472, 1⟩, ⟨2474, 2480, 1⟩, ⟨2482, 2482, 1⟩, ⟨2486, 2489, 1⟩, ⟨2524, 2525, 1⟩, ⟨2527, 2527, 1⟩, ⟨2544, 2545, 1⟩, ⟨2709, 2728, 1⟩, ⟨2730, 2736, 1⟩, ⟨2738, 2739, 1⟩, ⟨2741, 2745, 1⟩, ⟨2809, 2809, 1⟩, ⟨2837, 2856, 1⟩, ⟨2858, 2864, 1⟩, ⟨2866, 2867, 1⟩, ⟨2869, 2873, 1⟩, ⟨2908, 2909, 1⟩, ⟨2911, 2911, 1⟩, ⟨2929, 2929, 1⟩, ⟨3093, 3112, 1⟩, ⟨3114, 3129, 1⟩, ⟨3160, 3162, 1⟩, ⟨3349, 3386, 1⟩]
def lWrd : List Row := [⟨9, 13, 1⟩, ⟨32, 32, 1⟩, ⟨48, 57, 2⟩, ⟨65, 90, 2⟩, ⟨95, 95, 2⟩, ⟨97, 122, 2⟩, ⟨133, 133, 1⟩, ⟨160, 160, 1⟩, ⟨170, 170, 2⟩, ⟨181, 181, 2⟩, ⟨186, 186, 2⟩, ⟨192, 214, 2⟩, ⟨216, 246, 2⟩, ⟨248, 705, 2⟩, ⟨768, 884, 2⟩, ⟨886, 893, 2⟩, ⟨895, 895, 2⟩, ⟨902, 902, 2⟩, ⟨904, 1013, 2⟩, ⟨1015, 1153, 2⟩, ⟨1155, 1327, 2⟩, ⟨1329, 1366, 2⟩, ⟨1376, 1416, 2⟩, ⟨1425, 1469, 2⟩, ⟨1488, 1514, 2⟩, ⟨1552, 1562, 2⟩, ⟨1568, 1641, 2⟩, ⟨1646, 1747, 2⟩, ⟨1749, 1756, 2⟩, ⟨1759, 1768, 2⟩, ⟨1770, 1788, 2⟩, ⟨1808, 1866, 2⟩, ⟨2304, 2403, 2⟩, ⟨2406, 2415, 2⟩, ⟨2417, 3571, 2⟩, ⟨3585, 3642, 2⟩, ⟨3648, 3662, 2⟩, ⟨3664, 3673, 2⟩, ⟨3713, 3807, 2⟩, ⟨3864, 3897, 2⟩, ⟨3904, 3972, 2⟩, ⟨3984, 4028, 2⟩, ⟨4096, 4169, 2⟩, ⟨4176, 4253, 2⟩, ⟨4256, 4346, 2⟩, ⟨4348, 4607, 2⟩, ⟨4608, 4959, 2⟩, ⟨5760, 5760, 1⟩, ⟨6016, 6099, 2⟩, ⟨7680, 8188, 2⟩, ⟨8192, 8202, 1⟩, ⟨8232, 8233, 1⟩, ⟨8239, 8239, 1⟩, ⟨8287, 8287, 1⟩, ⟨8486, 8486, 2⟩, ⟨8490, 8491, 2⟩, ⟨8544, 8584, 2⟩, ⟨12288, 12288, 1⟩, ⟨12293, 12295, 2⟩, ⟨12321, 12335, 2⟩, ⟨12353, 12438, 2⟩, ⟨12441, 12442, 2⟩, ⟨12445, 12447, 2⟩, ⟨12449, 12538, 2⟩, ⟨12540, 12543, 2⟩, ⟨12549, 12591, 2⟩, ⟨12593, 12686, 2⟩, ⟨13312, 19903, 2⟩, ⟨19968, 40959, 2⟩, ⟨43360, 43388, 2⟩, ⟨44032, 55203, 2⟩, ⟨55216, 55291, 2⟩, ⟨63744, 64255, 2⟩, ⟨64285, 64335, 2⟩, ⟨65296, 65305, 2⟩, ⟨65313, 65338, 2⟩, ⟨65345, 65370, 2⟩, ⟨65382, 65500, 2⟩, ⟨66560, 66639, 2⟩, ⟨131072, 195103, 2⟩, ⟨196608, 205743, 2⟩]
theorem clsT_eq : clsT = lCls := by kernel_rfl
theorem cnjT_eq : cnjT = lCnj := by kernel_rfl
theorem wrdT_eq : wrdT = lWrd := by kernel_rfl
theorem greatest : ∀ (L : List Nat) (s n : Nat), s ≤ n → ∃ b, (b = s ∨ b ∈ L) ∧ s ≤ b ∧ b ≤ n ∧ ∀ c ∈ L, c ≤ n → c ≤ b
 | [], s, n, h => ⟨s, .inl rfl, Nat.le_refl _, h, fun c hc => by cases hc⟩
 | x :: L, s, n, h => by
  obtain ⟨b, h1, h2, h3, h4⟩ := greatest L s n h
  by_cases hx : x ≤ n ∧ b < x
  ·exact ⟨x, .inr List.mem_cons_self, by omega, hx.1, fun c hc hcn => by
    rcases List.mem_cons.1 hc with rfl | hc
    ·exact Nat.le_refl _
    ·have := h4 c hc hcn; omega⟩
  ·exact ⟨b, h1.imp id (List.mem_cons_of_mem _), h2, h3, fun c hc hcn => by
    rcases List.mem_cons.1 hc with rfl | hc
    ·omega
    ·exact h4 c hc hcn⟩
def ends (T : List Row) : List Nat := T.flatMap fun r => [r.lo, r.hi + 1]
theorem lkup_stay : ∀ {T : List Row} {b n : Nat}, b ≤ n → (∀ c ∈ ends T, c ≤ n → c ≤ b) → lkup T n = lkup T b
 | [], _, _, _, _ => rfl
 | r :: T, b, n, hb, h => by
  have h1 : r.lo ≤ n → r.lo ≤ b := h r.lo (by simp [ends])
  have h2 : r.hi + 1 ≤ n → r.hi + 1 ≤ b := h (r.hi + 1) (by simp [ends])
  have ih := lkup_stay (T := T) hb fun c hc => h c (by
   unfold ends at hc ⊢
   rw [List.flatMap_cons]
   exact List.mem_append_right _ hc)
  have e : (Nat.ble r.lo n && Nat.ble n r.hi) = (Nat.ble r.lo b && Nat.ble b r.hi) := by
   rw [Bool.eq_iff_iff]
   simp only [Bool.and_eq_true, Nat.ble_eq]
   omega
  rw [lkup, lkup, e, ih]
def chk (A B : List Row) (s e : Nat) : Bool := (s :: (ends A ++ ends B)).all fun b => !(Nat.ble s b && Nat.ble (b + 1) e) || Nat.beq (lkup A b) (lkup B b)
theorem same_on {A B : List Row} {s e : Nat} (h : chk A B s e = true) {n : Nat} (h1 : s ≤ n) (h2 : n < e) : lkup A n = lkup B n := by
 obtain ⟨b, hb, g1, g2, g3⟩ := greatest (ends A ++ ends B) s n h1
 have hm : b ∈ s :: (ends A ++ ends B) := by
  rcases hb with rfl | hb
  ·exact List.mem_cons_self
  ·exact List.mem_cons_of_mem _ hb
 have := List.all_eq_true.1 h b hm
 simp only [Bool.or_eq_true, Bool.not_eq_true', Bool.and_eq_false_iff, Nat.beq_eq_true_eq] at this
 rw [lkup_stay g2 fun c hc => g3 c (List.mem_append_left _ hc), lkup_stay g2 fun c hc => g3 c (List.mem_append_right _ hc)]
 rcases this with (h | h) | h
 ·have : Nat.ble s b = true := by rw [Nat.ble_eq]; exact g1
  rw [this] at h; cases h
 ·have : Nat.ble (b + 1) e = true := by rw [Nat.ble_eq]; omega
  rw [this] at h; cases h
 ·exact Nat.eq_of_beq_eq_true h
def rowsC (ch : List (Bool × Int × Int)) (n : Nat) : List Row := ch.map fun x => ⟨x.2.1.toNat, x.2.2.toNat, n⟩
def rowsT (T : List (List (Bool × Int × Int) × Int)) : List Row := T.flatMap fun p => rowsC p.1 p.2.toNat
def okC2 (ch : List (Bool × Int × Int)) : Bool := ch.all fun x => decide (0 ≤ x.2.1) && decide (0 ≤ x.2.2) && (!x.1 || x.2.1 == x.2.2)
def okT2 (T : List (List (Bool × Int × Int) × Int)) : Bool := T.all fun p => decide (0 ≤ p.2) && okC2 p.1
theorem inR_nat {a : Int} (ha : 0 ≤ a) {x : Bool × Int × Int} (h : (decide (0 ≤ x.2.1) && decide (0 ≤ x.2.2) && (!x.1 || x.2.1 == x.2.2)) = true) : inR a x = (Nat.ble x.2.1.toNat a.toNat && Nat.ble a.toNat x.2.2.toNat) := by
 obtain ⟨b, l, u⟩ := x
 simp only [Bool.and_eq_true, decide_eq_true_eq, Bool.or_eq_true, Bool.not_eq_true', beq_iff_eq] at h
 unfold inR
 rw [Bool.eq_iff_iff]
 cases b with
 | true =>
  simp only [if_true, beq_iff_eq, Bool.and_eq_true, Nat.ble_eq]
  have : l = u := by rcases h.2 with h | h; cases h; exact h
  omega
 | false =>
  simp only [Bool.false_eq_true, if_false, Bool.and_eq_true, decide_eq_true_eq, Nat.ble_eq]
  omega
theorem lkup_chain {a : Int} (ha : 0 ≤ a) (n : Nat) (R : List Row) : ∀ {ch : List (Bool × Int × Int)}, okC2 ch = true → lkup (rowsC ch n ++ R) a.toNat = if inCh a ch then n else lkup R a.toNat
 | [], _ => rfl
 | x :: ch, h => by
  unfold okC2 at h
  rw [List.all_cons, Bool.and_eq_true] at h
  have e := inR_nat ha h.1
  have ih := lkup_chain ha n R (ch := ch) h.2
  have e2 : rowsC (x :: ch) n ++ R = ⟨x.2.1.toNat, x.2.2.toNat, n⟩ :: (rowsC ch n ++ R) := rfl
  have e3 : inCh a (x :: ch) = (inR a x || inCh a ch) := rfl
  rw [e2, lkup, ih, e3, ← e]
  cases inR a x <;> simp
theorem clsV_nat {a : Int} (ha : 0 ≤ a) : ∀ {T : List (List (Bool × Int × Int) × Int)}, okT2 T = true → clsV a 0 T = (lkup (rowsT T) a.toNat : Nat)
 | [], _ => rfl
 | (ch, n) :: T, h => by
  unfold okT2 at h
  rw [List.all_cons, Bool.and_eq_true, Bool.and_eq_true, decide_eq_true_eq] at h
  have ih := clsV_nat ha (T := T) h.2
  have e2 : rowsT ((ch, n) :: T) = rowsC ch n.toNat ++ rowsT T := rfl
  rw [clsV, e2, lkup_chain ha n.toNat (rowsT T) h.1.2, ih]
  split
  ·have := h.1.1; dsimp only at this; omega
  ·rfl
theorem ok1 : okT2 rC1 = true := by kernel_rfl
theorem ok2 : okT2 rC2 = true := by kernel_rfl
theorem ok3 : okT2 rC3 = true := by kernel_rfl
theorem okCon : okC2 rCon = true := by kernel_rfl
theorem okBla : okC2 rBla = true := by kernel_rfl
theorem okLet : okC2 rLet = true := by kernel_rfl
theorem chk1 : chk lCls (rowsT rC1) 0 3076 = true := by kernel_rfl
theorem chk2 : chk lCls (rowsT rC2) 3076 8505 = true := by kernel_rfl
theorem chk3 : chk lCls (rowsT rC3) 8505 1114112 = true := by kernel_rfl
theorem chkCon : chk lCnj (rowsC rCon 1) 0 1114112 = true := by kernel_rfl
theorem chkWrd : chk lWrd (rowsC rBla 1 ++ rowsC rLet 2) 0 1114112 = true := by kernel_rfl
end Rgl
end Go.Proofs.YtabcpghhfeplaaaGreat
namespace Go.Proofs.YtabcpghhfeplaaaGreat
open Gly
namespace Clu
structure Sc where
 last : Nat
 flags : Nat
 pict : Nat
 conj : Nat
def Sc.zero : Sc := ⟨0, 0, 0, 0⟩
def Sc.note (s : Sc) (c p : Nat) : Sc :=
 ⟨c, if c = 6 then s.flags + 1 else 0, if c = 14 then 1 else if s.pict = 1 ∧ c = 5 then 2 else if s.pict = 1 ∧ c = 4 then s.pict else 0,
  if p = 1 then 1 else if 0 < s.conj ∧ p = 3 then 2 else if 0 < s.conj ∧ p = 2 then s.conj else 0⟩
def apart (c : Nat) : Bool := decide (c = 1 ∨ c = 2 ∨ c = 3)
def hangul (l r : Nat) : Bool :=
 decide ((l = 9 ∧ (r = 9 ∨ r = 10 ∨ r = 12 ∨ r = 13)) ∨ ((l = 12 ∨ l = 10) ∧ (r = 10 ∨ r = 11)) ∨ ((l = 13 ∨ l = 11) ∧ r = 11))
def joins (s : Sc) (c p : Nat) : Bool :=
 if s.last = 1 ∧ c = 2 then true else if apart s.last = true ∨ apart c = true then false else if c = 4 ∨ c = 5 ∨ c = 8 ∨ s.last = 7 then true else if hangul s.last c then true
 else if p = 1 ∧ s.conj = 2 then true else if c = 14 then s.pict == 2 else if c = 6 then s.flags % 2 == 1 else false
noncomputable def stp (s : Sc) (a : Int) : Sc := if joins s (cls a) (cnj a) then s.note (cls a) (cnj a) else Sc.zero.note (cls a) (cnj a)
noncomputable def sc (l : List Int) : Sc := l.foldl stp Sc.zero
theorem stp_zero (a : Int) : stp Sc.zero a = Sc.zero.note (cls a) (cnj a) := by unfold stp; split <;> rfl
theorem stp_not {s : Sc} {a : Int} (h : joins s (cls a) (cnj a) = false) : stp s a = stp Sc.zero a := by rw [stp_zero]; unfold stp; rw [if_neg (by rw [h]; decide)]
theorem stp_joins {s : Sc} {a : Int} (h : joins s (cls a) (cnj a) = true) : stp s a = s.note (cls a) (cnj a) := by unfold stp; rw [if_pos h]
theorem sc_snoc (l : List Int) (a : Int) : sc (l ++ [a]) = stp (sc l) a := by simp [sc]
theorem flags_stp (s : Sc) (a : Int) : (stp s a).flags ≤ s.flags + 1 := by
 unfold stp
 split <;> (simp only [Sc.note, Sc.zero]; split <;> omega)
theorem flags_le (l : List Int) : (sc l).flags ≤ l.length := by
 have key : ∀ (l : List Int) (s : Sc), (l.foldl stp s).flags ≤ s.flags + l.length := by
  intro l
  induction l with
  | nil => intro s; simp
  | cons a r ih => intro s; have := ih (stp s a); have := flags_stp s a; simp only [List.foldl_cons, List.length_cons]; omega
 have := key l Sc.zero
 simpa [sc, Sc.zero] using this
noncomputable def bk (A : List Int) (k : Nat) : Bool := match A[k]? with
 | some a => k == 0 || !joins (sc (A.take k)) (cls a) (cnj a)
 | none => k == A.length
theorem bk_zero (A : List Int) : bk A 0 = true := by
 unfold bk
 cases A <;> simp
theorem bk_len (A : List Int) : bk A A.length = true := by
 unfold bk
 rw [List.getElem?_eq_none (Nat.le_refl _)]
 simp
theorem bk_at {A : List Int} {k : Nat} {a : Int} (h : A[k]? = some a) (h0 : 0 < k) : bk A k = !joins (sc (A.take k)) (cls a) (cnj a) := by
 unfold bk
 rw [h]
 have : (k == 0) = false := by rw [beq_eq_false_iff_ne]; omega
 simp [this]
theorem bk_le {A : List Int} {k : Nat} (h : bk A k = true) : k ≤ A.length := by
 unfold bk at h
 split at h
 ·rename_i a ha
  have := (List.getElem?_eq_some_iff.1 ha).1
  omega
 ·simp only [beq_iff_eq] at h; omega
theorem sc_bk {A : List Int} {i : Nat} {a : Int} (hb : bk A i = true) (ha : A[i]? = some a) : sc (A.take (i + 1)) = sc [a] := by
 rw [List.take_add_one, ha]
 show sc (A.take i ++ [a]) = _
 rw [sc_snoc]
 show _ = stp Sc.zero a
 cases i with
 | zero => rfl
 | succ i =>
  rw [bk_at ha (by omega)] at hb
  exact stp_not (by simpa using hb)
noncomputable def cutsTo (A : List Int) (k : Nat) : List Nat := (List.range (k + 1)).filter (bk A)
noncomputable def cuts (A : List Int) : List Nat := cutsTo A A.length
theorem cutsTo_zero (A : List Int) : cutsTo A 0 = [0] := by
 unfold cutsTo
 have : List.range (0 + 1) = [0] := rfl
 rw [this, List.filter_cons_of_pos (bk_zero A)]; rfl
theorem cutsTo_next {A : List Int} {i j : Nat} (hij : i < j) (hb : bk A j = true) (hn : ∀ k, i < k → k < j → bk A k = false) : cutsTo A j = cutsTo A i ++ [j] := by
 unfold cutsTo
 have key : ∀ d, i + d < j → (List.range (i + d + 1)).filter (bk A) = (List.range (i + 1)).filter (bk A) := by
  intro d
  induction d with
  | zero => intro _; rfl
  | succ d ih =>
   intro h
   rw [show i + (d + 1) + 1 = (i + d + 1) + 1 by omega, List.range_succ, List.filter_append, ih (by omega), List.filter_cons_of_neg (by rw [hn _ (by omega) (by omega)]; decide)]
   simp
 rw [List.range_succ, List.filter_append, List.filter_cons_of_pos hb]
 obtain ⟨d, rfl⟩ : ∃ d, j = i + d + 1 := ⟨j - i - 1, by omega⟩
 rw [key d (by omega)]; rfl
theorem mem_cuts {A : List Int} {k : Nat} : k ∈ cuts A ↔ bk A k = true := by
 unfold cuts cutsTo
 rw [List.mem_filter, List.mem_range]
 exact ⟨fun h => h.2, fun h => ⟨by have := bk_le h; omega, h⟩⟩
theorem cuts_lt {A : List Int} : (cuts A).Pairwise (· < ·) := (List.pairwise_lt_range).filter _
theorem cutsTo_len (A : List Int) (k : Nat) : (cutsTo A k).length ≤ k + 1 := by
 unfold cutsTo
 have := List.length_filter_le (bk A) (List.range (k + 1))
 rwa [List.length_range] at this
end Clu
end Go.Proofs.YtabcpghhfeplaaaGreat
namespace Go.Proofs.YtabcpghhfeplaaaGreat
open Go Go.Vx
theorem nat_ofInt {b : Nat} {a : Int} (h0 : 0 ≤ a) (h : a < 2 ^ b) : (BitVec.ofInt b a).toNat = a.toNat := by
 rw [BitVec.toNat_ofInt]
 have e : ((2 ^ b : Nat) : Int) = (2 : Int) ^ b := by simp
 rw [e, Int.emod_eq_of_lt h0 h]
theorem and_lo {b k : Nat} {a m : Int} (h0 : 0 ≤ a) (h : a < 2 ^ b) (hm : m = 2 ^ k - 1) (hk : k ≤ b) : ((BitVec.toNat (BitVec.ofInt b a &&& BitVec.ofInt b m) : Nat) : Int) = a % 2 ^ k := by
 have h1 : (1 : Int) ≤ 2 ^ k := by have : (0 : Int) < 2 ^ k := Int.pow_pos (by decide); omega
 have h2 : (2 : Int) ^ k ≤ 2 ^ b := by
  have : (2 : Nat) ^ k ≤ 2 ^ b := Nat.pow_le_pow_right (by decide) hk
  exact_mod_cast this
 rw [BitVec.toNat_and, nat_ofInt h0 h, nat_ofInt (by omega) (by omega)]
 have : m.toNat = 2 ^ k - 1 := by
  have e : ((2 ^ k : Nat) : Int) = (2 : Int) ^ k := by simp
  omega
 rw [this, Nat.and_two_pow_sub_one_eq_mod]
 have e : ((2 ^ k : Nat) : Int) = (2 : Int) ^ k := by simp
 rw [Int.natCast_emod, e, Int.toNat_of_nonneg h0]
theorem or_shift {b k : Nat} {a c : Int} (h0 : 0 ≤ a) (hc0 : 0 ≤ c) (hc : c < 2 ^ k) (h : a * 2 ^ k + c < 2 ^ b) : ((BitVec.toNat (BitVec.ofInt b (a * 2 ^ k) ||| BitVec.ofInt b c) : Nat) : Int) = a * 2 ^ k + c := by
 have hp : (0 : Int) < 2 ^ k := Int.pow_pos (by decide)
 have hak : 0 ≤ a * 2 ^ k := Int.mul_nonneg h0 (by omega)
 rw [BitVec.toNat_or, nat_ofInt hak (by omega), nat_ofInt hc0 (by omega)]
 have e : ((2 ^ k : Nat) : Int) = (2 : Int) ^ k := by simp
 have e1 : (a * 2 ^ k).toNat = a.toNat <<< k := by
  rw [Nat.shiftLeft_eq]
  have : ((a * 2 ^ k).toNat : Int) = ((a.toNat * 2 ^ k : Nat) : Int) := by
   rw [Int.toNat_of_nonneg hak, Int.natCast_mul, e, Int.toNat_of_nonneg h0]
  exact_mod_cast this
 rw [e1, ← Nat.shiftLeft_add_eq_or_of_lt (by omega), ← e1, Int.natCast_add, Int.toNat_of_nonneg hak, Int.toNat_of_nonneg hc0]
theorem or_shift' {b k : Nat} {a c : Int} (h0 : 0 ≤ a) (hc0 : 0 ≤ c) (hc : c < 2 ^ k) (h : a * 2 ^ k + c < 2 ^ b) : ((BitVec.toNat (BitVec.ofInt b c ||| BitVec.ofInt b (a * 2 ^ k)) : Nat) : Int) = a * 2 ^ k + c := by
 rw [BitVec.or_comm]; exact or_shift h0 hc0 hc h
theorem and_hi {a m : Int} (h0 : 0 ≤ a) (h : a < 2 ^ 63) (hm : m = 1023) : ((BitVec.toNat (BitVec.ofInt 64 a &&& ~~~(BitVec.ofInt 64 m)) : Nat) : Int) = a / 1024 * 1024 := by
 subst hm
 have e0 : (~~~(BitVec.ofInt 64 1023) : BitVec 64).toNat = (2 ^ 54 - 1) <<< 10 := by decide
 rw [BitVec.toNat_and, nat_ofInt h0 (by omega), e0]
 have : a.toNat &&& (2 ^ 54 - 1) <<< 10 = (a.toNat >>> 10) <<< 10 := by
  apply Nat.eq_of_testBit_eq
  intro i
  rw [Nat.testBit_and, Nat.testBit_shiftLeft, Nat.testBit_shiftLeft, Nat.testBit_two_pow_sub_one, Nat.testBit_shiftRight]
  by_cases hi : 10 ≤ i
  ·have e : 10 + (i - 10) = i := by omega
   rw [e]
   by_cases h64 : i < 64
   ·have : i - 10 < 54 := by omega
    simp [hi, this]
   ·have hb : a.toNat.testBit i = false := Nat.testBit_lt_two_pow (Nat.lt_of_lt_of_le (by omega : a.toNat < 2 ^ 63) (Nat.pow_le_pow_right (by decide) (by omega)))
    simp [hb]
  ·simp [hi]
 rw [this, Nat.shiftLeft_eq, Nat.shiftRight_eq_div_pow]
 omega
theorem wrap64 {a : Int} (h0 : -(2 ^ 63) ≤ a) (h : a < 2 ^ 63) : IntKind.wrap .i64 a = a := by
 simp only [IntKind.wrap, IntKind.signed, IntKind.bits]
 simp [Int.bmod_def]; omega
theorem wrap8 {a : Int} (h0 : 0 ≤ a) (h : a < 256) : IntKind.wrap .u8 a = a := by
 simp only [IntKind.wrap, IntKind.signed, IntKind.bits]
 simp; omega
theorem wrap8m {a : Int} : IntKind.wrap .u8 a = a % 256 := by
 simp only [IntKind.wrap, IntKind.signed, IntKind.bits]
 simp
end Go.Proofs.YtabcpghhfeplaaaGreat
namespace Go.Proofs.YtabcpghhfeplaaaGreat
open Go Go.Vx Cdc Gly Rgl
namespace Rgl
theorem cls_tab {a : Int} (hs : Scalar a) (hh : ¬ (44032 ≤ a ∧ a < 55204)) : (cls a : Int) = if a < 3076 then clsV a 0 rC1 else if a < 8505 then clsV a 0 rC2 else clsV a 0 rC3 := by
 have ha : 0 ≤ a := by rcases hs with h | h <;> omega
 have hb : a.toNat < 1114112 := by rcases hs with h | h <;> omega
 have e : cls a = lkup lCls a.toNat := by unfold cls; rw [if_pos hs, if_neg hh, clsT_eq]
 rw [e]
 split
 ·rw [clsV_nat ha ok1, same_on chk1 (Nat.zero_le _) (by omega)]
 ·split
  ·rw [clsV_nat ha ok2, same_on chk2 (by omega) (by omega)]
  ·rw [clsV_nat ha ok3, same_on chk3 (by omega) (by omega)]
theorem con_tab {a : Int} (hs : Scalar a) : lkup cnjT a.toNat = if inCh a rCon then 1 else 0 := by
 have ha : 0 ≤ a := by rcases hs with h | h <;> omega
 have hb : a.toNat < 1114112 := by rcases hs with h | h <;> omega
 rw [cnjT_eq, same_on chkCon (Nat.zero_le _) hb]
 have := lkup_chain ha 1 [] okCon
 rw [List.append_nil] at this
 exact this
theorem con_low : (rCon.all fun x => decide (0 ≤ x.2.1) && decide (x.2.2 < 44032) && (!x.1 || x.2.1 == x.2.2)) = true := by kernel_rfl
theorem con_in {a : Int} (h : inCh a rCon = true) : 0 ≤ a ∧ a < 44032 := by
 obtain ⟨x, hx, h⟩ := List.any_eq_true.1 h
 have := List.all_eq_true.1 con_low x hx
 obtain ⟨b, l, u⟩ := x
 simp only [Bool.and_eq_true, decide_eq_true_eq, Bool.or_eq_true, Bool.not_eq_true', beq_iff_eq] at this
 unfold inR at h
 cases b with
 | true => simp at h this; omega
 | false => simp at h; omega
def chkCC : Bool := (0 :: (ends lCnj ++ ends lCls)).all fun b => Nat.beq (lkup lCnj b) 0 || Nat.beq (lkup lCls b) 0
theorem chkCC_ok : chkCC = true := by kernel_rfl
theorem con_other {n : Nat} (h : lkup lCnj n ≠ 0) : lkup lCls n = 0 := by
 obtain ⟨b, hb, g1, g2, g3⟩ := greatest (ends lCnj ++ ends lCls) 0 n (Nat.zero_le _)
 have hm : b ∈ 0 :: (ends lCnj ++ ends lCls) := by
  rcases hb with rfl | hb
  ·exact List.mem_cons_self
  ·exact List.mem_cons_of_mem _ hb
 have := List.all_eq_true.1 chkCC_ok b hm
 simp only [Bool.or_eq_true] at this
 rw [lkup_stay g2 fun c hc => g3 c (List.mem_append_left _ hc)] at h
 rw [lkup_stay g2 fun c hc => g3 c (List.mem_append_right _ hc)]
 rcases this with q | q
 ·exact absurd (Nat.eq_of_beq_eq_true q) h
 ·exact Nat.eq_of_beq_eq_true q
theorem con_cls {a : Int} (h : inCh a rCon = true) : Scalar a ∧ cls a = 0 := by
 obtain ⟨h1, h2⟩ := con_in h
 have hs : Scalar a := .inl ⟨h1, by omega⟩
 refine ⟨hs, ?_⟩
 have := con_tab hs
 rw [h, if_pos rfl, cnjT_eq] at this
 unfold cls
 rw [if_pos hs, if_neg (by omega), clsT_eq]
 exact con_other (by omega)
theorem con_8204 : inCh 8204 rCon = false := by kernel_rfl
theorem cnj_ref (a : Int) : cnj a = if a = 2381 ∨ a = 2509 ∨ a = 2765 ∨ a = 2893 ∨ a = 3149 ∨ a = 3405 then 3 else if (cls a = 4 ∨ cls a = 5) ∧ a ≠ 8204 then 2 else if inCh a rCon then 1 else 0 := by
 unfold cnj
 split
 ·rfl
 by_cases h2 : a = 8204
 ·subst h2
  rw [if_pos rfl, if_neg (fun h => h.2 rfl), con_8204]; rfl
 ·rw [if_neg h2]
  by_cases h3 : cls a = 4 ∨ cls a = 5
  ·rw [if_pos h3, if_pos ⟨h3, h2⟩]
  ·rw [if_neg h3, if_neg (show ¬ ((cls a = 4 ∨ cls a = 5) ∧ a ≠ 8204) from fun h => h3 h.1)]
   cases h4 : inCh a rCon with
   | true =>
    obtain ⟨g1, g2⟩ := con_cls h4
    rw [if_pos ⟨g2, g1⟩, con_tab g1, h4]
   | false =>
    split
    ·rename_i h5
     rw [con_tab h5.2, h4]
    ·rfl
theorem wrd_low : ((rBla ++ rLet).all fun x => decide (0 ≤ x.2.1) && (decide (x.2.2 < 55296) || (decide (57343 < x.2.1) && decide (x.2.2 < 1114112))) && (!x.1 || x.2.1 == x.2.2)) = true := by kernel_rfl
theorem wrd_in {a : Int} (h : inCh a rBla = true ∨ inCh a rLet = true) : Scalar a := by
 obtain ⟨x, hx, h⟩ : ∃ x ∈ rBla ++ rLet, inR a x = true := by
  rcases h with h | h
  ·obtain ⟨x, hx, h⟩ := List.any_eq_true.1 h; exact ⟨x, List.mem_append_left _ hx, h⟩
  ·obtain ⟨x, hx, h⟩ := List.any_eq_true.1 h; exact ⟨x, List.mem_append_right _ hx, h⟩
 have := List.all_eq_true.1 wrd_low x hx
 obtain ⟨b, l, u⟩ := x
 simp only [Bool.and_eq_true, decide_eq_true_eq, Bool.or_eq_true, Bool.not_eq_true', beq_iff_eq] at this
 unfold inR at h
 unfold Scalar
 cases b with
 | true => simp at h this; omega
 | false => simp at h; omega
theorem wrd_ref (a : Int) : wrd a = if inCh a rBla then 0 else if inCh a rLet then 2 else 1 := by
 by_cases hs : Scalar a
 ·have ha : 0 ≤ a := by rcases hs with h | h <;> omega
  have hb : a.toNat < 1114112 := by rcases hs with h | h <;> omega
  have e1 := lkup_chain ha 1 (rowsC rLet 2) okBla
  have e2 := lkup_chain ha 2 [] okLet
  rw [List.append_nil] at e2
  rw [e2] at e1
  unfold wrd
  rw [if_pos hs, wrdT_eq, same_on chkWrd (Nat.zero_le _) hb, e1]
  cases inCh a rBla <;> cases inCh a rLet <;> rfl
 ·unfold wrd
  rw [if_neg hs]
  cases h1 : inCh a rBla with
  | true => exact absurd (wrd_in (.inl h1)) hs
  | false =>
   cases h2 : inCh a rLet with
   | true => exact absurd (wrd_in (.inr h2)) hs
   | false => rfl
end Rgl
section
variable {w : World}
theorem rgscalar_call {a : Int} {K : Bool → World → Prop} (h : K (decide (Scalar a)) w) : callT Tryz.prog 167 #[.int .i64 a] (.one (.one .bool)) K w := by
 refine F167_calls ?_
 unfold F167
 have g : ∀ {b : Bool}, (b = true ↔ Scalar a) → K b w := fun {b} hb => by
  have e : decide (Scalar a) = b := by
   rw [Bool.eq_iff_iff, decide_eq_true_eq]; exact hb.symm
  rw [e] at h; exact h
 refine sif_r (fun h1 => sif_r (fun h2 => sif_r (fun h3 => g ?_) (fun h3 => g ?_)) (fun h2 => g ?_)) (fun h1 => g ?_)
 all_goals simp only [decide_eq_true_eq, decide_eq_false_iff_not, ge_iff_le, gt_iff_lt, Bool.false_eq_true, true_iff, false_iff] at *
 all_goals unfold Scalar
 all_goals omega
theorem rclass_call {a : Int} {K : Int → World → Prop} (h : K ((cls a : Nat) : Int) w) : callT Tryz.prog 159 #[.int .i64 a] (.one (.one (.int .i64))) K w := by
 refine F159_calls ?_
 unfold F159
 refine rgscalar_call ?_
 refine sif_r (fun hn => ?_) (fun hn => ?_)
 ·simp only [Bool.not_eq_true', decide_eq_false_iff_not] at hn
  have : cls a = 3 := by unfold cls; rw [if_neg hn]
  rw [this] at h; exact h
 ·simp only [Bool.not_eq_false', decide_eq_true_eq] at hn
  have h0 : 0 ≤ a := by rcases hn with q | q <;> omega
  refine join_r (fun x W => x = (decide (44032 ≤ a ∧ a < 55204), ()) ∧ w = W) (sif_r (fun h1 => ⟨tupb ?_, rfl⟩) (fun h1 => ⟨tupb ?_, rfl⟩)) ?_
  ·simp only [decide_eq_true_eq, ge_iff_le] at *; omega
  ·simp only [decide_eq_true_eq, decide_eq_false_iff_not, ge_iff_le, Bool.false_eq_true, false_iff] at *; omega
  rintro _ _ ⟨rfl, rfl⟩
  refine sif_r (fun hh => ?_) (fun hh => ?_)
  ·simp only [decide_eq_true_eq] at hh
   refine chk_r (by decide) ?_
   have e : cls a = if (a.toNat - 44032) % 28 = 0 then 12 else 13 := by unfold cls; rw [if_pos hn, if_pos hh]
   rw [e] at h
   rw [wrap64 (by omega) (by omega), Int.tmod_eq_emod_of_nonneg (by omega)]
   refine sif_r (fun h1 => ?_) (fun h1 => ?_)
   ·simp only [beq_iff_eq] at h1
    rw [if_pos (by omega)] at h; exact h
   ·simp only [beq_eq_false_iff_ne, ne_eq] at h1
    rw [if_neg (by omega)] at h; exact h
  ·simp only [decide_eq_false_iff_not] at hh
   rw [cls_tab hn hh] at h
   refine sif_r (fun h1 => ?_) (fun h1 => ?_)
   ·simp only [decide_eq_true_eq] at h1
    rw [if_pos h1] at h; exact g1_call h
   ·simp only [decide_eq_false_iff_not] at h1
    rw [if_neg h1] at h
    refine sif_r (fun h2 => ?_) (fun h2 => ?_)
    ·simp only [decide_eq_true_eq] at h2
     rw [if_pos h2] at h; exact g2_call h
    ·simp only [decide_eq_false_iff_not] at h2
     rw [if_neg h2] at h; exact g3_call h
theorem rconj_call {a : Int} {K : Int → World → Prop} (h : K ((cnj a : Nat) : Int) w) : callT Tryz.prog 171 #[.int .i64 a] (.one (.one (.int .i64))) K w := by
 refine F171_calls ?_
 unfold F171
 rw [cnj_ref] at h
 refine join_r (fun x W => x = (decide (a = 2381 ∨ a = 2509 ∨ a = 2765 ∨ a = 2893 ∨ a = 3149 ∨ a = 3405), ()) ∧ w = W) ?_ ?_
 ·refine sif_r (fun h1 => ⟨tupb ?_, rfl⟩) fun h1 => sif_r (fun h2 => ⟨tupb ?_, rfl⟩) fun h2 => sif_r (fun h3 => ⟨tupb ?_, rfl⟩) fun h3 => sif_r (fun h4 => ⟨tupb ?_, rfl⟩) fun h4 => sif_r (fun h5 => ⟨tupb ?_, rfl⟩) fun h5 => ⟨tupb ?_, rfl⟩
  all_goals simp only [beq_iff_eq, beq_eq_false_iff_ne, ne_eq, decide_eq_true_eq, true_iff] at *
  all_goals omega
 rintro _ _ ⟨rfl, rfl⟩
 refine sif_r (fun h1 => ?_) (fun h1 => ?_)
 ·simp only [decide_eq_true_eq] at h1
  rw [if_pos h1] at h; exact h
 simp only [decide_eq_false_iff_not] at h1
 rw [if_neg h1] at h
 refine rclass_call ?_
 refine join_r (fun x W => x = (decide ((cls a = 4 ∨ cls a = 5) ∧ a ≠ 8204), ()) ∧ w = W) ?_ ?_
 ·refine sif_r (fun h1 => ⟨tupb ?_, rfl⟩) fun h1 => sif_r (fun h2 => ⟨tupb ?_, rfl⟩) fun h2 => ⟨tupb ?_, rfl⟩
  all_goals simp only [beq_iff_eq, beq_eq_false_iff_ne, bne_iff_ne, ne_eq, decide_eq_true_eq, Bool.false_eq_true, false_iff] at *
  all_goals omega
 rintro _ _ ⟨rfl, rfl⟩
 refine sif_r (fun h1 => ?_) (fun h1 => ?_)
 ·simp only [decide_eq_true_eq] at h1
  rw [if_pos h1] at h; exact h
 simp only [decide_eq_false_iff_not] at h1
 rw [if_neg h1] at h
 refine gcon_call (sif_r (fun h2 => ?_) (fun h2 => ?_))
 ·rw [h2] at h; exact h
 ·rw [h2] at h; exact h
theorem rword_call {a : Int} {K : Int → World → Prop} (h : K ((wrd a : Nat) : Int) w) : callT Tryz.prog 158 #[.int .i64 a] (.one (.one (.int .i64))) K w := by
 refine F158_calls ?_
 unfold F158
 rw [wrd_ref] at h
 refine gbla_call (sif_r (fun h1 => ?_) (fun h1 => glet_call (sif_r (fun h2 => ?_) (fun h2 => ?_))))
 ·rw [h1] at h; exact h
 ·rw [h1, h2] at h; exact h
 ·rw [h1, h2] at h; exact h
end
end Go.Proofs.YtabcpghhfeplaaaGreat
namespace Go.Proofs.YtabcpghhfeplaaaGreat
open Gly Clu Rgl
namespace Clu
noncomputable def sN (l : List Int) : Sc := l.foldl (fun s a => s.note (cls a) (cnj a)) Sc.zero
theorem sN_snoc (l : List Int) (a : Int) : sN (l ++ [a]) = (sN l).note (cls a) (cnj a) := by simp [sN]
theorem lin_cls : (([2381, 2509, 2765, 2893, 3149, 3405] : List Int).all fun a => cls a == 4) = true := by kernel_rfl
theorem cnj3 {a : Int} (h : cnj a = 3) : cls a = 4 := by
 rw [cnj_ref] at h
 split at h
 ·rename_i hl
  have := List.all_eq_true.1 lin_cls a (by simp; omega)
  simpa using this
 ·split at h
  ·omega
  ·split at h <;> omega
theorem cnj2 {a : Int} (h : cnj a = 2) : cls a = 4 ∨ cls a = 5 := by
 rw [cnj_ref] at h
 split at h
 ·omega
 ·split at h
  ·rename_i hx; exact hx.1
  ·split at h <;> omega
theorem cnj1 {a : Int} (h : cnj a = 1) : cls a = 0 := by
 rw [cnj_ref] at h
 split at h
 ·omega
 ·split at h
  ·omega
  ·split at h
   ·rename_i hx; exact (con_cls hx).2
   ·omega
theorem cnj_le (a : Int) : cnj a ≤ 3 := by
 rw [cnj_ref]
 split
 ·omega
 ·split
  ·omega
  ·split <;> omega
structure NOk (s : Sc) : Prop where
 fl : 0 < s.flags → s.last = 6
 pi : 0 < s.pict → s.last = 14 ∨ s.last = 4 ∨ s.last = 5
 co : 0 < s.conj → s.last = 0 ∨ s.last = 4 ∨ s.last = 5
theorem nok_note {s : Sc} (a : Int) : NOk (s.note (cls a) (cnj a)) := by
 refine ⟨fun h => ?_, fun h => ?_, fun h => ?_⟩
 ·simp only [Sc.note] at h ⊢
  split at h
  ·assumption
  ·omega
 ·simp only [Sc.note] at h ⊢
  split at h
  ·omega
  ·split at h
   ·omega
   ·split at h <;> omega
 ·simp only [Sc.note] at h ⊢
  split at h
  ·exact .inl (cnj1 ‹_›)
  ·split at h
   ·exact .inr (.inl (cnj3 (by omega)))
   ·split at h
    ·exact .inr (cnj2 (by omega))
    ·omega
theorem nok (l : List Int) : NOk (sN l) := by
 rcases List.eq_nil_or_concat l with rfl | ⟨m, a, rfl⟩
 ·exact ⟨fun h => by simp [sN, Sc.zero] at h, fun h => by simp [sN, Sc.zero] at h, fun h => by simp [sN, Sc.zero] at h⟩
 ·rw [List.concat_eq_append, sN_snoc]; exact nok_note a
structure Alike (s t : Sc) : Prop where
 la : s.last = t.last
 fl : s.flags % 2 = t.flags % 2
 pi : s.pict = t.pict
 co : s.conj = t.conj
theorem alike_note {s t : Sc} (h : Alike s t) (c p : Nat) : Alike (s.note c p) (t.note c p) := by
 obtain ⟨h1, h2, h3, h4⟩ := h
 refine ⟨rfl, ?_, ?_, ?_⟩
 ·simp only [Sc.note]; split <;> omega
 ·simp only [Sc.note, h3]
 ·simp only [Sc.note, h4]
theorem alike_joins {s t : Sc} (h : Alike s t) (c p : Nat) : joins s c p = joins t c p := by
 obtain ⟨h1, h2, h3, h4⟩ := h
 unfold joins
 rw [h1, h2, h3, h4]
theorem note_conj (s : Sc) (c p : Nat) : (s.note c p).conj = (if p = 1 then 1 else if 0 < s.conj ∧ p = 3 then 2 else if 0 < s.conj ∧ p = 2 then s.conj else 0) := rfl
theorem note_pict (s : Sc) (c p : Nat) : (s.note c p).pict = (if c = 14 then 1 else if s.pict = 1 ∧ c = 5 then 2 else if s.pict = 1 ∧ c = 4 then s.pict else 0) := rfl
theorem note_zero (c p : Nat) : (Sc.zero.note c p).flags = (if c = 6 then 1 else 0) ∧ (Sc.zero.note c p).pict = (if c = 14 then 1 else 0) ∧ (Sc.zero.note c p).conj = (if p = 1 then 1 else 0) := by simp [Sc.note, Sc.zero]
theorem alike (l : List Int) : Alike (sc l) (sN l) := by
 have key : ∀ n (l : List Int), l.length = n → Alike (sc l) (sN l) := by
  intro n
  induction n with
  | zero =>
   intro l hl
   obtain rfl := List.length_eq_zero_iff.1 hl
   exact ⟨rfl, rfl, rfl, rfl⟩
  | succ n ih =>
   intro l hl
   rcases List.eq_nil_or_concat l with rfl | ⟨m, a, rfl⟩
   ·simp at hl
   rw [List.concat_eq_append] at hl ⊢
   have ih := ih m (by rw [List.length_append] at hl; simpa using hl)
   rw [sc_snoc, sN_snoc]
   cases hj : joins (sc m) (cls a) (cnj a) with
   | true => rw [stp_joins hj]; exact alike_note ih _ _
   | false =>
    rw [stp_not hj, stp_zero]
    have hN := nok m
    rw [alike_joins ih] at hj
    obtain ⟨n1, n2, n3⟩ := hN
    generalize sN m = t at *
    have c3 := cnj3 (a := a)
    have c2 := cnj2 (a := a)
    have hle := cnj_le a
    generalize cls a = c at *
    generalize cnj a = p at *
    have hap : c = 4 ∨ c = 5 → apart t.last = true := by
     intro hc
     unfold joins at hj
     split at hj
     ·cases hj
     ·split at hj
      ·rename_i hap
       rcases hap with h | h
       ·exact h
       ·simp only [apart, decide_eq_true_eq] at h; omega
      ·rw [if_pos (by omega)] at hj; cases hj
    have hap2 : apart t.last = true → t.flags = 0 ∧ t.pict = 0 ∧ t.conj = 0 := by
     intro h
     simp only [apart, decide_eq_true_eq] at h
     refine ⟨?_, ?_, ?_⟩
     ·rcases Nat.eq_zero_or_pos t.flags with q | q
      ·exact q
      ·have := n1 q; omega
     ·rcases Nat.eq_zero_or_pos t.pict with q | q
      ·exact q
      ·have := n2 q; omega
     ·rcases Nat.eq_zero_or_pos t.conj with q | q
      ·exact q
      ·have := n3 q; omega
    obtain ⟨z1, z2, z3⟩ := note_zero c p
    refine ⟨rfl, ?_, ?_, ?_⟩
    ·rw [z1]
     simp only [Sc.note]
     by_cases hc : c = 6
     ·have : t.flags % 2 = 0 := by
       subst hc
       unfold joins at hj
       split at hj
       ·cases hj
       ·split at hj
        ·rename_i hap'
         rcases hap' with h | h
         ·rw [(hap2 h).1]
         ·simp [apart] at h
        ·split at hj
         ·cases hj
         ·split at hj
          ·cases hj
          ·split at hj
           ·cases hj
           ·simp at hj; omega
      rw [if_pos hc, if_pos hc]; omega
     ·rw [if_neg hc, if_neg hc]
    ·rw [z2]
     simp only [Sc.note]
     by_cases h14 : c = 14
     ·rw [if_pos h14, if_pos h14]
     ·rw [if_neg h14, if_neg h14]
      by_cases hc : c = 4 ∨ c = 5
      ·have := (hap2 (hap hc)).2.1
       rw [if_neg (fun q => by have := q.1; omega), if_neg (fun q => by have := q.1; omega)]
      ·rw [if_neg (fun q => by have := q.2; omega), if_neg (fun q => by have := q.2; omega)]
    ·rw [z3]
     simp only [Sc.note]
     by_cases h1 : p = 1
     ·rw [if_pos h1, if_pos h1]
     ·rw [if_neg h1, if_neg h1]
      by_cases hp : p = 3 ∨ p = 2
      ·have h45 : c = 4 ∨ c = 5 := by
        rcases hp with h | h
        ·exact .inl (c3 h)
        ·exact c2 h
       have := (hap2 (hap h45)).2.2
       rw [if_neg (fun q => by have := q.1; omega), if_neg (fun q => by have := q.1; omega)]
      ·rw [if_neg (fun q => by have := q.2; omega), if_neg (fun q => by have := q.2; omega)]
 exact key _ l rfl
noncomputable def conjB : List Int → Nat → Bool
 | [], _ => false
 | a :: r, n => if cnj a ≠ 3 ∧ cnj a ≠ 2 then decide (0 < n) && (cnj a == 1) else conjB r (if cnj a = 3 then n + 1 else n)
noncomputable def pictB : List Int → Bool
 | [] => false
 | a :: r => if cls a ≠ 4 then cls a == 14 else pictB r
noncomputable def flagB : List Int → Nat
 | [] => 0
 | a :: r => if cls a ≠ 6 then 0 else flagB r + 1
theorem conjB_sN : ∀ (r : List Int) (n : Nat), conjB r n = ((sN r.reverse).conj == 2 || ((sN r.reverse).conj == 1 && decide (0 < n)))
 | [], n => by simp [conjB, sN, Sc.zero]
 | a :: r, n => by
  rw [List.reverse_cons, sN_snoc, conjB]
  have hle := cnj_le a
  rw [note_conj]
  by_cases h : cnj a ≠ 3 ∧ cnj a ≠ 2
  ·rw [if_pos h]
   by_cases h1 : cnj a = 1
   ·rw [h1]; simp
   ·have h0 : cnj a = 0 := by omega
    rw [h0]; simp
  ·rw [if_neg h, conjB_sN r]
   have c2 : (sN r.reverse).conj ≤ 2 := by
    have key : ∀ l : List Int, (sN l).conj ≤ 2 := by
     intro l
     have : ∀ n (l : List Int), l.length = n → (sN l).conj ≤ 2 := by
      intro n
      induction n with
      | zero => intro l hl; rw [List.length_eq_zero_iff.1 hl]; simp [sN, Sc.zero]
      | succ n ih =>
       intro l hl
       rcases List.eq_nil_or_concat l with rfl | ⟨m, b, rfl⟩
       ·simp at hl
       rw [List.concat_eq_append] at hl ⊢
       have := ih m (by rw [List.length_append] at hl; simpa using hl)
       rw [sN_snoc]
       simp only [Sc.note]
       split
       ·omega
       ·split
        ·omega
        ·split <;> omega
     exact this _ l rfl
    exact key _
   generalize (sN r.reverse).conj = t at *
   by_cases h3 : cnj a = 3
   ·rw [h3]
    match t, c2 with
    | 0, _ => simp
    | 1, _ => simp
    | 2, _ => simp
   ·have h2 : cnj a = 2 := by omega
    rw [h2]
    match t, c2 with
    | 0, _ => simp
    | 1, _ => simp
    | 2, _ => simp
theorem pictB_sN : ∀ (r : List Int), pictB r = ((sN r.reverse).pict == 1)
 | [] => by simp [pictB, sN, Sc.zero]
 | a :: r => by
  rw [List.reverse_cons, sN_snoc, pictB, note_pict]
  by_cases h : cls a ≠ 4
  ·rw [if_pos h]
   by_cases h14 : cls a = 14
   ·rw [h14]; simp
   ·have : (cls a == 14) = false := by rw [beq_eq_false_iff_ne]; exact h14
    rw [this, if_neg h14]
    split
    ·rfl
    ·rw [if_neg (fun q => h q.2)]; rfl
  ·rw [if_neg h, pictB_sN r]
   have h4 : cls a = 4 := by omega
   rw [h4, if_neg (by decide), if_neg (by omega)]
   by_cases hp : (sN r.reverse).pict = 1
   ·rw [if_pos ⟨hp, rfl⟩]
   ·rw [if_neg (fun q => hp q.1)]; simp [hp]
theorem flagB_sN : ∀ (r : List Int), flagB r = (sN r.reverse).flags
 | [] => rfl
 | a :: r => by
  rw [List.reverse_cons, sN_snoc, flagB, flagB_sN r]
  simp only [Sc.note]
  by_cases h : cls a = 6
  ·rw [if_neg (by omega), if_pos h]
  ·rw [if_pos h, if_neg h]
noncomputable def joinsB (r : List Int) (l : Nat) (c p : Nat) : Bool :=
 if l = 1 ∧ c = 2 then true else if apart l = true ∨ apart c = true then false else
  hangul l c || decide (c = 4 ∨ c = 5 ∨ c = 8 ∨ l = 7) || (decide (p = 1) && conjB r 0) || (decide (c = 14 ∧ l = 5) && pictB r.tail) || (decide (c = 6) && flagB r % 2 == 1)
theorem joins_back {b : Int} (r : List Int) (c p : Nat) : joins (sc (r.reverse ++ [b])) c p = joinsB (b :: r) (cls b) c p := by
 have ha := alike (r.reverse ++ [b])
 rw [alike_joins ha]
 have hl : (sN (r.reverse ++ [b])).last = cls b := by rw [sN_snoc]; rfl
 have hc : conjB (b :: r) 0 = ((sN (r.reverse ++ [b])).conj == 2) := by
  rw [conjB_sN, List.reverse_cons]; simp
 have hf : flagB (b :: r) = (sN (r.reverse ++ [b])).flags := by rw [flagB_sN, List.reverse_cons]
 have hp : (decide (cls b = 5) && pictB r) = ((sN (r.reverse ++ [b])).pict == 2) := by
  rw [pictB_sN, sN_snoc, note_pict]
  have p2 : (sN r.reverse).pict ≤ 2 := by
   rcases List.eq_nil_or_concat r.reverse with h | ⟨m, x, h⟩
   ·rw [h]; simp [sN, Sc.zero]
   ·rw [h, List.concat_eq_append, sN_snoc]
    simp only [Sc.note]
    split
    ·omega
    ·split
     ·omega
     ·split <;> omega
  by_cases h5 : cls b = 5
  ·rw [h5]
   by_cases h1 : (sN r.reverse).pict = 1
   ·simp [h1]
   ·simp [h1]
  ·by_cases h14 : cls b = 14
   ·simp [h5, h14]
   ·rw [if_neg h14, if_neg (fun h => h5 h.2)]
    by_cases h4 : (sN r.reverse).pict = 1 ∧ cls b = 4
    ·rw [if_pos h4]; simp [h5, h4.1]
    ·rw [if_neg h4]; simp [h5]
 unfold joins joinsB
 rw [hl]
 have : (b :: r).tail = r := rfl
 rw [this, hc, hf]
 split
 ·rfl
 ·split
  ·rfl
  ·have e2 : (decide (c = 14 ∧ cls b = 5) && pictB r) = (decide (c = 14) && ((sN (r.reverse ++ [b])).pict == 2)) := by
    rw [← hp, ← Bool.and_assoc]
    congr 1
    simp
   rw [e2]
   generalize sN (r.reverse ++ [b]) = t at *
   by_cases g1 : c = 4 ∨ c = 5 ∨ c = 8 ∨ cls b = 7
   ·rw [if_pos g1]; simp [g1]
   ·rw [if_neg g1]
    cases g2 : hangul (cls b) c with
    | true => simp
    | false =>
     simp only [Bool.false_eq_true, if_false, g1, decide_false, Bool.false_or]
     by_cases g3 : p = 1 ∧ t.conj = 2
     ·rw [if_pos g3]; simp [g3.1, g3.2]
     ·rw [if_neg g3]
      have e3 : (decide (p = 1) && (t.conj == 2)) = false := by
       rw [Bool.eq_false_iff]; intro q; simp at q; exact g3 q
      rw [e3, Bool.false_or]
      by_cases g4 : c = 14
      ·rw [if_pos g4, g4]; simp
      ·rw [if_neg g4]
       by_cases g5 : c = 6
       ·rw [if_pos g5, g5]; simp
       ·rw [if_neg g5]; simp [g4, g5]
end Clu
end Go.Proofs.YtabcpghhfeplaaaGreat
namespace Go.Proofs.YtabcpghhfeplaaaGreat
open Go Go.Vx
noncomputable def F108 (a0 : Sl) (a1 : Int) (a2 : Int) (a3 : Int) (K : ((Int × Int × Int × Unit) × Int × Unit) → World → Prop) : World → Prop :=
 newO (.cells #[(.int .i64 (0 : Int)), (.int .i64 (0 : Int)), (.int .i64 (0 : Int))] 149) fun b1 =>
 join (S := Bool × Unit) (fun J2 =>
 sif (decide (a2 < (69 : Int))) (
 J2 (true, ())) (
 sif (decide (a2 > (70 : Int))) (
 J2 (true, ())) (
 J2 ((decide (a3 < (0 : Int))), ())))) fun (s3 : Bool × Unit) =>
 sif s3.1 (
 aggSt (at0 b1) (.agg #[(.int .i64 (0 : Int)), (.int .i64 (0 : Int)), (.int .i64 (0 : Int))]) 3 <|
 lds c149 (at0 b1) fun (x4 : (Int × Int × Int × Unit)) =>
 K (x4, (1 : Int), ())) (
 join (S := Bool × Unit) (fun J5 =>
 sif (decide (a1 < (0 : Int))) (
 J5 (true, ())) (
 J5 ((decide (a1 > ((a0.len : Nat) : Int))), ()))) fun (s6 : Bool × Unit) =>
 sif s6.1 (
 aggSt (at0 b1) (.agg #[(.int .i64 (0 : Int)), (.int .i64 (0 : Int)), (.int .i64 (0 : Int))]) 3 <|
 lds c149 (at0 b1) fun (x7 : (Int × Int × Int × Unit)) =>
 K (x7, (2 : Int), ())) (
 callT Tryz.prog 138 #[(.slice a0.a a0.len a0.cap), (.int .i64 a1)] (.one (.one (.int .i64))) fun (x8 : Int) =>
 callT Tryz.prog 139 #[(.slice a0.a a0.len a0.cap)] (.one (.one (.int .i64))) fun (x9 : Int) =>
 sif (decide (x8 ≥ x9)) (
 aggSt (at0 b1) (.agg #[(.int .i64 (0 : Int)), (.int .i64 (0 : Int)), (.int .i64 (0 : Int))]) 3 <|
 lds c149 (at0 b1) fun (x10 : (Int × Int × Int × Unit)) =>
 K (x10, (90 : Int), ())) (
 callT Tryz.prog 140 #[(.slice a0.a a0.len a0.cap)] (.one (.one .sl)) fun (x11 : Sl) =>
 callT Tryz.prog 128 #[(.slice x11.a x11.len x11.cap), (.int .i64 a1)] (.one (.one (.int .i64))) fun (x12 : Int) =>
 callT Tryz.prog 130 #[(.int .i64 a3)] (.one (.one (.int .i64))) fun (x13 : Int) =>
 callT Tryz.prog 129 #[(.slice x11.a x11.len x11.cap), (.int .i64 x12), (.int .i64 x13)] (.one (.one (.int .i64))) fun (x14 : Int) =>
 join (S := Int × Int × Unit) (fun J15 =>
 sif (a2 == (70 : Int)) (
 callT Tryz.prog 130 #[(.int .i64 a3)] (.one (.one (.int .i64))) fun (x17 : Int) =>
 callT Tryz.prog 131 #[(.slice x11.a x11.len x11.cap), (.int .i64 x12), (.int .i64 x17)] (.tup [(.one (.int .i64)), (.one (.int .i64))]) fun (x18 : (Int × Int × Unit)) =>
 J15 (x18.1, x18.2.1, ())) (
 J15 (x12, x14, ()))) fun (s16 : Int × Int × Unit) =>
 sif (decide (s16.2.1 < (0 : Int))) (
 aggSt (at0 b1) (.agg #[(.int .i64 (0 : Int)), (.int .i64 (0 : Int)), (.int .i64 (0 : Int))]) 3 <|
 lds c149 (at0 b1) fun (x19 : (Int × Int × Int × Unit)) =>
 K (x19, (90 : Int), ())) (
 drew <|
 ix x11.a x11.len s16.1 fun p20 =>
 ld (.int .i64) (p20.add (scaled (Int.toNat s16.1) 3)) fun (x21 : Int) =>
 ix x11.a x11.len s16.2.1 fun p22 =>
 ld (.int .i64) ((p22.add (scaled (Int.toNat s16.2.1) 3)).add 1) fun (x23 : Int) =>
 aggSt (at0 b1) (.agg #[(.int .i64 x21), (.int .i64 x23), (.int .i64 (1 : Int))]) 3 <|
 lds c149 (at0 b1) fun (x24 : (Int × Int × Int × Unit)) =>
 K (x24, (0 : Int), ())))))
noncomputable def h108 : Hint := (hS (hR 2) (hS (hJ (16760832, [(23, tB)]) (.region [] (.ops 3 (.split 16 (.skips 2 (.ops 2 (.skips 2 (hO 1)))) (.ops 4 (.split 20 (.skips 2 (hO 1)) (hO 3)))))) (hC (hS (hR 3) hL) hL)) (hS (hJ (8556380160, [(32, tB)]) (.region [] (.ops 3 (.split 27 (.skips 4 (hO 1)) (hO 5)))) (hC (hS (hR 3) hL) hL)) (hS (hS (hR 6) (hC (hS (hR 3) hL) hL)) (hS (hR 3) (hS (hR 4) (hS (hR 2) (hS (hR 6) (hJ (4607182418800029696, [(12, tI), (13, tI)]) (hS (hR 2) (hC (hR 10) hL)) (hS (hS (hR 2) (hC (hS (hR 3) hL) hL)) (hS (.region [0, 1, 2, 3, 4, 5, 6, 7, 8, 9, 10, 11, 12] (hO 13)) hL)))))))))))
theorem F108_calls {a0 : Sl} {a1 : Int} {a2 : Int} {a3 : Int} {K : ((Int × Int × Int × Unit) × Int × Unit) → World → Prop} {w : World} (h : F108 a0 a1 a2 a3 K w) : callT Tryz.prog 108 #[(.slice a0.a a0.len a0.cap), (.int .i64 a1), (.int .i64 a2), (.int .i64 a3)] (.tup [(.agg c149), (.one (.int .i64))]) K w := tied tabOk Tryz.func108 h108 [(.slice a0.a a0.len a0.cap), (.int .i64 a1), (.int .i64 a2), (.int .i64 a3)] (by kernel_rfl) h
noncomputable def F126 (a0 : Sl) (a1 : (Int × Int × Int × Int × Unit)) (a2 : Bool) (K : Sl → World → Prop) : World → Prop :=
 newO (.cells #[(.int .i64 a1.1), (.int .i64 a1.2.1), (.int .i64 a1.2.2.1), (.int .i64 a1.2.2.2.1)] 174) fun b1 =>
 ld (.int .i64) (at0 b1) fun (x2 : Int) =>
 ld (.int .i64) (⟨b1, 1, none⟩ : Addr) fun (x3 : Int) =>
 slc a0.a x2 x3 ((a0.cap : Nat) : Int) a0.cap 1 fun x4 =>
 callT Tryz.prog 132 #[(.slice x4.a x4.len x4.cap)] (.one (.one .sl)) fun (x5 : Sl) =>
 join (S := Sl × Unit) (fun J6 =>
 sloop (S := Sl × Int × Unit) (fun (s8 : Sl × Int × Unit) again9 =>
 sif (decide ((IntKind.wrap .i64 (s8.2.1 + (1 : Int))) < ((x5.len : Nat) : Int))) (
 join (S := Sl × Unit) (fun J10 =>
 ix x5.a x5.len s8.2.1 fun p12 =>
 ld (.int .i64) (p12.add (scaled (Int.toNat s8.2.1) 1)) fun (x13 : Int) =>
 ix x4.a x4.len x13 fun p14 =>
 ld (.int .i64) (p14.add (scaled (Int.toNat x13) 1)) fun (x15 : Int) =>
 callT Tryz.prog 149 #[(.int .i64 x15), (.bool a2)] (.one (.one (.int .i64))) fun (x16 : Int) =>
 join (S := Bool × Unit) (fun J17 =>
 sif (decide (((s8.1.len : Nat) : Int) > (0 : Int))) (
 ix s8.1.a s8.1.len (IntKind.wrap .i64 (((s8.1.len : Nat) : Int) - (1 : Int))) fun p19 =>
 ld (.int .i64) ((p19.add (scaled (Int.toNat (IntKind.wrap .i64 (((s8.1.len : Nat) : Int) - (1 : Int)))) 3)).add 2) fun (x20 : Int) =>
 J17 ((x20 == x16), ())) (
 J17 (false, ()))) fun (s18 : Bool × Unit) =>
 sif s18.1 (
 drew <|
 ld (.int .i64) (at0 b1) fun (x21 : Int) =>
 ix x5.a x5.len (IntKind.wrap .i64 (s8.2.1 + (1 : Int))) fun p22 =>
 ld (.int .i64) (p22.add (scaled (Int.toNat (IntKind.wrap .i64 (s8.2.1 + (1 : Int)))) 1)) fun (x23 : Int) =>
 ix s8.1.a s8.1.len (IntKind.wrap .i64 (((s8.1.len : Nat) : Int) - (1 : Int))) fun p24 =>
 stC ((p24.add (scaled (Int.toNat (IntKind.wrap .i64 (((s8.1.len : Nat) : Int) - (1 : Int)))) 3)).add 1) (.int .i64 (IntKind.wrap .i64 (x21 + x23))) <|
 J10 (s8.1, ())) (
 drew <|
 ld (.int .i64) (at0 b1) fun (x25 : Int) =>
 ix x5.a x5.len s8.2.1 fun p26 =>
 ld (.int .i64) (p26.add (scaled (Int.toNat s8.2.1) 1)) fun (x27 : Int) =>
 ld (.int .i64) (at0 b1) fun (x28 : Int) =>
 ix x5.a x5.len (IntKind.wrap .i64 (s8.2.1 + (1 : Int))) fun p29 =>
 ld (.int .i64) (p29.add (scaled (Int.toNat (IntKind.wrap .i64 (s8.2.1 + (1 : Int)))) 1)) fun (x30 : Int) =>
 newO (.cells #[(.int .i64 (IntKind.wrap .i64 (x25 + x27))), (.int .i64 (IntKind.wrap .i64 (x28 + x30))), (.int .i64 x16)] 180) fun b31 =>
 rawT Tryz.prog (.one (.one .sl)) (Builtin.append_ #[172, 172] 172 #[(.slice s8.1.a s8.1.len s8.1.cap), (.slice (some (at0 b31)) 1 1)]) fun (x32 : Sl) =>
 J10 (x32, ()))) fun (s11 : Sl × Unit) =>
 again9 (s11.1, (IntKind.wrap .i64 (s8.2.1 + (1 : Int))), ())) (
 J6 (s8.1, ()))) (⟨none, 0, 0⟩, (0 : Int), ())) fun (s7 : Sl × Unit) =>
 K s7.1
noncomputable def h126 : Hint := (hS (hR 2) (hS (hR 1) (hS (hR 7) (hS (hR 3) (hJ (19342813113834066793208960, [(7, tS)]) (hS (hR 1) (.block (.loop 19342813113834066793208960 [(7, tS), (10, tI)] (hS (hS (hR 5) (hC hL hL)) (hJ (19342813113834066526869632, [(7, tS)]) (.block (hS (hR 10) (hS (hR 3) (hJ (2251250057871360, [(50, tB)]) (.region [] (.ops 3 (.split 41 (hO 9) (.skips 8 (hO 1))))) (hC (.region [0, 1, 2, 3, 4, 5, 6, 7, 8, 9, 10, 11, 12, 13] (hO 14)) (.region [0, 1, 2, 3, 4, 5, 6, 7, 8, 9, 10, 11, 12, 13, 14, 15, 16, 17, 18, 19, 20] (hO 21))))))) (hR 3)))))) (hS (hR 2) hL))))))
theorem F126_calls {a0 : Sl} {a1 : (Int × Int × Int × Int × Unit)} {a2 : Bool} {K : Sl → World → Prop} {w : World} (h : F126 a0 a1 a2 K w) : callT Tryz.prog 126 #[(.slice a0.a a0.len a0.cap), (.agg (Cells.vals c174 a1).toArray), (.bool a2)] (.one (.one .sl)) K w := tied tabOk Tryz.func126 h126 [(.slice a0.a a0.len a0.cap), (.agg (Cells.vals c174 a1).toArray), (.bool a2)] (by kernel_rfl) h
noncomputable def F128 (a0 : Sl) (a1 : Int) (K : Int → World → Prop) : World → Prop :=
 join (S := Unit) (fun J1 =>
 sloop (S := Int × Unit) (fun (s3 : Int × Unit) again4 =>
 sif (decide (s3.1 < ((a0.len : Nat) : Int))) (
 ix a0.a a0.len s3.1 fun p5 =>
 ld (.int .i64) ((p5.add (scaled (Int.toNat s3.1) 3)).add 1) fun (x6 : Int) =>
 sif (decide (a1 < x6)) (
 K s3.1) (
 again4 ((IntKind.wrap .i64 (s3.1 + (1 : Int))), ()))) (
 J1 ())) ((0 : Int), ())) fun (s2 : Unit) =>
 K (IntKind.wrap .i64 (((a0.len : Nat) : Int) - (1 : Int)))
noncomputable def h128 : Hint := (hS (hR 1) (hJ (1048560, []) (hS (hR 1) (.block (.loop 1048560 [(5, tI)] (hS (hS (hR 4) (hC hL hL)) (hS (.block (hS (hR 7) (hC (hS (hR 2) hL) hL))) (hR 3)))))) (hS (hR 4) hL)))
theorem F128_calls {a0 : Sl} {a1 : Int} {K : Int → World → Prop} {w : World} (h : F128 a0 a1 K w) : callT Tryz.prog 128 #[(.slice a0.a a0.len a0.cap), (.int .i64 a1)] (.one (.one (.int .i64))) K w := tied tabOk Tryz.func128 h128 [(.slice a0.a a0.len a0.cap), (.int .i64 a1)] (by kernel_rfl) h
noncomputable def F129 (a0 : Sl) (a1 : Int) (a2 : Int) (K : Int → World → Prop) : World → Prop :=
 sif (decide (a2 > (IntKind.wrap .i64 (((a0.len : Nat) : Int) - a1)))) (
 K (-1 : Int)) (
 K (IntKind.wrap .i64 ((IntKind.wrap .i64 (a1 + a2)) - (1 : Int))))
noncomputable def h129 : Hint := (hS (hR 1) (hS (hS (hR 6) (hC (hS (hR 1) hL) hL)) (hS (hR 5) hL)))
theorem F129_calls {a0 : Sl} {a1 : Int} {a2 : Int} {K : Int → World → Prop} {w : World} (h : F129 a0 a1 a2 K w) : callT Tryz.prog 129 #[(.slice a0.a a0.len a0.cap), (.int .i64 a1), (.int .i64 a2)] (.one (.one (.int .i64))) K w := tied tabOk Tryz.func129 h129 [(.slice a0.a a0.len a0.cap), (.int .i64 a1), (.int .i64 a2)] (by kernel_rfl) h
noncomputable def F130 (a0 : Int) (K : Int → World → Prop) : World → Prop :=
 sif (a0 == (0 : Int)) (
 K (1 : Int)) (
 K a0)
noncomputable def h130 : Hint := (hS (hR 1) (hS (hS (hR 2) (hC (hS (hR 1) hL) hL)) (hS (hR 2) hL)))
theorem F130_calls {a0 : Int} {K : Int → World → Prop} {w : World} (h : F130 a0 K w) : callT Tryz.prog 130 #[(.int .i64 a0)] (.one (.one (.int .i64))) K w := tied tabOk Tryz.func130 h130 [(.int .i64 a0)] (by kernel_rfl) h
noncomputable def F131 (a0 : Sl) (a1 : Int) (a2 : Int) (K : (Int × Int × Unit) → World → Prop) : World → Prop :=
 callT Tryz.prog 151 #[(.slice a0.a a0.len a0.cap), (.int .i64 a1), (.int .i64 a2)] (.one (.one (.int .i64))) fun (x1 : Int) =>
 sif (decide (x1 < (0 : Int))) (
 K ((-1 : Int), (-1 : Int), ())) (
 ix a0.a a0.len a1 fun p2 =>
 ld (.int .i64) ((p2.add (scaled (Int.toNat a1) 3)).add 2) fun (x3 : Int) =>
 sif (x3 == (0 : Int)) (
 K (a1, x1, ())) (
 join (S := Bool × Unit) (fun J4 =>
 sif (decide ((IntKind.wrap .i64 (x1 + (1 : Int))) < ((a0.len : Nat) : Int))) (
 ix a0.a a0.len (IntKind.wrap .i64 (x1 + (1 : Int))) fun p6 =>
 ld (.int .i64) ((p6.add (scaled (Int.toNat (IntKind.wrap .i64 (x1 + (1 : Int)))) 3)).add 2) fun (x7 : Int) =>
 J4 ((x7 == (0 : Int)), ())) (
 J4 (false, ()))) fun (s5 : Bool × Unit) =>
 sif s5.1 (
 K (a1, (IntKind.wrap .i64 (x1 + (1 : Int))), ())) (
 join (S := Bool × Unit) (fun J8 =>
 sif (decide (a1 > (0 : Int))) (
 ix a0.a a0.len (IntKind.wrap .i64 (a1 - (1 : Int))) fun p10 =>
 ld (.int .i64) ((p10.add (scaled (Int.toNat (IntKind.wrap .i64 (a1 - (1 : Int)))) 3)).add 2) fun (x11 : Int) =>
 J8 ((x11 == (0 : Int)), ())) (
 J8 (false, ()))) fun (s9 : Bool × Unit) =>
 sif s9.1 (
 K ((IntKind.wrap .i64 (a1 - (1 : Int))), x1, ())) (
 K (a1, x1, ())))))
noncomputable def h131 : Hint := (hS (hR 2) (hS (hR 5) (hS (hS (hR 2) (hC (hS (hR 2) hL) hL)) (hS (hS (hR 6) (hC (hS (hR 4) hL) hL)) (hS (hJ (137430564864, [(36, tB)]) (.region [] (.ops 6 (.split 28 (hO 8) (.skips 7 (hO 1))))) (hC (hS (hR 5) hL) hL)) (hS (hJ (2250700302057472, [(50, tB)]) (.region [] (.ops 3 (.split 42 (hO 8) (.skips 7 (hO 1))))) (hC (hS (hR 5) hL) hL)) (hS (hR 4) hL)))))))
theorem F131_calls {a0 : Sl} {a1 : Int} {a2 : Int} {K : (Int × Int × Unit) → World → Prop} {w : World} (h : F131 a0 a1 a2 K w) : callT Tryz.prog 131 #[(.slice a0.a a0.len a0.cap), (.int .i64 a1), (.int .i64 a2)] (.tup [(.one (.int .i64)), (.one (.int .i64))]) K w := tied tabOk Tryz.func131 h131 [(.slice a0.a a0.len a0.cap), (.int .i64 a1), (.int .i64 a2)] (by kernel_rfl) h
noncomputable def F132 (a0 : Sl) (K : Sl → World → Prop) : World → Prop :=
 join (S := Sl × Unit) (fun J1 =>
 sloop (S := Sl × Int × Unit) (fun (s3 : Sl × Int × Unit) again4 =>
 sif (decide (s3.2.1 ≤ ((a0.len : Nat) : Int))) (
 join (S := Sl × Unit) (fun J5 =>
 callT Tryz.prog 152 #[(.slice a0.a a0.len a0.cap), (.int .i64 s3.2.1)] (.one (.one .bool)) fun (x7 : Bool) =>
 sif x7 (
 newO (.cells #[(.int .i64 s3.2.1)] 3) fun b8 =>
 rawT Tryz.prog (.one (.one .sl)) (Builtin.append_ #[26, 26] 26 #[(.slice s3.1.a s3.1.len s3.1.cap), (.slice (some (at0 b8)) 1 1)]) fun (x9 : Sl) =>
 J5 (x9, ())) (
 J5 (s3.1, ()))) fun (s6 : Sl × Unit) =>
 again4 (s6.1, (IntKind.wrap .i64 (s3.2.1 + (1 : Int))), ())) (
 J1 (s3.1, ()))) (⟨none, 0, 0⟩, (0 : Int), ())) fun (s2 : Sl × Unit) =>
 K s2.1
noncomputable def h132 : Hint := (hS (hR 1) (hS (hR 1) (hJ (1048568, [(3, tS)]) (hS (hR 1) (.block (.loop 1048568 [(3, tS), (4, tI)] (hS (hS (hR 4) (hC hL hL)) (hJ (1044520, [(3, tS)]) (.block (hS (hR 4) (hS (hR 1) (hC (hR 5) hL)))) (hR 3)))))) (hS (hR 2) hL))))
theorem F132_calls {a0 : Sl} {K : Sl → World → Prop} {w : World} (h : F132 a0 K w) : callT Tryz.prog 132 #[(.slice a0.a a0.len a0.cap)] (.one (.one .sl)) K w := tied tabOk Tryz.func132 h132 [(.slice a0.a a0.len a0.cap)] (by kernel_rfl) h
noncomputable def F138 (a0 : Sl) (a1 : Int) (K : Int → World → Prop) : World → Prop :=
 callT Tryz.prog 154 #[(.slice a0.a a0.len a0.cap)] (.tup [(.one .sl), (.one (.int .i64))]) fun (x1 : (Sl × Int × Unit)) =>
 join (S := Unit) (fun J2 =>
 sloop (S := Int × Unit) (fun (s4 : Int × Unit) again5 =>
 sif (decide (s4.1 < ((x1.1.len : Nat) : Int))) (
 ix x1.1.a x1.1.len s4.1 fun p6 =>
 ld (.int .i64) ((p6.add (scaled (Int.toNat s4.1) 4)).add 2) fun (x7 : Int) =>
 sif (decide (a1 < x7)) (
 K s4.1) (
 again5 ((IntKind.wrap .i64 (s4.1 + (1 : Int))), ()))) (
 J2 ())) ((0 : Int), ())) fun (s3 : Unit) =>
 K (IntKind.wrap .i64 (((x1.1.len : Nat) : Int) - (1 : Int)))
noncomputable def h138 : Hint := (hS (hR 1) (hS (hR 7) (hJ (134209680, []) (hS (hR 1) (.block (.loop 134209680 [(7, tI)] (hS (hS (hR 4) (hC hL hL)) (hS (.block (hS (hR 7) (hC (hS (hR 2) hL) hL))) (hR 3)))))) (hS (hR 4) hL))))
theorem F138_calls {a0 : Sl} {a1 : Int} {K : Int → World → Prop} {w : World} (h : F138 a0 a1 K w) : callT Tryz.prog 138 #[(.slice a0.a a0.len a0.cap), (.int .i64 a1)] (.one (.one (.int .i64))) K w := tied tabOk Tryz.func138 h138 [(.slice a0.a a0.len a0.cap), (.int .i64 a1)] (by kernel_rfl) h
noncomputable def F139 (a0 : Sl) (K : Int → World → Prop) : World → Prop :=
 callT Tryz.prog 154 #[(.slice a0.a a0.len a0.cap)] (.tup [(.one .sl), (.one (.int .i64))]) fun (x1 : (Sl × Int × Unit)) =>
 K x1.2.1
noncomputable def h139 : Hint := (hS (hR 1) (hS (hR 7) (hS (hR 2) hL)))
theorem F139_calls {a0 : Sl} {K : Int → World → Prop} {w : World} (h : F139 a0 K w) : callT Tryz.prog 139 #[(.slice a0.a a0.len a0.cap)] (.one (.one (.int .i64))) K w := tied tabOk Tryz.func139 h139 [(.slice a0.a a0.len a0.cap)] (by kernel_rfl) h
noncomputable def F140 (a0 : Sl) (K : Sl → World → Prop) : World → Prop :=
 callT Tryz.prog 154 #[(.slice a0.a a0.len a0.cap)] (.tup [(.one .sl), (.one (.int .i64))]) fun (x1 : (Sl × Int × Unit)) =>
 join (S := Sl × Unit) (fun J2 =>
 sloop (S := Sl × Int × Unit) (fun (s4 : Sl × Int × Unit) again5 =>
 sif (decide (s4.2.1 < x1.2.1)) (
 join (S := Sl × Unit) (fun J6 =>
 join (S := Int × Unit) (fun J8 =>
 ix x1.1.a x1.1.len s4.2.1 fun p10 =>
 lds c174 (p10.add (scaled (Int.toNat s4.2.1) 4)) fun (x11 : (Int × Int × Int × Int × Unit)) =>
 callT Tryz.prog 155 #[(.slice a0.a a0.len a0.cap), (.agg (Cells.vals c174 x11).toArray)] (.one (.one .bool)) fun (x12 : Bool) =>
 sif x12 (
 J8 ((0 : Int), ())) (
 J8 ((1 : Int), ()))) fun (s9 : Int × Unit) =>
 join (S := Bool × Unit) (fun J13 =>
 sif (decide (((s4.1.len : Nat) : Int) > (0 : Int))) (
 ix s4.1.a s4.1.len (IntKind.wrap .i64 (((s4.1.len : Nat) : Int) - (1 : Int))) fun p15 =>
 ld (.int .i64) ((p15.add (scaled (Int.toNat (IntKind.wrap .i64 (((s4.1.len : Nat) : Int) - (1 : Int)))) 3)).add 2) fun (x16 : Int) =>
 J13 ((x16 == s9.1), ())) (
 J13 (false, ()))) fun (s14 : Bool × Unit) =>
 sif s14.1 (
 ix x1.1.a x1.1.len s4.2.1 fun p17 =>
 ld (.int .i64) ((p17.add (scaled (Int.toNat s4.2.1) 4)).add 2) fun (x18 : Int) =>
 ix s4.1.a s4.1.len (IntKind.wrap .i64 (((s4.1.len : Nat) : Int) - (1 : Int))) fun p19 =>
 stC ((p19.add (scaled (Int.toNat (IntKind.wrap .i64 (((s4.1.len : Nat) : Int) - (1 : Int)))) 3)).add 1) (.int .i64 x18) <|
 J6 (s4.1, ())) (
 drew <|
 ix x1.1.a x1.1.len s4.2.1 fun p20 =>
 ld (.int .i64) (p20.add (scaled (Int.toNat s4.2.1) 4)) fun (x21 : Int) =>
 ix x1.1.a x1.1.len s4.2.1 fun p22 =>
 ld (.int .i64) ((p22.add (scaled (Int.toNat s4.2.1) 4)).add 2) fun (x23 : Int) =>
 newO (.cells #[(.int .i64 x21), (.int .i64 x23), (.int .i64 s9.1)] 180) fun b24 =>
 rawT Tryz.prog (.one (.one .sl)) (Builtin.append_ #[172, 172] 172 #[(.slice s4.1.a s4.1.len s4.1.cap), (.slice (some (at0 b24)) 1 1)]) fun (x25 : Sl) =>
 J6 (x25, ()))) fun (s7 : Sl × Unit) =>
 again5 (s7.1, (IntKind.wrap .i64 (s4.2.1 + (1 : Int))), ())) (
 J2 (s4.1, ()))) (⟨none, 0, 0⟩, (0 : Int), ())) fun (s3 : Sl × Unit) =>
 K s3.1
noncomputable def h140 : Hint := (hS (hR 1) (hS (hR 1) (hS (hR 7) (hJ (18446744073709535688, [(3, tS)]) (hS (hR 1) (.block (.loop 18446744073709535688 [(3, tS), (6, tI)] (hS (hS (hR 3) (hC hL hL)) (hJ (18446744073709027720, [(3, tS)]) (.block (hS (hR 1) (hJ (33030272, [(7, tI)]) (hS (hR 6) (hC (hR 1) hL)) (hS (hR 3) (hJ (549621596160, [(38, tB)]) (.region [] (.ops 3 (.split 29 (hO 9) (.skips 8 (hO 1))))) (hC (hR 11) (.region [0, 1, 2, 3, 4, 5, 6, 7, 8, 9, 10, 11, 12, 13, 14, 15] (hO 16)))))))) (hR 3)))))) (hS (hR 2) hL)))))
theorem F140_calls {a0 : Sl} {K : Sl → World → Prop} {w : World} (h : F140 a0 K w) : callT Tryz.prog 140 #[(.slice a0.a a0.len a0.cap)] (.one (.one .sl)) K w := tied tabOk Tryz.func140 h140 [(.slice a0.a a0.len a0.cap)] (by kernel_rfl) h
noncomputable def F149 (a0 : Int) (a1 : Bool) (K : Int → World → Prop) : World → Prop :=
 callT Tryz.prog 158 #[(.int .i64 a0)] (.one (.one (.int .i64))) fun (x1 : Int) =>
 join (S := Bool × Unit) (fun J2 =>
 sif a1 (
 J2 ((x1 != (0 : Int)), ())) (
 J2 (false, ()))) fun (s3 : Bool × Unit) =>
 sif s3.1 (
 K (2 : Int)) (
 K x1)
noncomputable def h149 : Hint := (hS (hR 1) (hS (hR 3) (hS (hJ (7936, [(12, tB)]) (.region [] (.ops 2 (.split 9 (hO 3) (.skips 2 (hO 1))))) (hC (hS (hR 1) hL) hL)) (hS (hR 2) hL))))
theorem F149_calls {a0 : Int} {a1 : Bool} {K : Int → World → Prop} {w : World} (h : F149 a0 a1 K w) : callT Tryz.prog 149 #[(.int .i64 a0), (.bool a1)] (.one (.one (.int .i64))) K w := tied tabOk Tryz.func149 h149 [(.int .i64 a0), (.bool a1)] (by kernel_rfl) h
noncomputable def F151 (a0 : Sl) (a1 : Int) (a2 : Int) (K : Int → World → Prop) : World → Prop :=
 sif (decide (a2 > ((a0.len : Nat) : Int))) (
 K (-1 : Int)) (
 join (S := Unit) (fun J1 =>
 sloop (S := Int × Int × Unit) (fun (s3 : Int × Int × Unit) again4 =>
 sif (decide (s3.2.1 < ((a0.len : Nat) : Int))) (
 join (S := Int × Unit) (fun J5 =>
 ix a0.a a0.len s3.2.1 fun p7 =>
 ld (.int .i64) ((p7.add (scaled (Int.toNat s3.2.1) 3)).add 2) fun (x8 : Int) =>
 sif (x8 != (0 : Int)) (
 J5 ((IntKind.wrap .i64 (s3.1 - (1 : Int))), ())) (
 J5 (s3.1, ()))) fun (s6 : Int × Unit) =>
 sif (s6.1 == (0 : Int)) (
 K s3.2.1) (
 again4 (s6.1, (IntKind.wrap .i64 (s3.2.1 + (1 : Int))), ()))) (
 J1 ())) (a2, a1, ())) fun (s2 : Unit) =>
 K (-1 : Int))
noncomputable def h151 : Hint := (hS (hR 1) (hS (hS (hR 4) (hC (hS (hR 1) hL) hL)) (hJ (1073737924, []) (hS (hR 2) (.block (.loop 1073733828 [(2, tI), (7, tI)] (hS (hS (hR 4) (hC hL hL)) (hS (.block (hJ (133693444, [(2, tI)]) (hS (hR 6) (hC (hR 3) hL)) (hS (hR 2) (hC (hS (hR 2) hL) hL)))) (hR 3)))))) (hS (hR 1) hL))))
theorem F151_calls {a0 : Sl} {a1 : Int} {a2 : Int} {K : Int → World → Prop} {w : World} (h : F151 a0 a1 a2 K w) : callT Tryz.prog 151 #[(.slice a0.a a0.len a0.cap), (.int .i64 a1), (.int .i64 a2)] (.one (.one (.int .i64))) K w := tied tabOk Tryz.func151 h151 [(.slice a0.a a0.len a0.cap), (.int .i64 a1), (.int .i64 a2)] (by kernel_rfl) h
noncomputable def F152 (a0 : Sl) (a1 : Int) (K : Bool → World → Prop) : World → Prop :=
 join (S := Bool × Unit) (fun J1 =>
 sif (decide (a1 < (0 : Int))) (
 J1 (true, ())) (
 J1 ((decide (a1 > ((a0.len : Nat) : Int))), ()))) fun (s2 : Bool × Unit) =>
 sif s2.1 (
 K false) (
 join (S := Bool × Unit) (fun J3 =>
 sif (a1 == (0 : Int)) (
 J3 (true, ())) (
 J3 ((a1 == ((a0.len : Nat) : Int)), ()))) fun (s4 : Bool × Unit) =>
 sif s4.1 (
 K true) (
 ix a0.a a0.len (IntKind.wrap .i64 (a1 - (1 : Int))) fun p5 =>
 ld (.int .i64) (p5.add (scaled (Int.toNat (IntKind.wrap .i64 (a1 - (1 : Int)))) 1)) fun (x6 : Int) =>
 callT Tryz.prog 159 #[(.int .i64 x6)] (.one (.one (.int .i64))) fun (x7 : Int) =>
 ix a0.a a0.len a1 fun p8 =>
 ld (.int .i64) (p8.add (scaled (Int.toNat a1) 1)) fun (x9 : Int) =>
 callT Tryz.prog 159 #[(.int .i64 x9)] (.one (.one (.int .i64))) fun (x10 : Int) =>
 join (S := Bool × Unit) (fun J11 =>
 sif (x7 == (1 : Int)) (
 J11 ((x10 == (2 : Int)), ())) (
 J11 (false, ()))) fun (s12 : Bool × Unit) =>
 sif s12.1 (
 K false) (
 join (S := Bool × Unit) (fun J13 =>
 sif (x7 == (1 : Int)) (
 J13 (true, ())) (
 sif (x7 == (2 : Int)) (
 J13 (true, ())) (
 sif (x7 == (3 : Int)) (
 J13 (true, ())) (
 sif (x10 == (1 : Int)) (
 J13 (true, ())) (
 sif (x10 == (2 : Int)) (
 J13 (true, ())) (
 J13 ((x10 == (3 : Int)), ()))))))) fun (s14 : Bool × Unit) =>
 sif s14.1 (
 K true) (
 callT Tryz.prog 160 #[(.int .i64 x7), (.int .i64 x10)] (.one (.one .bool)) fun (x15 : Bool) =>
 join (S := Bool × Unit) (fun J16 =>
 sif x15 (
 J16 (true, ())) (
 sif (x10 == (4 : Int)) (
 J16 (true, ())) (
 sif (x10 == (5 : Int)) (
 J16 (true, ())) (
 sif (x10 == (8 : Int)) (
 J16 (true, ())) (
 J16 ((x7 == (7 : Int)), ())))))) fun (s17 : Bool × Unit) =>
 sif s17.1 (
 K false) (
 callT Tryz.prog 161 #[(.slice a0.a a0.len a0.cap), (.int .i64 a1)] (.one (.one .bool)) fun (x18 : Bool) =>
 callT Tryz.prog 162 #[(.slice a0.a a0.len a0.cap), (.int .i64 a1)] (.one (.one .bool)) fun (x19 : Bool) =>
 callT Tryz.prog 163 #[(.slice a0.a a0.len a0.cap), (.int .i64 a1)] (.one (.one .bool)) fun (x20 : Bool) =>
 sif (!x18) (
 sif (!x19) (
 K (!x20)) (
 K false)) (
 K false))))))
noncomputable def h152 : Hint := (hS (hR 1) (hS (hJ (522240, [(18, tB)]) (.region [] (.ops 3 (.split 13 (.skips 4 (hO 1)) (hO 5)))) (hC (hS (hR 1) hL) hL)) (hS (hJ (133693440, [(26, tB)]) (.region [] (.ops 3 (.split 21 (.skips 4 (hO 1)) (hO 5)))) (hC (hS (hR 1) hL) hL)) (hS (hR 7) (hS (hR 6) (hS (hJ (17317308137472, [(43, tB)]) (.region [] (.ops 3 (.split 40 (hO 3) (.skips 2 (hO 1))))) (hC (hS (hR 1) hL) hL)) (hS (hJ (73786958702652162048, [(65, tB)]) (.region [] (.ops 3 (.split 46 (.skips 2 (.ops 2 (.skips 2 (.ops 2 (.skips 2 (.ops 2 (.skips 2 (.ops 2 (.skips 2 (hO 1)))))))))) (.ops 4 (.split 50 (.skips 2 (.ops 2 (.skips 2 (.ops 2 (.skips 2 (.ops 2 (.skips 2 (hO 1)))))))) (.ops 4 (.split 54 (.skips 2 (.ops 2 (.skips 2 (.ops 2 (.skips 2 (hO 1)))))) (.ops 4 (.split 58 (.skips 2 (.ops 2 (.skips 2 (hO 1)))) (.ops 4 (.split 62 (.skips 2 (hO 1)) (hO 3)))))))))))) (hC (hS (hR 1) hL) hL)) (hS (hR 4) (hS (hJ (77370662159525908475543552, [(85, tB)]) (.region [] (.ops 2 (.split 70 (.skips 2 (.ops 2 (.skips 2 (.ops 2 (.skips 2 (.ops 2 (.skips 2 (hO 1)))))))) (.ops 4 (.split 74 (.skips 2 (.ops 2 (.skips 2 (.ops 2 (.skips 2 (hO 1)))))) (.ops 4 (.split 78 (.skips 2 (.ops 2 (.skips 2 (hO 1)))) (.ops 4 (.split 82 (.skips 2 (hO 1)) (hO 3)))))))))) (hC (hS (hR 1) hL) hL)) (hS (hR 4) (hS (hR 4) (hS (hR 4) (hS (.region [] (.ops 3 (.split 97 (.ops 4 (.split 101 (hO 4) (.skips 2 (hO 2)))) (.skips 2 (.ops 2 (.skips 2 (hO 2))))))) hL)))))))))))))
theorem F152_calls {a0 : Sl} {a1 : Int} {K : Bool → World → Prop} {w : World} (h : F152 a0 a1 K w) : callT Tryz.prog 152 #[(.slice a0.a a0.len a0.cap), (.int .i64 a1)] (.one (.one .bool)) K w := tied tabOk Tryz.func152 h152 [(.slice a0.a a0.len a0.cap), (.int .i64 a1)] (by kernel_rfl) h
noncomputable def F154 (a0 : Sl) (K : (Sl × Int × Unit) → World → Prop) : World → Prop :=
 join (S := Sl × Int × Unit) (fun J1 =>
 sloop (S := Sl × Int × Int × Unit) (fun (s3 : Sl × Int × Int × Unit) again4 =>
 sif (decide (s3.2.2.1 < ((a0.len : Nat) : Int))) (
 join (S := Sl × Int × Int × Unit) (fun J5 =>
 ix a0.a a0.len s3.2.2.1 fun p7 =>
 ld (.int .i64) (p7.add (scaled (Int.toNat s3.2.2.1) 1)) fun (x8 : Int) =>
 sif (x8 == (10 : Int)) (
 newO (.cells #[(.int .i64 s3.2.1), (.int .i64 s3.2.2.1), (.int .i64 (IntKind.wrap .i64 (s3.2.2.1 + (1 : Int)))), (.int .i64 (1 : Int))] 174) fun b9 =>
 rawT Tryz.prog (.one (.one .sl)) (Builtin.append_ #[199, 199] 199 #[(.slice s3.1.a s3.1.len s3.1.cap), (.slice (some (at0 b9)) 1 1)]) fun (x10 : Sl) =>
 J5 (x10, (IntKind.wrap .i64 (s3.2.2.1 + (1 : Int))), s3.2.2.1, ())) (
 join (S := Bool × Unit) (fun J11 =>
 ix a0.a a0.len s3.2.2.1 fun p13 =>
 ld (.int .i64) (p13.add (scaled (Int.toNat s3.2.2.1) 1)) fun (x14 : Int) =>
 sif (x14 == (13 : Int)) (
 sif (decide ((IntKind.wrap .i64 (s3.2.2.1 + (1 : Int))) < ((a0.len : Nat) : Int))) (
 ix a0.a a0.len (IntKind.wrap .i64 (s3.2.2.1 + (1 : Int))) fun p15 =>
 ld (.int .i64) (p15.add (scaled (Int.toNat (IntKind.wrap .i64 (s3.2.2.1 + (1 : Int)))) 1)) fun (x16 : Int) =>
 J11 ((x16 == (10 : Int)), ())) (
 J11 (false, ()))) (
 J11 (false, ()))) fun (s12 : Bool × Unit) =>
 sif s12.1 (
 newO (.cells #[(.int .i64 s3.2.1), (.int .i64 s3.2.2.1), (.int .i64 (IntKind.wrap .i64 (s3.2.2.1 + (2 : Int)))), (.int .i64 (2 : Int))] 174) fun b17 =>
 rawT Tryz.prog (.one (.one .sl)) (Builtin.append_ #[199, 199] 199 #[(.slice s3.1.a s3.1.len s3.1.cap), (.slice (some (at0 b17)) 1 1)]) fun (x18 : Sl) =>
 J5 (x18, (IntKind.wrap .i64 (s3.2.2.1 + (2 : Int))), (IntKind.wrap .i64 (s3.2.2.1 + (1 : Int))), ())) (
 ix a0.a a0.len s3.2.2.1 fun p19 =>
 ld (.int .i64) (p19.add (scaled (Int.toNat s3.2.2.1) 1)) fun (x20 : Int) =>
 sif (x20 == (13 : Int)) (
 newO (.cells #[(.int .i64 s3.2.1), (.int .i64 s3.2.2.1), (.int .i64 (IntKind.wrap .i64 (s3.2.2.1 + (1 : Int)))), (.int .i64 (3 : Int))] 174) fun b21 =>
 rawT Tryz.prog (.one (.one .sl)) (Builtin.append_ #[199, 199] 199 #[(.slice s3.1.a s3.1.len s3.1.cap), (.slice (some (at0 b21)) 1 1)]) fun (x22 : Sl) =>
 J5 (x22, (IntKind.wrap .i64 (s3.2.2.1 + (1 : Int))), s3.2.2.1, ())) (
 J5 (s3.1, s3.2.1, s3.2.2.1, ()))))) fun (s6 : Sl × Int × Int × Unit) =>
 again4 (s6.1, s6.2.1, (IntKind.wrap .i64 (s6.2.2.1 + (1 : Int))), ())) (
 J1 (s3.1, s3.2.1, ()))) (⟨none, 0, 0⟩, (0 : Int), (0 : Int), ())) fun (s2 : Sl × Int × Unit) =>
 newO (.cells #[(.int .i64 s2.2.1), (.int .i64 ((a0.len : Nat) : Int)), (.int .i64 ((a0.len : Nat) : Int)), (.int .i64 (0 : Int))] 174) fun b23 =>
 rawT Tryz.prog (.one (.one .sl)) (Builtin.append_ #[199, 199] 199 #[(.slice s2.1.a s2.1.len s2.1.cap), (.slice (some (at0 b23)) 1 1)]) fun (x24 : Sl) =>
 join (S := Int × Unit) (fun J25 =>
 join (S := Bool × Unit) (fun J27 =>
 sif (((a0.len : Nat) : Int) == (0 : Int)) (
 J27 (true, ())) (
 J27 ((decide (s2.2.1 < ((a0.len : Nat) : Int))), ()))) fun (s28 : Bool × Unit) =>
 sif s28.1 (
 J25 (((x24.len : Nat) : Int), ())) (
 J25 (((s2.1.len : Nat) : Int), ()))) fun (s26 : Int × Unit) =>
 K (x24, s26.1, ())
noncomputable def h154 : Hint := (hS (hR 2) (hS (hR 1) (hS (hR 1) (hJ (75557863725914323418992, [(4, tS), (5, tI)]) (hS (hR 1) (.block (.loop 75557863725914323418992 [(4, tS), (5, tI), (6, tI)] (hS (hS (hR 4) (hC hL hL)) (hJ (75557863725914323402864, [(4, tS), (5, tI), (6, tI)]) (.block (hS (hR 5) (hC (hS (hR 9) (hR 3)) (hJ (562949416550400, [(48, tB)]) (.region [] (.ops 6 (.split 34 (.ops 7 (.split 41 (hO 7) (.skips 6 (hO 1)))) (.skips 5 (.ops 2 (.skips 6 (hO 1))))))) (hC (hS (hR 9) (hS (hR 3) (hR 3))) (hS (hR 5) (hC (hS (hR 9) (hR 3)) hL))))))) (hR 3)))))) (hS (hR 3) (hS (hR 10) (hJ (316757907552146677839813410944, [(7, tI)]) (hJ (79073420009353665059181559808, [(95, tB)]) (.region [] (.ops 4 (.split 90 (.skips 4 (hO 1)) (hO 5)))) (hC (hR 3) hL)) (hS (hR 4) hL))))))))
theorem F154_calls {a0 : Sl} {K : (Sl × Int × Unit) → World → Prop} {w : World} (h : F154 a0 K w) : callT Tryz.prog 154 #[(.slice a0.a a0.len a0.cap)] (.tup [(.one .sl), (.one (.int .i64))]) K w := tied tabOk Tryz.func154 h154 [(.slice a0.a a0.len a0.cap)] (by kernel_rfl) h
noncomputable def F155 (a0 : Sl) (a1 : (Int × Int × Int × Int × Unit)) (K : Bool → World → Prop) : World → Prop :=
 newO (.cells #[(.int .i64 a1.1), (.int .i64 a1.2.1), (.int .i64 a1.2.2.1), (.int .i64 a1.2.2.2.1)] 174) fun b1 =>
 lds c174 (at0 b1) fun (x2 : (Int × Int × Int × Int × Unit)) =>
 callT Tryz.prog 126 #[(.slice a0.a a0.len a0.cap), (.agg (Cells.vals c174 x2).toArray), (.bool false)] (.one (.one .sl)) fun (x3 : Sl) =>
 sif (((x3.len : Nat) : Int) == (0 : Int)) (
 K true) (
 sif (((x3.len : Nat) : Int) == (1 : Int)) (
 ix x3.a x3.len (0 : Int) fun p4 =>
 ld (.int .i64) ((p4.add (scaled (Int.toNat (0 : Int)) 3)).add 2) fun (x5 : Int) =>
 K (x5 == (0 : Int))) (
 K false))
noncomputable def h155 : Hint := (hS (hR 2) (hS (hR 4) (hS (.region [] (.ops 4 (.split 12 (.skips 10 (hO 2)) (.ops 4 (.split 16 (hO 8) (.skips 5 (hO 3))))))) hL)))
theorem F155_calls {a0 : Sl} {a1 : (Int × Int × Int × Int × Unit)} {K : Bool → World → Prop} {w : World} (h : F155 a0 a1 K w) : callT Tryz.prog 155 #[(.slice a0.a a0.len a0.cap), (.agg (Cells.vals c174 a1).toArray)] (.one (.one .bool)) K w := tied tabOk Tryz.func155 h155 [(.slice a0.a a0.len a0.cap), (.agg (Cells.vals c174 a1).toArray)] (by kernel_rfl) h
noncomputable def F160 (a0 : Int) (a1 : Int) (K : Bool → World → Prop) : World → Prop :=
 join (S := Bool × Unit) (fun J1 =>
 sif (a0 == (9 : Int)) (
 sif (a1 == (9 : Int)) (
 J1 (true, ())) (
 sif (a1 == (10 : Int)) (
 J1 (true, ())) (
 sif (a1 == (12 : Int)) (
 J1 (true, ())) (
 J1 ((a1 == (13 : Int)), ()))))) (
 J1 (false, ()))) fun (s2 : Bool × Unit) =>
 sif s2.1 (
 K true) (
 join (S := Bool × Unit) (fun J3 =>
 sif (a0 == (12 : Int)) (
 sif (a1 == (10 : Int)) (
 J3 (true, ())) (
 J3 ((a1 == (11 : Int)), ()))) (
 sif (a0 == (10 : Int)) (
 sif (a1 == (10 : Int)) (
 J3 (true, ())) (
 J3 ((a1 == (11 : Int)), ()))) (
 J3 (false, ())))) fun (s4 : Bool × Unit) =>
 sif s4.1 (
 K true) (
 sif (a0 == (13 : Int)) (
 K (a1 == (11 : Int))) (
 sif (a0 == (11 : Int)) (
 K (a1 == (11 : Int))) (
 K false))))
noncomputable def h160 : Hint := (hS (hR 1) (hS (hJ (8388576, [(22, tB)]) (.region [] (.ops 3 (.split 7 (.ops 3 (.split 10 (.skips 2 (.ops 2 (.skips 2 (.ops 2 (.skips 2 (hO 2)))))) (.ops 4 (.split 14 (.skips 2 (.ops 2 (.skips 2 (hO 2)))) (.ops 4 (.split 18 (.skips 2 (hO 2)) (hO 4))))))) (.skips 14 (hO 1))))) (hC (hS (hR 1) hL) hL)) (hS (hJ (137430564864, [(36, tB)]) (.region [] (.ops 3 (.split 25 (.skips 2 (.ops 5 (.split 32 (.skips 2 (hO 2)) (hO 4)))) (.ops 4 (.split 29 (.ops 3 (.split 32 (.skips 2 (hO 2)) (hO 4))) (.skips 6 (hO 1))))))) (hC (hS (hR 1) hL) hL)) (hS (.region [] (.ops 3 (.split 39 (.skips 2 (hO 6)) (.ops 4 (.split 43 (hO 4) (.skips 2 (hO 2))))))) hL))))
theorem F160_calls {a0 : Int} {a1 : Int} {K : Bool → World → Prop} {w : World} (h : F160 a0 a1 K w) : callT Tryz.prog 160 #[(.int .i64 a0), (.int .i64 a1)] (.one (.one .bool)) K w := tied tabOk Tryz.func160 h160 [(.int .i64 a0), (.int .i64 a1)] (by kernel_rfl) h
noncomputable def F161 (a0 : Sl) (a1 : Int) (K : Bool → World → Prop) : World → Prop :=
 ix a0.a a0.len a1 fun p1 =>
 ld (.int .i64) (p1.add (scaled (Int.toNat a1) 1)) fun (x2 : Int) =>
 callT Tryz.prog 171 #[(.int .i64 x2)] (.one (.one (.int .i64))) fun (x3 : Int) =>
 sif (x3 != (1 : Int)) (
 K false) (
 join (S := Unit) (fun J4 =>
 sloop (S := Int × Int × Unit) (fun (s6 : Int × Int × Unit) again7 =>
 sif (decide (s6.2.1 ≥ (0 : Int))) (
 ix a0.a a0.len s6.2.1 fun p8 =>
 ld (.int .i64) (p8.add (scaled (Int.toNat s6.2.1) 1)) fun (x9 : Int) =>
 callT Tryz.prog 171 #[(.int .i64 x9)] (.one (.one (.int .i64))) fun (x10 : Int) =>
 join (S := Int × Unit) (fun J11 =>
 sif (x10 == (3 : Int)) (
 J11 ((IntKind.wrap .i64 (s6.1 + (1 : Int))), ())) (
 J11 (s6.1, ()))) fun (s12 : Int × Unit) =>
 join (S := Bool × Unit) (fun J13 =>
 sif (x10 != (3 : Int)) (
 J13 ((x10 != (2 : Int)), ())) (
 J13 (false, ()))) fun (s14 : Bool × Unit) =>
 sif s14.1 (
 sif (decide (s12.1 > (0 : Int))) (
 K (x10 == (1 : Int))) (
 K false)) (
 again7 (s12.1, (IntKind.wrap .i64 (s6.2.1 - (1 : Int))), ()))) (
 J4 ())) ((0 : Int), (IntKind.wrap .i64 (a1 - (1 : Int))), ())) fun (s5 : Unit) =>
 K false)
noncomputable def h161 : Hint := (hS (hR 1) (hS (hS (hR 6) (hC (hS (hR 1) hL) hL)) (hS (hR 1) (hJ (2199023239408, []) (hS (hR 3) (.block (.loop 2199023190256 [(5, tI), (6, tI)] (hS (hS (hR 2) (hC hL hL)) (hS (.block (hS (hR 6) (hJ (503316512, [(5, tI)]) (hS (hR 2) (hC (hR 3) hL)) (hJ (33822867456, [(34, tB)]) (.region [] (.ops 3 (.split 31 (hO 3) (.skips 2 (hO 1))))) (hC (hS (.region [] (.ops 3 (.split 37 (hO 4) (.skips 2 (hO 2))))) hL) hL))))) (hR 3)))))) (hS (hR 1) hL)))))
theorem F161_calls {a0 : Sl} {a1 : Int} {K : Bool → World → Prop} {w : World} (h : F161 a0 a1 K w) : callT Tryz.prog 161 #[(.slice a0.a a0.len a0.cap), (.int .i64 a1)] (.one (.one .bool)) K w := tied tabOk Tryz.func161 h161 [(.slice a0.a a0.len a0.cap), (.int .i64 a1)] (by kernel_rfl) h
noncomputable def F162 (a0 : Sl) (a1 : Int) (K : Bool → World → Prop) : World → Prop :=
 join (S := Bool × Unit) (fun J1 =>
 ix a0.a a0.len a1 fun p3 =>
 ld (.int .i64) (p3.add (scaled (Int.toNat a1) 1)) fun (x4 : Int) =>
 callT Tryz.prog 159 #[(.int .i64 x4)] (.one (.one (.int .i64))) fun (x5 : Int) =>
 sif (x5 != (14 : Int)) (
 J1 (true, ())) (
 ix a0.a a0.len (IntKind.wrap .i64 (a1 - (1 : Int))) fun p6 =>
 ld (.int .i64) (p6.add (scaled (Int.toNat (IntKind.wrap .i64 (a1 - (1 : Int)))) 1)) fun (x7 : Int) =>
 callT Tryz.prog 159 #[(.int .i64 x7)] (.one (.one (.int .i64))) fun (x8 : Int) =>
 J1 ((x8 != (5 : Int)), ()))) fun (s2 : Bool × Unit) =>
 sif s2.1 (
 K false) (
 join (S := Unit) (fun J9 =>
 sloop (S := Int × Unit) (fun (s11 : Int × Unit) again12 =>
 sif (decide (s11.1 ≥ (0 : Int))) (
 ix a0.a a0.len s11.1 fun p13 =>
 ld (.int .i64) (p13.add (scaled (Int.toNat s11.1) 1)) fun (x14 : Int) =>
 callT Tryz.prog 159 #[(.int .i64 x14)] (.one (.one (.int .i64))) fun (x15 : Int) =>
 sif (x15 != (4 : Int)) (
 K (x15 == (14 : Int))) (
 again12 ((IntKind.wrap .i64 (s11.1 - (1 : Int))), ()))) (
 J9 ())) ((IntKind.wrap .i64 (a1 - (2 : Int))), ())) fun (s10 : Unit) =>
 K false)
noncomputable def h162 : Hint := (hS (hR 1) (hS (hJ (4194176, [(21, tB)]) (.region [] (.ops 7 (.split 13 (.skips 7 (hO 1)) (hO 8)))) (hC (hS (hR 1) hL) hL)) (hJ (137434759280, []) (hS (hR 3) (.block (.loop 137422176368 [(5, tI)] (hS (hS (hR 2) (hC hL hL)) (hS (.block (hS (hR 6) (hS (hR 2) (hC (hS (hR 3) hL) hL)))) (hR 3)))))) (hS (hR 1) hL))))
theorem F162_calls {a0 : Sl} {a1 : Int} {K : Bool → World → Prop} {w : World} (h : F162 a0 a1 K w) : callT Tryz.prog 162 #[(.slice a0.a a0.len a0.cap), (.int .i64 a1)] (.one (.one .bool)) K w := tied tabOk Tryz.func162 h162 [(.slice a0.a a0.len a0.cap), (.int .i64 a1)] (by kernel_rfl) h
noncomputable def F163 (a0 : Sl) (a1 : Int) (K : Bool → World → Prop) : World → Prop :=
 ix a0.a a0.len a1 fun p1 =>
 ld (.int .i64) (p1.add (scaled (Int.toNat a1) 1)) fun (x2 : Int) =>
 callT Tryz.prog 159 #[(.int .i64 x2)] (.one (.one (.int .i64))) fun (x3 : Int) =>
 sif (x3 != (6 : Int)) (
 K false) (
 join (S := Int × Unit) (fun J4 =>
 sloop (S := Int × Int × Unit) (fun (s6 : Int × Int × Unit) again7 =>
 sif (decide (s6.2.1 ≥ (0 : Int))) (
 ix a0.a a0.len s6.2.1 fun p8 =>
 ld (.int .i64) (p8.add (scaled (Int.toNat s6.2.1) 1)) fun (x9 : Int) =>
 callT Tryz.prog 159 #[(.int .i64 x9)] (.one (.one (.int .i64))) fun (x10 : Int) =>
 sif (x10 != (6 : Int)) (
 J4 (s6.1, ())) (
 again7 ((IntKind.wrap .i64 (s6.1 + (1 : Int))), (IntKind.wrap .i64 (s6.2.1 - (1 : Int))), ()))) (
 J4 (s6.1, ()))) ((0 : Int), (IntKind.wrap .i64 (a1 - (1 : Int))), ())) fun (s5 : Int × Unit) =>
 chk ((2 : Int) ≠ 0) <|
 K ((Int.tmod s5.1 (2 : Int)) == (1 : Int)))
noncomputable def h163 : Hint := (hS (hR 1) (hS (hS (hR 6) (hC (hS (hR 1) hL) hL)) (hS (hR 1) (hJ (536854752, [(5, tI)]) (hS (hR 3) (.block (.loop 536805600 [(5, tI), (6, tI)] (hS (hS (hR 2) (hC hL hL)) (hS (.block (hS (hR 6) (hS (hS (hR 2) (hC hL hL)) (hR 3)))) (hR 3)))))) (hS (hR 4) hL)))))
theorem F163_calls {a0 : Sl} {a1 : Int} {K : Bool → World → Prop} {w : World} (h : F163 a0 a1 K w) : callT Tryz.prog 163 #[(.slice a0.a a0.len a0.cap), (.int .i64 a1)] (.one (.one .bool)) K w := tied tabOk Tryz.func163 h163 [(.slice a0.a a0.len a0.cap), (.int .i64 a1)] (by kernel_rfl) h
namespace Trx
structure Sums where
 atoms : Nat
 bytes : Nat
 breaks : Nat
 lf : Bool
 cr : Bool
 deriving DecidableEq
structure Sums.Ok (s : Sums) : Prop where
 brk : s.breaks ≤ s.atoms
 byt : s.atoms ≤ s.bytes
 lf : s.lf = true → 1 ≤ s.breaks
 cr : s.cr = true → 1 ≤ s.breaks
 nil : s.atoms = 0 → s = ⟨0, 0, 0, false, false⟩
def Sums.zero : Sums := ⟨0, 0, 0, false, false⟩
def Sums.add (s o : Sums) : Sums :=
 if s.atoms = 0 then o else if o.atoms = 0 then s else
  ⟨s.atoms + o.atoms, s.bytes + o.bytes, s.breaks + o.breaks - (if s.cr && o.lf then 1 else 0), s.lf, o.cr⟩
theorem Sums.zero_ok : Sums.zero.Ok := ⟨Nat.le_refl _, Nat.le_refl _, (fun h => by cases h), (fun h => by cases h), fun _ => rfl⟩
theorem Sums.add_zero {s : Sums} (h : s.Ok) : s.add .zero = s := by
 unfold Sums.add Sums.zero
 split
 ·rename_i h0; rw [h.nil h0]
 ·rfl
theorem Sums.add_ok {s o : Sums} (h : s.Ok) (h' : o.Ok) : (s.add o).Ok := by
 unfold Sums.add
 split
 ·exact h'
 ·split
  ·exact h
  ·have := h.brk; have := h.byt; have := h'.brk; have := h'.byt
   have h1 := h.lf; have h2 := h'.cr; have h3 := h.cr; have h4 := h'.lf
   refine ⟨?_, ?_, ?_, ?_, ?_⟩
   ·show s.breaks + o.breaks - _ ≤ s.atoms + o.atoms
    omega
   ·show s.atoms + o.atoms ≤ s.bytes + o.bytes
    omega
   ·show s.lf = true → 1 ≤ s.breaks + o.breaks - _
    intro e
    have := h1 e
    split
    ·rename_i hc
     simp only [Bool.and_eq_true] at hc
     have := h4 hc.2
     omega
    ·omega
   ·show o.cr = true → 1 ≤ s.breaks + o.breaks - _
    intro e
    have := h2 e
    split
    ·rename_i hc
     simp only [Bool.and_eq_true] at hc
     have := h3 hc.1
     omega
    ·omega
   ·intro e
    have : s.atoms + o.atoms = 0 := e
    omega
theorem Sums.add_assoc {a b c : Sums} (ha : a.Ok) (hb : b.Ok) (hc : c.Ok) : (a.add b).add c = a.add (b.add c) := by
 by_cases h1 : a.atoms = 0
 ·have := ha.nil h1; subst this; rfl
 by_cases h2 : b.atoms = 0
 ·have := hb.nil h2; subst this
  have e := Sums.add_zero ha
  unfold Sums.zero at e
  rw [e]; rfl
 by_cases h3 : c.atoms = 0
 ·have := hc.nil h3; subst this
  have e := Sums.add_zero (Sums.add_ok ha hb)
  have e' := Sums.add_zero hb
  unfold Sums.zero at e e'
  rw [e, e']
 have h12 : ¬ a.atoms + b.atoms = 0 := by omega
 have h23 : ¬ b.atoms + c.atoms = 0 := by omega
 simp only [Sums.add, if_neg h1, if_neg h2, if_neg h3, if_neg h12, if_neg h23]
 have a1 : (if a.cr = true then 1 else 0) ≤ a.breaks := by split; exact ha.cr ‹_›; omega
 have b1 : (if b.lf = true then 1 else 0) ≤ b.breaks := by split; exact hb.lf ‹_›; omega
 have b2 : (if b.cr = true then 1 else 0) ≤ b.breaks := by split; exact hb.cr ‹_›; omega
 have c1 : (if c.lf = true then 1 else 0) ≤ c.breaks := by split; exact hc.lf ‹_›; omega
 refine (Sums.mk.injEq ..).mpr ⟨by omega, by omega, ?_, rfl, rfl⟩
 cases h5 : a.cr <;> cases h6 : b.lf <;> cases h7 : b.cr <;> cases h8 : c.lf <;> simp only [h5, h6, h7, h8, Bool.and_true, Bool.and_false, Bool.and_self, if_true, if_false, Bool.false_eq_true, reduceIte] at a1 b1 b2 c1 ⊢ <;> omega
theorem Sums.add_bytes (s o : Sums) (h : s.Ok) (h' : o.Ok) : (s.add o).bytes = s.bytes + o.bytes ∧ (s.add o).atoms = s.atoms + o.atoms := by
 unfold Sums.add
 split
 ·rename_i h0; rw [h.nil h0]; simp
 ·split
  ·rename_i h0; rw [h'.nil h0]; simp
  ·exact ⟨rfl, rfl⟩
structure Pc where
 bytes : Sl
 tag : Int
 sm : Sums
def Pc.zero : Pc := ⟨⟨none, 0, 0⟩, 0, .zero⟩
inductive Tr where
 | nil
 | node (b : Nat) (l : Tr) (x : Pc) (r : Tr)
def Tr.ptr : Tr → Option Addr
 | .nil => none
 | .node b _ _ _ => some (at0 b)
def Tr.size : Tr → Nat
 | .nil => 0
 | .node _ l _ r => l.size + 1 + r.size
def Tr.tall : Tr → Nat
 | .nil => 0
 | .node _ l _ r => max l.tall r.tall + 1
def Tr.items : Tr → List Pc
 | .nil => []
 | .node _ l x r => l.items ++ x :: r.items
def tot (l : List Pc) : Sums := l.foldr (fun x s => x.sm.add s) .zero
def AllOk (l : List Pc) : Prop := ∀ x ∈ l, x.sm.Ok
theorem tot_ok : ∀ {l : List Pc}, AllOk l → (tot l).Ok
 | [], _ => Sums.zero_ok
 | x :: r, h => Sums.add_ok (h x List.mem_cons_self) (tot_ok fun y hy => h y (List.mem_cons_of_mem _ hy))
theorem tot_append : ∀ {l m : List Pc}, AllOk l → AllOk m → tot (l ++ m) = (tot l).add (tot m)
 | [], m, _, _ => rfl
 | x :: r, m, h, h' => by
  have hr : AllOk r := fun y hy => h y (List.mem_cons_of_mem _ hy)
  show x.sm.add (tot (r ++ m)) = (x.sm.add (tot r)).add (tot m)
  rw [tot_append hr h', Sums.add_assoc (h x List.mem_cons_self) (tot_ok hr) (tot_ok h')]
theorem tot_one {x : Pc} (h : x.sm.Ok) : tot [x] = x.sm := Sums.add_zero h
theorem size_items : ∀ t : Tr, t.items.length = t.size
 | .nil => rfl
 | .node _ l x r => by
  simp only [Tr.items, Tr.size, List.length_append, List.length_cons, size_items l, size_items r]; omega
theorem tall_le : ∀ t : Tr, t.tall ≤ t.size
 | .nil => Nat.le_refl _
 | .node _ l x r => by
  have := tall_le l; have := tall_le r
  simp only [Tr.tall, Tr.size]; omega
theorem tall_pos {t : Tr} (h : 0 < t.tall) : ∃ b l x r, t = .node b l x r := by
 cases t with
 | nil => exact absurd h (by decide)
 | node b l x r => exact ⟨b, l, x, r, rfl⟩
theorem AllOk.left {l m : List Pc} (h : AllOk (l ++ m)) : AllOk l := fun x hx => h x (List.mem_append_left _ hx)
theorem AllOk.right {l m : List Pc} (h : AllOk (l ++ m)) : AllOk m := fun x hx => h x (List.mem_append_right _ hx)
theorem AllOk.append {l m : List Pc} (h : AllOk l) (h' : AllOk m) : AllOk (l ++ m) := fun x hx => (List.mem_append.1 hx).elim (h x) (h' x)
theorem AllOk.cons {x : Pc} {m : List Pc} (h : x.sm.Ok) (h' : AllOk m) : AllOk (x :: m) := fun y hy => (List.mem_cons.1 hy).elim (fun e => e ▸ h) (h' y)
theorem AllOk.one {x : Pc} (h : x.sm.Ok) : AllOk [x] := fun y hy => by rw [List.mem_singleton.1 hy]; exact h
theorem AllOk.head {x : Pc} {m : List Pc} (h : AllOk (x :: m)) : x.sm.Ok := h x List.mem_cons_self
theorem AllOk.tail {x : Pc} {m : List Pc} (h : AllOk (x :: m)) : AllOk m := fun y hy => h y (List.mem_cons_of_mem _ hy)
end Trx
end Go.Proofs.YtabcpghhfeplaaaGreat
namespace Go.Proofs.YtabcpghhfeplaaaGreat
open Cdc Trx
namespace Trx
def one1 (a : Int) (n : Nat) : Sums := ⟨1, n, if a = 10 ∨ a = 13 then 1 else 0, a == 10, a == 13⟩
theorem one1_ok (a : Int) {n : Nat} (h : 1 ≤ n) : (one1 a n).Ok := by
 refine ⟨?_, h, ?_, ?_, ?_⟩
 ·show (if a = 10 ∨ a = 13 then 1 else 0) ≤ 1
  split <;> omega
 ·intro e
  have : a = 10 := by simpa [one1] using e
  show 1 ≤ if a = 10 ∨ a = 13 then 1 else 0
  rw [if_pos (.inl this)]; omega
 ·intro e
  have : a = 13 := by simpa [one1] using e
  show 1 ≤ if a = 10 ∨ a = 13 then 1 else 0
  rw [if_pos (.inr this)]; omega
 ·intro e; exact absurd e (by show ¬ 1 = 0; omega)
abbrev As := List (Int × Nat)
def Posd (l : As) : Prop := ∀ x ∈ l, 1 ≤ x.2
theorem Posd.tail {x : Int × Nat} {l : As} (h : Posd (x :: l)) : Posd l := fun y hy => h y (List.mem_cons_of_mem _ hy)
theorem Posd.app {l m : As} (h : Posd l) (h' : Posd m) : Posd (l ++ m) := fun y hy => (List.mem_append.1 hy).elim (h y) (h' y)
theorem Posd.take {l : As} (h : Posd l) (n : Nat) : Posd (l.take n) := fun y hy => h y (List.mem_of_mem_take hy)
theorem Posd.drop {l : As} (h : Posd l) (n : Nat) : Posd (l.drop n) := fun y hy => h y (List.mem_of_mem_drop hy)
theorem ats_posd (e : Enc) (l : Bs) : Posd (ats e l) := fun x hx => (ats_pos e _ l (Nat.le_refl _) x hx).1
def msr : As → Sums
 | [] => .zero
 | x :: r => (one1 x.1 x.2).add (msr r)
theorem msr_ok : ∀ {l : As}, Posd l → (msr l).Ok
 | [], _ => Sums.zero_ok
 | x :: r, h => Sums.add_ok (one1_ok _ (h x List.mem_cons_self)) (msr_ok h.tail)
theorem msr_append : ∀ {l m : As}, Posd l → Posd m → msr (l ++ m) = (msr l).add (msr m)
 | [], m, _, _ => rfl
 | x :: r, m, h, h' => by
  show (one1 x.1 x.2).add (msr (r ++ m)) = ((one1 x.1 x.2).add (msr r)).add (msr m)
  rw [msr_append h.tail h', Sums.add_assoc (one1_ok _ (h x List.mem_cons_self)) (msr_ok h.tail) (msr_ok h')]
theorem msr_one (a : Int) {n : Nat} (h : 1 ≤ n) : msr [(a, n)] = one1 a n := Sums.add_zero (one1_ok a h)
theorem msr_atoms : ∀ {l : As}, Posd l → (msr l).atoms = l.length
 | [], _ => rfl
 | x :: r, h => by
  have := (Sums.add_bytes _ _ (one1_ok x.1 (h x List.mem_cons_self)) (msr_ok h.tail)).2
  show ((one1 x.1 x.2).add (msr r)).atoms = _
  rw [this, msr_atoms h.tail, List.length_cons]
  show 1 + _ = _; omega
theorem msr_bytes : ∀ {l : As}, Posd l → (msr l).bytes = szs l
 | [], _ => rfl
 | x :: r, h => by
  have := (Sums.add_bytes _ _ (one1_ok x.1 (h x List.mem_cons_self)) (msr_ok h.tail)).1
  show ((one1 x.1 x.2).add (msr r)).bytes = _
  rw [this, msr_bytes h.tail, szs_cons]; rfl
def isE (a : Int) (r : List Int) : Bool := a == 10 || (a == 13 && r.head? != some 10)
def brs : List Int → Nat
 | [] => 0
 | a :: r => (if isE a r then 1 else 0) + brs r
def nb : List Int → Nat → Nat
 | [], _ => 0
 | _ :: _, 0 => 0
 | a :: r, n + 1 => (if isE a r then 1 else 0) + nb r n
def sk : List Int → Nat → Option Nat
 | _, 0 => some 0
 | [], _ + 1 => none
 | a :: r, k + 1 => (sk r (if isE a r then k else k + 1)).map (· + 1)
abbrev atoms (l : As) : List Int := l.map (·.1)
theorem msr_lf : ∀ {l : As}, Posd l → (msr l).lf = ((atoms l).head? == some 10)
 | [], _ => rfl
 | x :: r, h => by
  show ((one1 x.1 x.2).add (msr r)).lf = _
  unfold Sums.add
  rw [if_neg (show ¬ (one1 x.1 x.2).atoms = 0 by show ¬ 1 = 0; omega)]
  split <;> (simp [one1, atoms]; done)
theorem msr_cr : ∀ {l : As}, Posd l → (msr l).cr = ((atoms l).getLast? == some 13)
 | [], _ => rfl
 | [x], h => by rw [msr_one x.1 (h x List.mem_cons_self)]; simp [one1, atoms]
 | x :: y :: r, h => by
  have ih := msr_cr h.tail
  have ha := msr_atoms h.tail
  show ((one1 x.1 x.2).add (msr (y :: r))).cr = _
  unfold Sums.add
  rw [if_neg (show ¬ (one1 x.1 x.2).atoms = 0 by show ¬ 1 = 0; omega), if_neg (show ¬ (msr (y :: r)).atoms = 0 by rw [ha]; simp)]
  show (msr (y :: r)).cr = _
  rw [ih]
  simp [atoms]
theorem brk_arith (a : Int) (g : Bool) (n : Nat) (h : g = true → 1 ≤ n) : (if a = 10 ∨ a = 13 then 1 else 0) + n - (if ((a == 13) && g) = true then 1 else 0) = (if (a == 10 || (a == 13 && !g)) = true then 1 else 0) + n := by
 by_cases h10 : a = 10
 ·simp [h10]
 ·by_cases h13 : a = 13
  ·cases g with
   | true =>
    have := h rfl
    simp [h13]
   | false => simp [h13]
  ·simp [h10, h13]
theorem msr_breaks : ∀ {l : As}, Posd l → (msr l).breaks = brs (atoms l)
 | [], _ => rfl
 | x :: r, h => by
  have ih := msr_breaks h.tail
  have hlf := msr_lf h.tail
  have ha := msr_atoms h.tail
  have hok := msr_ok h.tail
  show ((one1 x.1 x.2).add (msr r)).breaks = (if isE x.1 (atoms r) then 1 else 0) + brs (atoms r)
  unfold Sums.add
  rw [if_neg (show ¬ (one1 x.1 x.2).atoms = 0 by show ¬ 1 = 0; omega)]
  split
  ·rename_i h0
   have : r = [] := by rw [ha] at h0; exact List.length_eq_zero_iff.1 h0
   subst this
   show (if x.1 = 10 ∨ x.1 = 13 then 1 else 0) = _
   simp [isE, brs]
  ·show (if x.1 = 10 ∨ x.1 = 13 then 1 else 0) + (msr r).breaks - (if (x.1 == 13) && (msr r).lf then 1 else 0) = _
   have := hok.lf
   rw [ih] at this ⊢
   rw [hlf] at this ⊢
   exact brk_arith x.1 _ _ this
theorem brs_nb : ∀ (l : List Int), brs l = nb l l.length
 | [] => rfl
 | a :: r => by rw [brs, List.length_cons, nb, brs_nb r]
theorem nb_ge : ∀ (l : List Int) (n : Nat), l.length ≤ n → nb l n = brs l
 | [], n, _ => by cases n <;> rfl
 | a :: r, 0, h => by simp at h
 | a :: r, n + 1, h => by rw [nb, brs, nb_ge r n (by simpa using h)]
theorem nb_zero (l : List Int) : nb l 0 = 0 := by cases l <;> rfl
def split13 (l : List Int) (n : Nat) : Bool := (0 < n) && l[n - 1]? == some 13 && l[n]? == some 10
theorem brs_take : ∀ (l : List Int) (n : Nat), brs (l.take n) = nb l n + (if split13 l n then 1 else 0)
 | [], n => by cases n <;> simp [brs, nb, split13]
 | a :: r, 0 => by simp [brs, nb, split13]
 | a :: r, 1 => by
  simp only [List.take_succ_cons, List.take_zero, brs, nb, nb_zero]
  unfold isE split13
  by_cases h10 : a = 10
  ·simp [h10]
  ·by_cases h13 : a = 13
   ·subst h13
    cases r with
    | nil => simp
    | cons b r => by_cases hb : b = 10 <;> simp [hb]
   ·simp [h10, h13]
 | a :: r, n + 2 => by
  have ih := brs_take r (n + 1)
  simp only [List.take_succ_cons, brs, nb]
  have e1 : isE a (r.take (n + 1)) = isE a r := by
   unfold isE
   cases r <;> simp
  have e2 : split13 (a :: r) (n + 2) = split13 r (n + 1) := by
   unfold split13
   simp
  rw [e1, ih, e2]; omega
theorem sk_of : ∀ (l : List Int) (k m : Nat), 1 ≤ k → m ≤ l.length → k ≤ brs (l.take m) → (∀ j, j < m → brs (l.take j) < k) → sk l k = some (if split13 l m then m + 1 else m)
 | [], k, m, hk, hm, h1, _ => by
  have : m = 0 := by simpa using hm
  subst this; simp [brs] at h1; omega
 | a :: r, k, 0, hk, _, h1, _ => by simp [brs] at h1; omega
 | a :: r, k, 1, hk, _, h1, _ => by
  simp only [List.take_succ_cons, List.take_zero, brs] at h1
  have hk1 : k = 1 := by split at h1 <;> omega
  subst hk1
  have ha : isE a [] = true := by
   by_cases h : isE a [] = true
   ·exact h
   ·rw [if_neg h] at h1; omega
  rw [sk]
  unfold isE at ha
  simp at ha
  by_cases h10 : a = 10
  ·subst h10; simp [isE, sk, split13]
  ·have h13 : a = 13 := ha.resolve_left h10
   subst h13
   cases r with
   | nil => simp [isE, sk, split13]
   | cons b r =>
    by_cases hb : b = 10
    ·subst hb; simp [isE, sk, split13]
    ·have : ¬ (some b = some (10 : Int)) := by simpa using hb
     simp [isE, sk, split13, hb]
 | a :: r, k, m + 2, hk, hm, h1, h0 => by
  obtain ⟨k', rfl⟩ : ∃ k', k = k' + 1 := ⟨k - 1, by omega⟩
  have e1 : ∀ j, isE a (r.take (j + 1)) = isE a r := by
   intro j; unfold isE
   cases r <;> simp
  have e2 : split13 (a :: r) (m + 2) = split13 r (m + 1) := by
   unfold split13
   simp
  have hE1 : (if isE a [] then 1 else 0) < k' + 1 := by
   have := h0 1 (by omega)
   simpa [brs] using this
  have hm' : m + 1 ≤ r.length := by simp at hm; omega
  simp only [List.take_succ_cons, brs, e1] at h1
  have h0' : ∀ j, j < m + 1 → (if isE a (r.take j) then 1 else 0) + brs (r.take j) < k' + 1 := by
   intro j hj
   have := h0 (j + 1) (by omega)
   simpa [List.take_succ_cons, brs] using this
  rw [sk, e2]
  have hle : isE a r = true → isE a [] = true := by
   unfold isE; simp; intro h; rcases h with h | h
   ·exact .inl h
   ·exact .inr h.1
  cases hE : isE a r with
  | true =>
   rw [hE] at h1
   have hk1 : 1 ≤ k' := by rw [hle hE] at hE1; simp at hE1; omega
   rw [if_pos rfl]
   have := sk_of r k' (m + 1) hk1 hm' (by simp at h1; omega) (fun j hj => by
    cases j with
    | zero => simp [brs]; omega
    | succ j => have := h0' (j + 1) hj; rw [e1, hE] at this; simp at this; omega)
   rw [this]
   split <;> simp
  | false =>
   rw [hE] at h1
   simp only [Bool.false_eq_true, if_false]
   have := sk_of r (k' + 1) (m + 1) (by omega) hm' (by simpa using h1) (fun j hj => by
    cases j with
    | zero => simp [brs]
    | succ j => have := h0' (j + 1) hj; rw [e1, hE] at this; simpa using this)
   rw [this]
   split <;> simp
theorem sk_none : ∀ (l : List Int) (k : Nat), brs l < k → sk l k = none
 | [], 0, h => by simp at h
 | [], k + 1, _ => rfl
 | a :: r, 0, h => by omega
 | a :: r, k + 1, h => by
  rw [sk, sk_none r _ (by rw [brs] at h; split <;> simp_all <;> omega)]
  rfl
theorem sk_some : ∀ (l : List Int) (k : Nat), k ≤ brs l → ∃ m, sk l k = some m ∧ m ≤ l.length ∧ nb l m = k ∧ ∀ j, j < m → nb l j < k
 | l, 0, _ => ⟨0, by cases l <;> rfl, Nat.zero_le _, nb_zero l, fun j h => by omega⟩
 | [], k + 1, h => by simp [brs] at h
 | a :: r, k + 1, h => by
  have hle : (if isE a r then k else k + 1) ≤ brs r := by rw [brs] at h; split <;> simp_all <;> omega
  obtain ⟨m, h1, h2, h3, h4⟩ := sk_some r _ hle
  refine ⟨m + 1, by rw [sk, h1]; rfl, by simpa using h2, ?_, ?_⟩
  ·rw [nb, h3]; split <;> omega
  ·intro j hj
   cases j with
   | zero => rw [nb_zero]; omega
   | succ j =>
    rw [nb]
    have := h4 j (by omega)
    cases hE : isE a r <;> rw [hE] at this <;> simp at this ⊢ <;> omega
theorem nb_mono : ∀ (l : List Int) (n m : Nat), n ≤ m → nb l n ≤ nb l m
 | [], n, m, _ => by cases n <;> cases m <;> simp [nb]
 | a :: r, 0, m, _ => by rw [nb_zero]; omega
 | a :: r, n + 1, m + 1, h => by rw [nb, nb]; have := nb_mono r n m (by omega); omega
theorem nb_le : ∀ (l : List Int) (n : Nat), nb l n ≤ n
 | [], n => by cases n <;> simp [nb]
 | a :: r, 0 => by rw [nb_zero]; omega
 | a :: r, n + 1 => by rw [nb]; have := nb_le r n; split <;> omega
theorem pos_step {e : Enc} {l : Bs} {j : Nat} (h : szs ((ats e l).take j) < l.length) : ∃ a n, (ats e l)[j]? = some (a, n) ∧ nx e (l.drop (szs ((ats e l).take j))) = (a, n) ∧ (ats e l).take (j + 1) = (ats e l).take j ++ [(a, n)] ∧ szs ((ats e l).take (j + 1)) = szs ((ats e l).take j) + n ∧ 1 ≤ n ∧
  szs ((ats e l).take (j + 1)) ≤ l.length := by
 have hc := (ats_cut e j l).2
 have hne : l.drop (szs ((ats e l).take j)) ≠ [] := fun hn => by
  have := congrArg List.length hn
  rw [List.length_drop, List.length_nil] at this; omega
 rw [ats_cons e hne] at hc
 have hj : j < (ats e l).length := by
  by_cases hj : j < (ats e l).length
  ·exact hj
  ·have hz : (ats e l).drop j = [] := List.drop_eq_nil_of_le (by omega)
   rw [hz] at hc; cases hc
 have hd := List.drop_eq_getElem_cons hj
 rw [hd] at hc
 obtain ⟨h1, -⟩ := List.cons.inj hc
 have ht : (ats e l).take (j + 1) = (ats e l).take j ++ [(ats e l)[j]] := by rw [List.take_succ_eq_append_getElem hj]
 have hp := ats_posd e l _ (List.getElem_mem hj)
 have hx := List.getElem?_eq_getElem hj
 generalize (ats e l)[j] = x at *
 obtain ⟨a, n⟩ := x
 have hs : szs ((ats e l).take (j + 1)) = szs ((ats e l).take j) + n := by rw [ht, szs_append, szs_cons, szs_nil, Nat.add_zero]
 refine ⟨a, n, hx, h1, ht, hs, hp, ?_⟩
 have ha := szs_all e l
 rw [← List.take_append_drop (j + 1) (ats e l), szs_append] at ha
 omega
theorem szs_zero : ∀ {l : As}, Posd l → szs l = 0 → l = []
 | [], _, _ => rfl
 | x :: r, h, h0 => by rw [szs_cons] at h0; have := h x List.mem_cons_self; omega
theorem pos_end {e : Enc} {l : Bs} {j : Nat} (h : ¬ szs ((ats e l).take j) < l.length) : (ats e l).take j = ats e l := by
 have ha := szs_all e l
 rw [← List.take_append_drop j (ats e l), szs_append] at ha
 have := szs_zero ((ats_posd e l).drop j) (by omega)
 rw [List.drop_eq_nil_iff] at this
 exact List.take_of_length_le this
theorem pos_le {e : Enc} {l : Bs} (j : Nat) : szs ((ats e l).take j) ≤ l.length := by
 have ha := szs_all e l
 rw [← List.take_append_drop j (ats e l), szs_append] at ha
 omega
theorem msr_snoc {l : As} {a : Int} {n : Nat} (h : Posd l) (hn : 1 ≤ n) : msr (l ++ [(a, n)]) = (msr l).add (one1 a n) := by
 rw [msr_append h (fun x hx => by rw [List.mem_singleton.1 hx]; exact hn), msr_one a hn]
end Trx
end Go.Proofs.YtabcpghhfeplaaaGreat
