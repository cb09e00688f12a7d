/- YtolhlldgnfbemaaGreatMSp2: parts of the proof, put together by program. -/
import Derived.Test.YtolhlldgnfbemaaGreatMSp1
set_option linter.unusedVariables false
set_option linter.unusedSimpArgs false
set_option linter.unusedSectionVars false
namespace Go.Proofs.YtolhlldgnfbemaaGreat
namespace Cdc
theorem byte_nat {n : Nat} (h : n < 256) : (UInt8.ofNat n).toNat = n := by rw [UInt8.toNat_ofNat']; omega
theorem cont_byte (q : Nat) : cont (UInt8.ofNat (128 + q % 64)) = true := by
 unfold cont; rw [byte_nat (by omega)]; simp; omega
def Scalar (a : Int) : Prop := (0 ≤ a ∧ a < 55296) ∨ (57343 < a ∧ a ≤ 1114111)
theorem nx8_pt {a : Int} (h : Scalar a) (r : Bs) : nx8 (pt8 a ++ r) = (a, sz8 a) := by
 obtain ⟨n, rfl⟩ : ∃ n : Nat, a = (n : Int) := Int.eq_ofNat_of_zero_le (by rcases h with h | h <;> omega)
 have hs : sz8 (n : Int) = if n < 128 then 1 else if n < 2048 then 2 else if n < 65536 then 3 else 4 := by
  unfold sz8
  rw [if_neg (by rcases h with h | h <;> omega)]
  repeat' split
  all_goals first | rfl | omega
 unfold pt8
 rw [if_neg (by omega), hs, Int.toNat_natCast]
 by_cases h1 : n < 128
 ·rw [if_pos h1, if_pos rfl]
  have hb : (UInt8.ofNat n).toNat = n := byte_nat (by omega)
  show nx8 (UInt8.ofNat n :: r) = _
  have hbn : bnds n = (1, 0, 0) := by unfold bnds; rw [if_pos h1]
  have hr : rowOf (UInt8.ofNat n :: r) = (1, 1) := by simp only [rowOf, hb, hbn]; rfl
  simp only [nx8, hr, hb]
  rw [if_neg (by decide)]
  rfl
 rw [if_neg h1]
 by_cases h2 : n < 2048
 ·rw [if_pos h2, if_neg (by decide)]
  have hb : (UInt8.ofNat (mk8 2 + n / 64 ^ (2 - 1))).toNat = 192 + n / 64 := by
   show (UInt8.ofNat (192 + n / 64)).toNat = _
   exact byte_nat (by omega)
  have hc : (UInt8.ofNat (128 + n / 64 ^ 0 % 64)).toNat = 128 + n % 64 := by
   rw [byte_nat (by omega)]; simp
  have hbn : bnds (192 + n / 64) = (2, 128, 191) := by
   unfold bnds; rw [if_neg (by omega), if_neg (by omega), if_pos (by omega)]
  show nx8 (UInt8.ofNat (mk8 2 + n / 64 ^ (2 - 1)) :: UInt8.ofNat (128 + n / 64 ^ 0 % 64) :: r) = _
  have hr : rowOf (UInt8.ofNat (mk8 2 + n / 64 ^ (2 - 1)) :: UInt8.ofNat (128 + n / 64 ^ 0 % 64) :: r) = (2, 2) := by
   simp only [rowOf, hb, hbn, hc]
   rw [if_neg (by decide), if_neg (by omega)]
   cases r <;> rfl
  simp only [nx8, hr, hb]
  rw [if_neg (by decide)]
  show (((rest (lead 2 (192 + n / 64)) [UInt8.ofNat (128 + n / 64 ^ 0 % 64)] : Nat) : Int), 2) = _
  have : rest (lead 2 (192 + n / 64)) [UInt8.ofNat (128 + n / 64 ^ 0 % 64)] = n := by
   show (192 + n / 64) % 32 * 64 + (UInt8.ofNat (128 + n / 64 ^ 0 % 64)).toNat % 64 = n
   rw [hc]; omega
  rw [this]
 rw [if_neg h2]
 by_cases h3 : n < 65536
 ·rw [if_pos h3, if_neg (by decide)]
  have hb : (UInt8.ofNat (mk8 3 + n / 64 ^ (3 - 1))).toNat = 224 + n / 4096 := by
   show (UInt8.ofNat (224 + n / 4096)).toNat = _
   exact byte_nat (by omega)
  have hc : (UInt8.ofNat (128 + n / 64 ^ 1 % 64)).toNat = 128 + n / 64 % 64 := by
   rw [byte_nat (by omega)]
  have hd : (UInt8.ofNat (128 + n / 64 ^ 0 % 64)).toNat = 128 + n % 64 := by
   rw [byte_nat (by omega)]; simp
  have hbn : ∃ lo hi, bnds (224 + n / 4096) = (3, lo, hi) ∧ ¬ (128 + n / 64 % 64 < lo ∨ hi < 128 + n / 64 % 64) := by
   unfold bnds
   rw [if_neg (by omega), if_neg (by omega), if_neg (by omega)]
   split
   ·exact ⟨_, _, rfl, by omega⟩
   ·split
    ·exact ⟨_, _, rfl, by rcases h with h | h <;> omega⟩
    ·rw [if_pos (by omega)]
     exact ⟨_, _, rfl, by omega⟩
  obtain ⟨lo, hi, hbn, hin⟩ := hbn
  show nx8 (UInt8.ofNat (mk8 3 + n / 64 ^ (3 - 1)) :: UInt8.ofNat (128 + n / 64 ^ 1 % 64) :: UInt8.ofNat (128 + n / 64 ^ 0 % 64) :: r) = _
  have hr : rowOf (UInt8.ofNat (mk8 3 + n / 64 ^ (3 - 1)) :: UInt8.ofNat (128 + n / 64 ^ 1 % 64) :: UInt8.ofNat (128 + n / 64 ^ 0 % 64) :: r) = (3, 3) := by
   simp only [rowOf, hb, hbn, hc]
   rw [if_neg (by decide), if_neg hin]
   show (2 + more 1 _, 3) = _
   simp only [more, cont_byte, if_true]
  simp only [nx8, hr, hb]
  rw [if_neg (by decide)]
  show (((rest (lead 3 (224 + n / 4096)) [UInt8.ofNat (128 + n / 64 ^ 1 % 64), UInt8.ofNat (128 + n / 64 ^ 0 % 64)] : Nat) : Int), 3) = _
  have : rest (lead 3 (224 + n / 4096)) [UInt8.ofNat (128 + n / 64 ^ 1 % 64), UInt8.ofNat (128 + n / 64 ^ 0 % 64)] = n := by
   show ((224 + n / 4096) % 16 * 64 + (UInt8.ofNat (128 + n / 64 ^ 1 % 64)).toNat % 64) * 64 + (UInt8.ofNat (128 + n / 64 ^ 0 % 64)).toNat % 64 = n
   rw [hc, hd]; omega
  rw [this]
 rw [if_neg h3, if_neg (by decide)]
 have hb : (UInt8.ofNat (mk8 4 + n / 64 ^ (4 - 1))).toNat = 240 + n / 262144 := by
  show (UInt8.ofNat (240 + n / 262144)).toNat = _
  exact byte_nat (by rcases h with h | h <;> omega)
 have hc : (UInt8.ofNat (128 + n / 64 ^ 2 % 64)).toNat = 128 + n / 4096 % 64 := by
  rw [byte_nat (by omega)]
 have hd : (UInt8.ofNat (128 + n / 64 ^ 1 % 64)).toNat = 128 + n / 64 % 64 := by
  rw [byte_nat (by omega)]
 have he : (UInt8.ofNat (128 + n / 64 ^ 0 % 64)).toNat = 128 + n % 64 := by
  rw [byte_nat (by omega)]; simp
 have hbn : ∃ lo hi, bnds (240 + n / 262144) = (4, lo, hi) ∧ ¬ (128 + n / 4096 % 64 < lo ∨ hi < 128 + n / 4096 % 64) := by
  unfold bnds
  rw [if_neg (by omega), if_neg (by omega), if_neg (by omega), if_neg (by omega), if_neg (by omega), if_neg (by omega)]
  split
  ·exact ⟨_, _, rfl, by omega⟩
  ·split
   ·exact ⟨_, _, rfl, by omega⟩
   ·rw [if_pos (by rcases h with h | h <;> omega)]
    exact ⟨_, _, rfl, by rcases h with h | h <;> omega⟩
 obtain ⟨lo, hi, hbn, hin⟩ := hbn
 show nx8 (UInt8.ofNat (mk8 4 + n / 64 ^ (4 - 1)) :: UInt8.ofNat (128 + n / 64 ^ 2 % 64) :: UInt8.ofNat (128 + n / 64 ^ 1 % 64) :: UInt8.ofNat (128 + n / 64 ^ 0 % 64) :: r) = _
 have hr : rowOf (UInt8.ofNat (mk8 4 + n / 64 ^ (4 - 1)) :: UInt8.ofNat (128 + n / 64 ^ 2 % 64) :: UInt8.ofNat (128 + n / 64 ^ 1 % 64) :: UInt8.ofNat (128 + n / 64 ^ 0 % 64) :: r) = (4, 4) := by
  simp only [rowOf, hb, hbn, hc]
  rw [if_neg (by decide), if_neg hin]
  show (2 + more 2 _, 4) = _
  simp only [more, cont_byte, if_true]
 simp only [nx8, hr, hb]
 rw [if_neg (by decide)]
 show (((rest (lead 4 (240 + n / 262144)) [UInt8.ofNat (128 + n / 64 ^ 2 % 64), UInt8.ofNat (128 + n / 64 ^ 1 % 64), UInt8.ofNat (128 + n / 64 ^ 0 % 64)] : Nat) : Int), 4) = _
 have : rest (lead 4 (240 + n / 262144)) [UInt8.ofNat (128 + n / 64 ^ 2 % 64), UInt8.ofNat (128 + n / 64 ^ 1 % 64), UInt8.ofNat (128 + n / 64 ^ 0 % 64)] = n := by
  show (((240 + n / 262144) % 8 * 64 + (UInt8.ofNat (128 + n / 64 ^ 2 % 64)).toNat % 64) * 64 + (UInt8.ofNat (128 + n / 64 ^ 1 % 64)).toNat % 64) * 64 + (UInt8.ofNat (128 + n / 64 ^ 0 % 64)).toNat % 64 = n
  rw [hc, hd, he]; rcases h with h | h <;> omega
 rw [this]
theorem uni_two (be : Bool) (u : Nat) (hu : u < 65536) : ∃ x y, uni be u = [x, y] ∧ un be x y = u := by
 have h1 : (UInt8.ofNat (u / 256)).toNat = u / 256 := byte_nat (by omega)
 have h2 : (UInt8.ofNat u).toNat = u % 256 := by rw [UInt8.toNat_ofNat']
 cases be with
 | false => exact ⟨_, _, rfl, by show (UInt8.ofNat u).toNat + (UInt8.ofNat (u / 256)).toNat * 256 = u; rw [h1, h2]; omega⟩
 | true => exact ⟨_, _, rfl, by show (UInt8.ofNat u).toNat + (UInt8.ofNat (u / 256)).toNat * 256 = u; rw [h1, h2]; omega⟩
theorem nx16_pt {be : Bool} {a : Int} (h : Scalar a) (r : Bs) : nx16 be (pt16 be a ++ r) = (a, sz16 a) := by
 obtain ⟨n, rfl⟩ : ∃ n : Nat, a = (n : Int) := Int.eq_ofNat_of_zero_le (by rcases h with h | h <;> omega)
 unfold pt16 sz16
 have a1 : ¬ (n : Int) < 0 := by omega
 have a2 : ¬ ((n : Int) < -256 ∨ 1114111 < (n : Int)) := by rcases h with h | h <;> omega
 rw [if_neg a1, if_neg a2, if_neg a1, Int.toNat_natCast]
 by_cases h1 : (n : Int) < 65536
 ·rw [if_pos h1, if_pos h1]
  obtain ⟨x, y, e, hu⟩ := uni_two be n (by omega)
  rw [e]
  show nx16 be (x :: y :: r) = _
  simp only [nx16, hu]
  rw [if_neg (by rcases h with h | h <;> omega)]
 ·rw [if_neg h1, if_neg h1]
  obtain ⟨x, y, e, hu⟩ := uni_two be (55296 + (n - 65536) / 1024) (by rcases h with h | h <;> omega)
  obtain ⟨x', y', e', hu'⟩ := uni_two be (56320 + n % 1024) (by omega)
  rw [e, e']
  show nx16 be (x :: y :: x' :: y' :: r) = _
  simp only [nx16, hu, hu']
  rw [if_pos (by rcases h with h | h <;> omega), if_pos (by omega)]
  have : (65536 : Int) + (((55296 + (n - 65536) / 1024) % 1024 * 1024 + (56320 + n % 1024) % 1024 : Nat) : Int) = (n : Int) := by rcases h with h | h <;> omega
  rw [this]
theorem nx1_pt {a : Int} (h0 : 0 ≤ a) (h : a ≤ 255) (r : Bs) : nx1 (pt1 a ++ r) = (a, sz1 a) := by
 obtain ⟨n, rfl⟩ := Int.eq_ofNat_of_zero_le h0
 have : (UInt8.ofNat n).toNat = n := byte_nat (by omega)
 show (((UInt8.ofNat n).toNat : Int), 1) = _
 rw [this]
 unfold sz1
 rw [if_neg (by omega)]
theorem nx_pt {e : Enc} {a : Int} (h : Scalar a) (hf : sz e a ≠ 0) (r : Bs) : nx e (pt e a ++ r) = (a, sz e a) := by
 cases e with
 | u8 => exact nx8_pt h r
 | le => exact nx16_pt h r
 | be => exact nx16_pt h r
 | l1 =>
  have hh : ¬ (a < 0 ∨ 255 < a) := fun hc => hf (by show sz1 a = 0; unfold sz1; rw [if_pos hc])
  exact nx1_pt (by omega) (by omega) r
theorem ats_pt {e : Enc} {a : Int} (h : Scalar a) (hf : sz e a ≠ 0) (r : Bs) : ats e (pt e a ++ r) = (a, sz e a) :: ats e r := by
 have hl := pt_len e a hf
 have hne : pt e a ++ r ≠ [] := fun hc => by
  have := congrArg List.length hc
  rw [List.length_append, List.length_nil] at this
  omega
 rw [ats_cons e hne, nx_pt h hf]
 have : (pt e a ++ r).drop (sz e a) = r := by rw [← hl, List.drop_left]
 rw [this]
end Cdc
end Go.Proofs.YtolhlldgnfbemaaGreat
set_option maxRecDepth 100000
namespace Go.Proofs.YtolhlldgnfbemaaGreat
open Go Go.Vx
def bs_29aed6ba : ByteArray := { data := #[48, 48, 57, 49, 53, 48, 48, 57, 51, 57, 49, 48, 48, 57, 53, 56, 48, 48, 57, 53, 70, 49, 48, 48, 57, 55, 56, 48, 48, 57, 55, 70, 49, 48, 48, 57, 57, 53, 48, 48, 57, 65, 56, 49, 48, 48, 57, 65, 65, 48, 48, 57, 66, 48, 49, 48, 48, 57, 66, 50, 48, 48, 57, 66, 50, 49, 48, 48, 57, 66, 54, 48, 48, 57, 66, 57, 49, 48, 48, 57, 68, 67, 48, 48, 57, 68, 68, 49, 48, 48, 57, 68, 70, 48, 48, 57, 68, 70, 49, 48, 48, 57, 70, 48, 48, 48, 57, 70, 49, 49, 48, 48, 65, 57, 53, 48, 48, 65, 65, 56, 49, 48, 48, 65, 65, 65, 48, 48, 65, 66, 48, 49, 48, 48, 65, 66, 50, 48, 48, 65, 66, 51, 49, 48, 48, 65, 66, 53, 48, 48, 65, 66, 57, 49, 48, 48, 65, 70, 57, 48, 48, 65, 70, 57, 49, 48, 48, 66, 49, 53, 48, 48, 66, 50, 56, 49, 48, 48, 66, 50, 65, 48, 48, 66, 51, 48, 49, 48, 48, 66, 51, 50, 48, 48, 66, 51, 51, 49, 48, 48, 66, 51, 53, 48, 48, 66, 51, 57, 49, 48, 48, 66, 53, 67, 48, 48, 66, 53, 68, 49, 48, 48, 66, 53, 70, 48, 48, 66, 53, 70, 49, 48, 48, 66, 55, 49, 48, 48, 66, 55, 49, 49, 48, 48, 67, 49, 53, 48, 48, 67, 50, 56, 49, 48, 48, 67, 50, 65, 48, 48, 67, 51, 57, 49, 48, 48, 67, 53, 56, 48, 48, 67, 53, 65, 49, 48, 48, 68, 49, 53, 48, 48, 68, 51, 65, 49] }
def bs_88441808 : ByteArray := { data := #[48, 48, 48, 48, 48, 48, 48, 48, 48, 57, 51, 48, 48, 48, 48, 65, 48, 48, 48, 48, 65, 50, 48, 48, 48, 48, 66, 48, 48, 48, 48, 67, 51, 48, 48, 48, 48, 68, 48, 48, 48, 48, 68, 49, 48, 48, 48, 48, 69, 48, 48, 48, 49, 70, 51, 48, 48, 48, 55, 70, 48, 48, 48, 57, 70, 51, 48, 48, 48, 65, 57, 48, 48, 48, 65, 57, 69, 48, 48, 48, 65, 68, 48, 48, 48, 65, 68, 51, 48, 48, 48, 65, 69, 48, 48, 48, 65, 69, 69, 48, 48, 51, 48, 48, 48, 48, 51, 54, 70, 52, 48, 48, 52, 56, 51, 48, 48, 52, 56, 57, 52, 48, 48, 53, 57, 49, 48, 48, 53, 66, 68, 52, 48, 48, 53, 66, 70, 48, 48, 53, 66, 70, 52, 48, 48, 53, 67, 49, 48, 48, 53, 67, 50, 52, 48, 48, 53, 67, 52, 48, 48, 53, 67, 53, 52, 48, 48, 53, 67, 55, 48, 48, 53, 67, 55, 52, 48, 48, 54, 48, 48, 48, 48, 54, 48, 53, 55, 48, 48, 54, 49, 48, 48, 48, 54, 49, 65, 52, 48, 48, 54, 49, 67, 48, 48, 54, 49, 67, 51, 48, 48, 54, 52, 66, 48, 48, 54, 53, 70, 52, 48, 48, 54, 55, 48, 48, 48, 54, 55, 48, 52, 48, 48, 54, 68, 54, 48, 48, 54, 68, 67, 52, 48, 48, 54, 68, 68, 48, 48, 54, 68, 68, 55, 48, 48, 54, 68, 70, 48, 48, 54, 69, 52, 52, 48, 48, 54, 69, 55, 48, 48, 54, 69, 56, 52, 48, 48, 54, 69, 65, 48, 48, 54, 69, 68, 52, 48, 48, 55, 48, 70, 48, 48, 55, 48, 70, 55, 48, 48, 55, 49, 49, 48, 48, 55, 49, 49, 52, 48, 48, 55, 51, 48, 48, 48, 55, 52, 65, 52, 48, 48, 55, 65, 54, 48, 48, 55, 66, 48, 52, 48, 48, 55, 69, 66, 48, 48, 55, 70, 51, 52, 48, 48, 55, 70, 68, 48, 48, 55, 70, 68, 52, 48, 48, 56, 49, 54, 48, 48, 56, 49, 57, 52, 48, 48, 56, 49, 66, 48, 48, 56, 50, 51, 52, 48, 48, 56, 50, 53, 48, 48, 56, 50, 55, 52, 48, 48, 56, 50, 57, 48, 48, 56, 50, 68, 52, 48, 48, 56, 53, 57, 48, 48, 56, 53, 66, 52, 48, 48, 56, 57, 48, 48, 48, 56, 57, 49, 55, 48, 48, 56, 57, 56, 48, 48, 56, 57, 70, 52, 48, 48, 56, 67, 65, 48, 48, 56, 69, 49, 52, 48, 48, 56, 69, 50, 48, 48, 56, 69, 50, 55, 48, 48, 56, 69, 51, 48, 48, 57, 48, 50, 52, 48, 48, 57, 48, 51, 48, 48, 57, 48, 51, 56, 48, 48, 57, 51, 65, 48, 48, 57, 51, 65, 52, 48, 48, 57, 51, 66, 48, 48, 57, 51, 66, 56, 48, 48, 57, 51, 67, 48, 48, 57, 51, 67, 52, 48, 48, 57, 51, 69, 48, 48, 57, 52, 48, 56, 48, 48, 57, 52, 49, 48, 48, 57, 52, 56, 52, 48, 48, 57, 52, 57, 48, 48, 57, 52, 67, 56, 48, 48, 57, 52, 68, 48, 48, 57, 52, 68, 52, 48, 48, 57, 52, 69, 48, 48, 57, 52, 70, 56, 48, 48, 57, 53, 49, 48, 48, 57, 53, 55, 52, 48, 48, 57, 54, 50, 48, 48, 57, 54, 51, 52, 48, 48, 57, 56, 49, 48, 48, 57, 56, 49, 52, 48, 48, 57, 56, 50, 48, 48, 57, 56, 51, 56, 48, 48, 57, 66, 67, 48, 48, 57, 66, 67, 52, 48, 48, 57, 66, 69, 48, 48, 57, 66, 69, 52, 48, 48, 57, 66, 70, 48, 48, 57, 67, 48, 56, 48, 48, 57, 67, 49, 48, 48, 57, 67, 52, 52, 48, 48, 57, 67, 55, 48, 48, 57, 67, 56, 56, 48, 48, 57, 67, 66, 48, 48, 57, 67, 67, 56, 48, 48, 57, 67, 68, 48, 48, 57, 67, 68, 52, 48, 48, 57, 68, 55, 48, 48, 57, 68, 55, 52, 48, 48, 57, 69, 50, 48, 48, 57, 69, 51, 52, 48, 48, 57, 70, 69, 48, 48, 57, 70, 69, 52, 48, 48, 65, 48, 49, 48, 48, 65, 48, 50, 52, 48, 48, 65, 48, 51, 48, 48, 65, 48, 51, 56, 48, 48, 65, 51, 67, 48, 48, 65, 51, 67, 52, 48, 48, 65, 51, 69, 48, 48, 65, 52, 48, 56, 48, 48, 65, 52, 49, 48, 48, 65, 52, 50, 52, 48, 48, 65, 52, 55, 48, 48, 65, 52, 56, 52, 48, 48, 65, 52, 66, 48, 48, 65, 52, 68, 52, 48, 48, 65, 53, 49, 48, 48, 65, 53, 49, 52, 48, 48, 65, 55, 48, 48, 48, 65, 55, 49, 52, 48, 48, 65, 55, 53, 48, 48, 65, 55, 53, 52, 48, 48, 65, 56, 49, 48, 48, 65, 56, 50, 52, 48, 48, 65, 56, 51, 48, 48, 65, 56, 51, 56, 48, 48, 65, 66, 67, 48, 48, 65, 66, 67, 52, 48, 48, 65, 66, 69, 48, 48, 65, 67, 48, 56, 48, 48, 65, 67, 49, 48, 48, 65, 67, 53, 52, 48, 48, 65, 67, 55, 48, 48, 65, 67, 56, 52, 48, 48, 65, 67, 57, 48, 48, 65, 67, 57, 56, 48, 48, 65, 67, 66, 48, 48, 65, 67, 67, 56, 48, 48, 65, 67, 68, 48, 48, 65, 67, 68, 52, 48, 48, 65, 69, 50, 48, 48, 65, 69, 51, 52, 48, 48, 65, 70, 65, 48, 48, 65, 70, 70, 52, 48, 48, 66, 48, 49, 48, 48, 66, 48, 49, 52, 48, 48, 66, 48, 50, 48, 48, 66, 48, 51, 56, 48, 48, 66, 51, 67, 48, 48, 66, 51, 67, 52, 48, 48, 66, 51, 69, 48, 48, 66, 51, 70, 52, 48, 48, 66, 52, 48, 48, 48, 66, 52, 48, 56, 48, 48, 66, 52, 49, 48, 48, 66, 52, 52, 52, 48, 48, 66, 52, 55, 48, 48, 66, 52, 56, 56, 48, 48, 66, 52, 66, 48, 48, 66, 52, 67, 56, 48, 48, 66, 52, 68, 48, 48, 66, 52, 68, 52, 48, 48, 66, 53, 53, 48, 48, 66, 53, 55, 52, 48, 48, 66, 54, 50, 48, 48, 66, 54, 51, 52, 48, 48, 66, 56, 50, 48, 48, 66, 56, 50, 52, 48, 48, 66, 66, 69, 48, 48, 66, 66, 69, 52, 48, 48, 66, 66, 70, 48, 48, 66, 66, 70, 56, 48, 48, 66, 67, 48, 48, 48, 66, 67, 48, 52, 48, 48, 66, 67, 49, 48, 48, 66, 67, 50, 56, 48, 48, 66, 67, 54, 48, 48, 66, 67, 56, 56, 48, 48, 66, 67, 65, 48, 48, 66, 67, 67, 56, 48, 48, 66, 67, 68, 48, 48, 66, 67, 68, 52, 48, 48, 66, 68, 55, 48, 48, 66, 68, 55, 52, 48, 48, 67, 48, 48, 48, 48, 67, 48, 48, 52, 48, 48, 67, 48, 49, 48, 48, 67, 48, 51, 56, 48, 48, 67, 48, 52, 48, 48, 67, 48, 52, 52, 48, 48, 67, 51, 67, 48, 48, 67, 51, 67, 52, 48, 48, 67, 51, 69, 48, 48, 67, 52, 48, 52, 48, 48, 67, 52, 49, 48, 48, 67, 52, 52, 56, 48, 48, 67, 52, 54, 48, 48, 67, 52, 56, 52, 48, 48, 67, 52, 65, 48, 48, 67, 52, 68, 52, 48, 48, 67, 53, 53, 48, 48, 67, 53, 54, 52, 48, 48, 67, 54, 50, 48, 48, 67, 54, 51, 52, 48, 48, 67, 56, 49, 48, 48, 67, 56, 49, 52, 48, 48, 67, 56, 50, 48, 48, 67, 56, 51, 56, 48, 48, 67, 66, 67, 48, 48, 67, 66, 67, 52, 48, 48, 67, 66, 69, 48, 48, 67, 66, 69, 56, 48, 48, 67, 66, 70, 48, 48, 67, 66, 70, 52, 48, 48, 67, 67, 48, 48, 48, 67, 67, 49, 56, 48, 48, 67, 67, 50, 48, 48, 67, 67, 50, 52, 48, 48, 67, 67, 51, 48, 48, 67, 67, 52, 56, 48, 48, 67, 67, 54, 48, 48, 67, 67, 54, 52, 48, 48, 67, 67, 55, 48, 48, 67, 67, 56, 56, 48, 48, 67, 67, 65, 48, 48, 67, 67, 66, 56, 48, 48, 67, 67, 67, 48, 48, 67, 67, 68, 52, 48, 48, 67, 68, 53, 48, 48, 67, 68, 54, 52, 48, 48, 67, 69, 50, 48, 48, 67, 69, 51, 52, 48, 48, 67, 70, 51, 48, 48, 67, 70, 51, 56, 48, 48, 68, 48, 48, 48, 48, 68, 48, 49, 52, 48, 48, 68, 48, 50, 48, 48, 68, 48, 51, 56, 48, 48, 68, 51, 66, 48, 48, 68, 51, 67, 52, 48, 48, 68, 51, 69, 48, 48, 68, 51, 69, 52, 48, 48, 68, 51, 70, 48, 48, 68, 52, 48, 56, 48, 48, 68, 52, 49, 48, 48, 68, 52, 52, 52, 48, 48, 68, 52, 54, 48, 48, 68, 52, 56, 56, 48, 48, 68, 52, 65, 48, 48, 68, 52, 67, 56, 48, 48, 68, 52, 68, 48, 48, 68, 52, 68, 52, 48, 48, 68, 52, 69, 48, 48, 68, 52, 69, 55, 48, 48, 68, 53, 55, 48, 48, 68, 53, 55, 52, 48, 48, 68, 54, 50, 48, 48, 68, 54, 51, 52, 48, 48, 68, 56, 49, 48, 48, 68, 56, 49, 52, 48, 48, 68, 56, 50, 48, 48, 68, 56, 51, 56, 48, 48, 68, 67, 65, 48, 48, 68, 67, 65, 52, 48, 48, 68, 67, 70, 48, 48, 68, 67, 70, 52, 48, 48, 68, 68, 48, 48, 48, 68, 68, 49, 56, 48, 48, 68, 68, 50, 48, 48, 68, 68, 52, 52, 48, 48, 68, 68, 54, 48, 48, 68, 68, 54, 52, 48, 48, 68, 68, 56, 48, 48, 68, 68, 69, 56, 48, 48, 68, 68, 70, 48, 48, 68, 68, 70, 52, 48, 48, 68, 70, 50, 48, 48, 68, 70, 51, 56, 48, 48, 69, 51, 49, 48, 48, 69, 51, 49, 52, 48, 48, 69, 51, 51, 48, 48, 69, 51, 51, 56, 48, 48, 69, 51, 52, 48, 48, 69, 51, 65, 52, 48, 48, 69, 52, 55, 48, 48, 69, 52, 69, 52, 48, 48, 69, 66, 49, 48, 48, 69, 66, 49, 52, 48, 48, 69, 66, 51, 48, 48, 69, 66, 51, 56, 48, 48, 69, 66, 52, 48, 48, 69, 66, 67, 52, 48, 48, 69, 67, 56, 48, 48, 69, 67, 69, 52, 48, 48, 70, 49, 56, 48, 48, 70, 49, 57, 52, 48, 48, 70, 51, 53, 48, 48, 70, 51, 53, 52, 48, 48, 70, 51, 55, 48, 48, 70, 51, 55, 52, 48, 48, 70, 51, 57, 48, 48, 70, 51, 57, 52, 48, 48, 70, 51, 69, 48, 48, 70, 51, 70, 56, 48, 48, 70, 55, 49, 48, 48, 70, 55, 69, 52, 48, 48, 70, 55, 70, 48, 48, 70, 55, 70, 56, 48, 48, 70, 56, 48, 48, 48, 70, 56, 52, 52, 48, 48, 70, 56, 54, 48, 48, 70, 56, 55, 52, 48, 48, 70, 56, 68, 48, 48, 70, 57, 55, 52, 48, 48, 70, 57, 57, 48, 48, 70, 66, 67, 52, 48, 48, 70, 67, 54, 48, 48, 70, 67, 54, 52, 48, 49, 48, 50, 68, 48, 49, 48, 51, 48, 52, 48, 49, 48, 51, 49, 48, 49, 48, 51, 49, 56, 48, 49, 48, 51, 50, 48, 49, 48, 51, 55, 52, 48, 49, 48, 51, 57, 48, 49, 48, 51, 65, 52, 48, 49, 48, 51, 66, 48, 49, 48, 51, 67, 56, 48, 49, 48, 51, 68, 48, 49, 48, 51, 69, 52, 48, 49, 48, 53, 54, 48, 49, 48, 53, 55, 56, 48, 49, 48, 53, 56, 48, 49, 48, 53, 57, 52, 48, 49, 48, 53, 69, 48, 49, 48, 54, 48, 52, 48, 49, 48, 55, 49, 48, 49, 48, 55, 52, 52, 48, 49, 48, 56, 50, 48, 49, 48, 56, 50, 52, 48, 49, 48, 56, 52, 48, 49, 48, 56, 52, 56, 48, 49, 48, 56, 53, 48, 49, 48, 56, 54, 52, 48, 49, 48, 56, 68, 48, 49, 48, 56, 68, 52, 48, 49, 48, 57, 68, 48, 49, 48, 57, 68, 52, 48, 49, 49, 48, 48, 48, 49, 49, 53, 70, 57, 48, 49, 49, 54, 48, 48, 49, 49, 65, 55, 65, 48, 49, 49, 65, 56, 48, 49, 49, 70, 70, 66, 48, 49, 51, 53, 68, 48, 49, 51, 53, 70, 52, 48, 49, 55, 66, 52, 48, 49, 55, 66, 53, 52, 48, 49, 55, 66, 54, 48, 49, 55, 66, 54, 56, 48, 49, 55, 66, 55, 48, 49, 55, 66, 68, 52, 48, 49, 55, 66, 69, 48, 49, 55, 67, 53, 56, 48, 49, 55, 67, 54, 48, 49, 55, 67, 54, 52, 48, 49, 55, 67, 55, 48, 49, 55, 67, 56, 56, 48, 49, 55, 67, 57, 48, 49, 55, 68, 51, 52, 48, 49, 55, 68, 68, 48, 49, 55, 68, 68, 52, 48, 49, 56, 48, 66, 48, 49, 56, 48, 68, 52, 48, 49, 56, 48, 69, 48, 49, 56, 48, 69, 51, 48, 49, 56, 48, 70, 48, 49, 56, 48, 70, 52, 48, 49, 56, 65, 57, 48, 49, 56, 65, 57, 52, 48, 49, 65, 66, 48, 48, 49, 65, 67, 69, 52, 48, 49, 68, 67, 48, 48, 49, 68, 70, 70, 52, 48, 50, 48, 48, 66, 48, 50, 48, 48, 66, 51, 48, 50, 48, 48, 67, 48, 50, 48, 48, 67, 52, 48, 50, 48, 48, 68, 48, 50, 48, 48, 68, 53, 48, 50, 48, 48, 69, 48, 50, 48, 48, 70, 51, 48, 50, 48, 50, 56, 48, 50, 48, 50, 69, 51, 48, 50, 48, 51, 67, 48, 50, 48, 51, 67, 69, 48, 50, 48, 52, 57, 48, 50, 48, 52, 57, 69, 48, 50, 48, 54, 48, 48, 50, 48, 54, 70, 51, 48, 50, 48, 68, 48, 48, 50, 48, 70, 48, 52, 48, 50, 49, 50, 50, 48, 50, 49, 50, 50, 69, 48, 50, 49, 51, 57, 48, 50, 49, 51, 57, 69, 48, 50, 49, 57, 52, 48, 50, 49, 57, 57, 69, 48, 50, 49, 65, 57, 48, 50, 49, 65, 65, 69, 48, 50, 51, 49, 65, 48, 50, 51, 49, 66, 69, 48, 50, 51, 50, 56, 48, 50, 51, 50, 56, 69, 48, 50, 51, 56, 56, 48, 50, 51, 56, 56, 69, 48, 50, 51, 67, 70, 48, 50, 51, 67, 70, 69, 48, 50, 51, 69, 57, 48, 50, 51, 70, 51, 69, 48, 50, 51, 70, 56, 48, 50, 51, 70, 65, 69, 48, 50, 52, 67, 50, 48, 50, 52, 67, 50, 69, 48, 50, 53, 65, 65, 48, 50, 53, 65, 66, 69, 48, 50, 53, 66, 54, 48, 50, 53, 66, 54, 69, 48, 50, 53, 67, 48, 48, 50, 53, 67, 48, 69, 48, 50, 53, 70, 66, 48, 50, 53, 70, 69, 69, 48, 50, 54, 48, 48, 48, 50, 54, 48, 53, 69, 48, 50, 54, 48, 55, 48, 50, 54, 49, 50, 69, 48, 50, 54, 49, 52, 48, 50, 54, 56, 53, 69, 48, 50, 54, 57, 48, 48, 50, 55, 48, 53, 69, 48, 50, 55, 48, 56, 48, 50, 55, 49, 50, 69, 48, 50, 55, 49, 52, 48, 50, 55, 49, 52, 69, 48, 50, 55, 49, 54, 48, 50, 55, 49, 54, 69, 48, 50, 55, 49, 68, 48, 50, 55, 49, 68, 69, 48, 50, 55, 50, 49, 48, 50, 55, 50, 49, 69, 48, 50, 55, 50, 56, 48, 50, 55, 50, 56, 69, 48, 50, 55, 51, 51, 48, 50, 55, 51, 52, 69, 48, 50, 55, 52, 52, 48, 50, 55, 52, 52, 69, 48, 50, 55, 52, 55, 48, 50, 55, 52, 55, 69, 48, 50, 55, 52, 67, 48, 50, 55, 52, 67, 69, 48, 50, 55, 52, 69, 48, 50, 55, 52, 69, 69, 48, 50, 55, 53, 51, 48, 50, 55, 53, 53, 69, 48, 50, 55, 53, 55, 48, 50, 55, 53, 55, 69, 48, 50, 55, 54, 51, 48, 50, 55, 54, 55, 69, 48, 50, 55, 57, 53, 48, 50, 55, 57, 55, 69, 48, 50, 55, 65, 49, 48, 50, 55, 65, 49, 69, 48, 50, 55, 66, 48, 48, 50, 55, 66, 48, 69, 48, 50, 55, 66, 70, 48, 50, 55, 66, 70, 69, 48, 50, 57, 51, 52, 48, 50, 57, 51, 53, 69, 48, 50, 66, 48, 53, 48, 50, 66, 48, 55, 69, 48, 50, 66, 49, 66, 48, 50, 66, 49, 67, 69, 48, 50, 66, 53, 48, 48, 50, 66, 53, 48, 69, 48, 50, 66, 53, 53, 48, 50, 66, 53, 53, 69, 48, 51, 48, 50, 65, 48, 51, 48, 50, 70, 52, 48, 51, 48, 51, 48, 48, 51, 48, 51, 48, 69, 48, 51, 48, 51, 68, 48, 51, 48, 51, 68, 69, 48, 51, 48, 57, 57, 48, 51, 48, 57, 65, 52, 48, 51, 50, 57, 55, 48, 51, 50, 57, 55, 69, 48, 51, 50, 57, 57, 48, 51, 50, 57, 57, 69, 48, 65, 54, 54, 70, 48, 65, 54, 55, 50, 52, 48, 65, 54, 55, 52, 48, 65, 54, 55, 68, 52, 48, 65, 54, 57, 69, 48, 65, 54, 57, 70, 52, 48, 65, 54, 70, 48, 48, 65, 54, 70, 49, 52, 48, 65, 57, 54, 48, 48, 65, 57, 55, 67, 57, 48, 68, 55, 66, 48, 48, 68, 55, 67, 54, 65, 48, 68, 55, 67, 66, 48, 68, 55, 70, 66, 66, 48, 70, 66, 49, 69, 48, 70, 66, 49, 69, 52, 48, 70, 69, 48, 48, 48, 70, 69, 48, 70, 52, 48, 70, 69, 50, 48, 48, 70, 69, 50, 70, 52, 48, 70, 69, 70, 70, 48, 70, 69, 70, 70, 51, 48, 70, 70, 57, 69, 48, 70, 70, 57, 70, 52, 48, 70, 70, 70, 48, 48, 70, 70, 70, 66, 51, 49, 48, 49, 70, 68, 49, 48, 49, 70, 68, 52, 49, 49, 48, 66, 68, 49, 49, 48, 66, 68, 55, 49, 49, 48, 67, 68, 49, 49, 48, 67, 68, 55, 49, 49, 49, 67, 50, 49, 49, 49, 67, 51, 55, 49, 51, 52, 51, 48, 49, 51, 52, 51, 70, 51, 49, 66, 67, 65, 48, 49, 66, 67, 65, 51, 51, 49, 68, 49, 54, 53, 49, 68, 49, 54, 53, 52, 49, 68, 49, 54, 55, 49, 68, 49, 54, 57, 52, 49, 68, 49, 54, 69, 49, 68, 49, 55, 50, 52, 49, 68, 49, 55, 51, 49, 68, 49, 55, 65, 51, 49, 68, 49, 55, 66, 49, 68, 49, 56, 50, 52, 49, 68, 49, 56, 53, 49, 68, 49, 56, 66, 52, 49, 68, 49, 65, 65, 49, 68, 49, 65, 68, 52, 49, 70, 48, 48, 48, 49, 70, 48, 70, 70, 69, 49, 70, 49, 48, 68, 49, 70, 49, 48, 70, 69, 49, 70, 49, 50, 70, 49, 70, 49, 50, 70, 69, 49, 70, 49, 54, 67, 49, 70, 49, 55, 49, 69, 49, 70, 49, 55, 69, 49, 70, 49, 55, 70, 69, 49, 70, 49, 56, 69, 49, 70, 49, 56, 69, 69, 49, 70, 49, 57, 49, 49, 70, 49, 57, 65, 69, 49, 70, 49, 65, 68, 49, 70, 49, 69, 53, 69, 49, 70, 49, 69, 54, 49, 70, 49, 70, 70, 54, 49, 70, 50, 48, 49, 49, 70, 50, 48, 70, 69, 49, 70, 50, 49, 65, 49, 70, 50, 49, 65, 69, 49, 70, 50, 50, 70, 49, 70, 50, 50, 70, 69, 49, 70, 50, 51, 50, 49, 70, 50, 51, 65, 69, 49, 70, 50, 51, 67, 49, 70, 50, 51, 70, 69, 49, 70, 50, 52, 57, 49, 70, 51, 70, 65, 69, 49, 70, 51, 70, 66, 49, 70, 51, 70, 70, 52, 49, 70, 52, 48, 48, 49, 70, 53, 51, 68, 69, 49, 70, 53, 52, 54, 49, 70, 54, 52, 70, 69, 49, 70, 54, 56, 48, 49, 70, 54, 70, 70, 69, 49, 70, 55, 55, 52, 49, 70, 55, 55, 70, 69, 49, 70, 55, 68, 53, 49, 70, 55, 70, 70, 69, 49, 70, 56, 48, 67, 49, 70, 56, 48, 70, 69, 49, 70, 56, 52, 56, 49, 70, 56, 52, 70, 69, 49, 70, 56, 53, 65, 49, 70, 56, 53, 70, 69, 49, 70, 56, 56, 56, 49, 70, 56, 56, 70, 69, 49, 70, 56, 65, 69, 49, 70, 56, 70, 70, 69, 49, 70, 57, 48, 67, 49, 70, 57, 51, 65, 69, 49, 70, 57, 51, 67, 49, 70, 57, 52, 53, 69, 49, 70, 57, 52, 55, 49, 70, 65, 70, 70, 69, 49, 70, 67, 48, 48, 49, 70, 70, 70, 68, 69, 69, 48, 48, 48, 48, 69, 48, 48, 49, 70, 51, 69, 48, 48, 50, 48, 69, 48, 48, 55, 70, 52, 69, 48, 48, 56, 48, 69, 48, 48, 70, 70, 51, 69, 48, 49, 48, 48, 69, 48, 49, 69, 70, 52, 69, 48, 49, 70, 48, 69, 48, 70, 70, 70, 51] }
def bs_94cae01e : ByteArray := { data := #[48, 48, 48, 48, 57, 48, 48, 48, 48, 68, 49, 48, 48, 48, 50, 48, 48, 48, 48, 50, 48, 49, 48, 48, 48, 51, 48, 48, 48, 48, 51, 57, 50, 48, 48, 48, 52, 49, 48, 48, 48, 53, 65, 50, 48, 48, 48, 53, 70, 48, 48, 48, 53, 70, 50, 48, 48, 48, 54, 49, 48, 48, 48, 55, 65, 50, 48, 48, 48, 56, 53, 48, 48, 48, 56, 53, 49, 48, 48, 48, 65, 48, 48, 48, 48, 65, 48, 49, 48, 48, 48, 65, 65, 48, 48, 48, 65, 65, 50, 48, 48, 48, 66, 53, 48, 48, 48, 66, 53, 50, 48, 48, 48, 66, 65, 48, 48, 48, 66, 65, 50, 48, 48, 48, 67, 48, 48, 48, 48, 68, 54, 50, 48, 48, 48, 68, 56, 48, 48, 48, 70, 54, 50, 48, 48, 48, 70, 56, 48, 48, 50, 67, 49, 50, 48, 48, 51, 48, 48, 48, 48, 51, 55, 52, 50, 48, 48, 51, 55, 54, 48, 48, 51, 55, 68, 50, 48, 48, 51, 55, 70, 48, 48, 51, 55, 70, 50, 48, 48, 51, 56, 54, 48, 48, 51, 56, 54, 50, 48, 48, 51, 56, 56, 48, 48, 51, 70, 53, 50, 48, 48, 51, 70, 55, 48, 48, 52, 56, 49, 50, 48, 48, 52, 56, 51, 48, 48, 53, 50, 70, 50, 48, 48, 53, 51, 49, 48, 48, 53, 53, 54, 50, 48, 48, 53, 54, 48, 48, 48, 53, 56, 56, 50, 48, 48, 53, 57, 49, 48, 48, 53, 66, 68, 50, 48, 48, 53, 68, 48, 48, 48, 53, 69, 65, 50, 48, 48, 54, 49, 48, 48, 48, 54, 49, 65, 50, 48, 48, 54, 50, 48, 48, 48, 54, 54, 57, 50, 48, 48, 54, 54, 69, 48, 48, 54, 68, 51, 50, 48, 48, 54, 68, 53, 48, 48, 54, 68, 67, 50, 48, 48, 54, 68, 70, 48, 48, 54, 69, 56, 50, 48, 48, 54, 69, 65, 48, 48, 54, 70, 67, 50, 48, 48, 55, 49, 48, 48, 48, 55, 52, 65, 50, 48, 48, 57, 48, 48, 48, 48, 57, 54, 51, 50, 48, 48, 57, 54, 54, 48, 48, 57, 54, 70, 50, 48, 48, 57, 55, 49, 48, 48, 68, 70, 51, 50, 48, 48, 69, 48, 49, 48, 48, 69, 51, 65, 50, 48, 48, 69, 52, 48, 48, 48, 69, 52, 69, 50, 48, 48, 69, 53, 48, 48, 48, 69, 53, 57, 50, 48, 48, 69, 56, 49, 48, 48, 69, 68, 70, 50, 48, 48, 70, 49, 56, 48, 48, 70, 51, 57, 50, 48, 48, 70, 52, 48, 48, 48, 70, 56, 52, 50, 48, 48, 70, 57, 48, 48, 48, 70, 66, 67, 50, 48, 49, 48, 48, 48, 48, 49, 48, 52, 57, 50, 48, 49, 48, 53, 48, 48, 49, 48, 57, 68, 50, 48, 49, 48, 65, 48, 48, 49, 48, 70, 65, 50, 48, 49, 48, 70, 67, 48, 49, 49, 70, 70, 50, 48, 49, 50, 48, 48, 48, 49, 51, 53, 70, 50, 48, 49, 54, 56, 48, 48, 49, 54, 56, 48, 49, 48, 49, 55, 56, 48, 48, 49, 55, 68, 51, 50, 48, 49, 69, 48, 48, 48, 49, 70, 70, 67, 50, 48, 50, 48, 48, 48, 48, 50, 48, 48, 65, 49, 48, 50, 48, 50, 56, 48, 50, 48, 50, 57, 49, 48, 50, 48, 50, 70, 48, 50, 48, 50, 70, 49, 48, 50, 48, 53, 70, 48, 50, 48, 53, 70, 49, 48, 50, 49, 50, 54, 48, 50, 49, 50, 54, 50, 48, 50, 49, 50, 65, 48, 50, 49, 50, 66, 50, 48, 50, 49, 54, 48, 48, 50, 49, 56, 56, 50, 48, 51, 48, 48, 48, 48, 51, 48, 48, 48, 49, 48, 51, 48, 48, 53, 48, 51, 48, 48, 55, 50, 48, 51, 48, 50, 49, 48, 51, 48, 50, 70, 50, 48, 51, 48, 52, 49, 48, 51, 48, 57, 54, 50, 48, 51, 48, 57, 57, 48, 51, 48, 57, 65, 50, 48, 51, 48, 57, 68, 48, 51, 48, 57, 70, 50, 48, 51, 48, 65, 49, 48, 51, 48, 70, 65, 50, 48, 51, 48, 70, 67, 48, 51, 48, 70, 70, 50, 48, 51, 49, 48, 53, 48, 51, 49, 50, 70, 50, 48, 51, 49, 51, 49, 48, 51, 49, 56, 69, 50, 48, 51, 52, 48, 48, 48, 52, 68, 66, 70, 50, 48, 52, 69, 48, 48, 48, 57, 70, 70, 70, 50, 48, 65, 57, 54, 48, 48, 65, 57, 55, 67, 50, 48, 65, 67, 48, 48, 48, 68, 55, 65, 51, 50, 48, 68, 55, 66, 48, 48, 68, 55, 70, 66, 50, 48, 70, 57, 48, 48, 48, 70, 65, 70, 70, 50, 48, 70, 66, 49, 68, 48, 70, 66, 52, 70, 50, 48, 70, 70, 49, 48, 48, 70, 70, 49, 57, 50, 48, 70, 70, 50, 49, 48, 70, 70, 51, 65, 50, 48, 70, 70, 52, 49, 48, 70, 70, 53, 65, 50, 48, 70, 70, 54, 54, 48, 70, 70, 68, 67, 50, 49, 48, 52, 48, 48, 49, 48, 52, 52, 70, 50, 50, 48, 48, 48, 48, 50, 70, 65, 49, 70, 50, 51, 48, 48, 48, 48, 51, 50, 51, 65, 70, 50] }
abbrev c26 : List Cell := [.int .i64, .sl, .sl, .sl]
abbrev c31 : List Cell := [.int .i64, .int .i64, .int .i64]
abbrev c33 : List Cell := [.int .i64, .int .i64, .int .i64, .int .i64, .int .i64, .int .i64, .bool]
abbrev c36 : List Cell := [.int .i64, .int .i64, .int .i64, .int .i64]
abbrev c43 : List Cell := [.int .i64, .int .i64, .int .i64]
abbrev c62 : List Cell := [.int .i64, .int .i64, .int .i64]
abbrev c72 : List Cell := [.int .i64, .int .i64, .int .i64, .int .i64, .int .i64, .sl, .sl]
abbrev c84 : List Cell := [.ptr]
abbrev c86 : List Cell := [.int .i64, .int .i64, .ptr, .sl]
abbrev c91 : List Cell := [.int .i64, .int .i64, .int .i64, .bool, .bool]
abbrev c93 : List Cell := [.sl, .int .i64, .int .i64, .int .i64, .int .i64, .bool, .bool]
abbrev c103 : List Cell := [.int .i64, .int .i64, .sl]
abbrev c108 : List Cell := [.int .i64, .int .i64, .int .i64, .int .i64]
abbrev c114 : List Cell := [.ptr, .int .i64, .int .i64, .int .i64, .bool, .int .i64, .int .i64, .bool, .bool, .int .i64, .int .i64, .int .i64, .int .i64, .int .i64, .sl, .sl]
abbrev c139 : List Cell := [.ptr, .ptr, .sl, .int .i64, .int .i64, .int .i64, .int .i64, .bool, .bool, .int .i64, .int .i64, .int .i64, .int .i64, .int .i64, .bool, .bool]
abbrev c146 : List Cell := []
abbrev c148 : List Cell := [.int .i64]
abbrev c149 : List Cell := []
abbrev c153 : List Cell := [.ptr, .int .i64, .int .i64, .int .i64, .int .i64, .int .i64, .sl, .sl, .int .i64, .int .i64, .bool]
abbrev c187 : List Cell := [.int .u8, .int .u8, .int .u8, .int .u8, .int .u8]
abbrev c190 : List Cell := [.int .u8, .int .u8]
noncomputable def i0 : Inf := ⟨Tryz.t0.desc, Tryz.t0.size, Tryz.t0.bytes, Tryz.t0.zero, (.one .any), (.tup [])⟩
theorem i0_ok : InfOk Tryz.prog 0 i0 := ⟨by kernel_rfl, by kernel_rfl, by kernel_rfl⟩
noncomputable def i3 : Inf := ⟨Tryz.t3.desc, Tryz.t3.size, Tryz.t3.bytes, Tryz.t3.zero, (.one (.int .i64)), (.one (.one (.int .i64)))⟩
theorem i3_ok : InfOk Tryz.prog 3 i3 := ⟨by kernel_rfl, by kernel_rfl, by kernel_rfl⟩
noncomputable def i4 : Inf := ⟨Tryz.t4.desc, Tryz.t4.size, Tryz.t4.bytes, Tryz.t4.zero, (.one .bool), (.one (.one .bool))⟩
theorem i4_ok : InfOk Tryz.prog 4 i4 := ⟨by kernel_rfl, by kernel_rfl, by kernel_rfl⟩
noncomputable def i5 : Inf := ⟨Tryz.t5.desc, Tryz.t5.size, Tryz.t5.bytes, Tryz.t5.zero, (.one (.int .u8)), (.one (.one (.int .u8)))⟩
theorem i5_ok : InfOk Tryz.prog 5 i5 := ⟨by kernel_rfl, by kernel_rfl, by kernel_rfl⟩
noncomputable def i9 : Inf := ⟨Tryz.t9.desc, Tryz.t9.size, Tryz.t9.bytes, Tryz.t9.zero, (.one .str), (.one (.one .str))⟩
theorem i9_ok : InfOk Tryz.prog 9 i9 := ⟨by kernel_rfl, by kernel_rfl, by kernel_rfl⟩
noncomputable def i21 : Inf := ⟨Tryz.t21.desc, Tryz.t21.size, Tryz.t21.bytes, Tryz.t21.zero, (.one (.int .i32)), (.one (.one (.int .i32)))⟩
theorem i21_ok : InfOk Tryz.prog 21 i21 := ⟨by kernel_rfl, by kernel_rfl, by kernel_rfl⟩
noncomputable def i22 : Inf := ⟨Tryz.t22.desc, Tryz.t22.size, Tryz.t22.bytes, Tryz.t22.zero, (.one .sl), (.one (.one .sl))⟩
theorem i22_ok : InfOk Tryz.prog 22 i22 := ⟨by kernel_rfl, by kernel_rfl, by kernel_rfl⟩
noncomputable def i23 : Inf := ⟨Tryz.t23.desc, Tryz.t23.size, Tryz.t23.bytes, Tryz.t23.zero, (.one .sl), (.one (.one .sl))⟩
theorem i23_ok : InfOk Tryz.prog 23 i23 := ⟨by kernel_rfl, by kernel_rfl, by kernel_rfl⟩
noncomputable def i24 : Inf := ⟨Tryz.t24.desc, Tryz.t24.size, Tryz.t24.bytes, Tryz.t24.zero, (.one .sl), (.one (.one .sl))⟩
theorem i24_ok : InfOk Tryz.prog 24 i24 := ⟨by kernel_rfl, by kernel_rfl, by kernel_rfl⟩
noncomputable def i26 : Inf := ⟨Tryz.t25.desc, Tryz.t26.size, Tryz.t26.bytes, Tryz.t26.zero, (.agg c26), (.one (.agg c26))⟩
theorem i26_ok : InfOk Tryz.prog 26 i26 := ⟨by kernel_rfl, by kernel_rfl, by kernel_rfl⟩
noncomputable def i27 : Inf := ⟨Tryz.t27.desc, Tryz.t27.size, Tryz.t27.bytes, Tryz.t27.zero, (.one .ptr), (.one (.one .ptr))⟩
theorem i27_ok : InfOk Tryz.prog 27 i27 := ⟨by kernel_rfl, by kernel_rfl, by kernel_rfl⟩
noncomputable def i28 : Inf := ⟨Tryz.t28.desc, Tryz.t28.size, Tryz.t28.bytes, Tryz.t28.zero, (.one .any), (.tup [(.one .ptr), (.one .bool)])⟩
theorem i28_ok : InfOk Tryz.prog 28 i28 := ⟨by kernel_rfl, by kernel_rfl, by kernel_rfl⟩
noncomputable def i31 : Inf := ⟨Tryz.t30.desc, Tryz.t31.size, Tryz.t31.bytes, Tryz.t31.zero, (.agg c31), (.one (.agg c31))⟩
theorem i31_ok : InfOk Tryz.prog 31 i31 := ⟨by kernel_rfl, by kernel_rfl, by kernel_rfl⟩
noncomputable def i33 : Inf := ⟨Tryz.t32.desc, Tryz.t33.size, Tryz.t33.bytes, Tryz.t33.zero, (.agg c33), (.one (.agg c33))⟩
theorem i33_ok : InfOk Tryz.prog 33 i33 := ⟨by kernel_rfl, by kernel_rfl, by kernel_rfl⟩
noncomputable def i36 : Inf := ⟨Tryz.t35.desc, Tryz.t36.size, Tryz.t36.bytes, Tryz.t36.zero, (.agg c36), (.one (.agg c36))⟩
theorem i36_ok : InfOk Tryz.prog 36 i36 := ⟨by kernel_rfl, by kernel_rfl, by kernel_rfl⟩
noncomputable def i37 : Inf := ⟨Tryz.t37.desc, Tryz.t37.size, Tryz.t37.bytes, Tryz.t37.zero, (.one .sl), (.one (.one .sl))⟩
theorem i37_ok : InfOk Tryz.prog 37 i37 := ⟨by kernel_rfl, by kernel_rfl, by kernel_rfl⟩
noncomputable def i38 : Inf := ⟨Tryz.t38.desc, Tryz.t38.size, Tryz.t38.bytes, Tryz.t38.zero, (.one .any), (.tup [(.agg c36), (.one .sl), (.one .bool)])⟩
theorem i38_ok : InfOk Tryz.prog 38 i38 := ⟨by kernel_rfl, by kernel_rfl, by kernel_rfl⟩
noncomputable def i43 : Inf := ⟨Tryz.t42.desc, Tryz.t43.size, Tryz.t43.bytes, Tryz.t43.zero, (.agg c43), (.one (.agg c43))⟩
theorem i43_ok : InfOk Tryz.prog 43 i43 := ⟨by kernel_rfl, by kernel_rfl, by kernel_rfl⟩
noncomputable def i44 : Inf := ⟨Tryz.t3.desc, Tryz.t44.size, Tryz.t44.bytes, Tryz.t44.zero, (.one (.int .i64)), (.one (.one (.int .i64)))⟩
theorem i44_ok : InfOk Tryz.prog 44 i44 := ⟨by kernel_rfl, by kernel_rfl, by kernel_rfl⟩
noncomputable def i45 : Inf := ⟨Tryz.t45.desc, Tryz.t45.size, Tryz.t45.bytes, Tryz.t45.zero, (.one .any), (.tup [(.agg c43), (.one (.int .i64))])⟩
theorem i45_ok : InfOk Tryz.prog 45 i45 := ⟨by kernel_rfl, by kernel_rfl, by kernel_rfl⟩
noncomputable def i53 : Inf := ⟨Tryz.t53.desc, Tryz.t53.size, Tryz.t53.bytes, Tryz.t53.zero, (.one .any), (.tup [(.one .ptr), (.one (.int .i64))])⟩
theorem i53_ok : InfOk Tryz.prog 53 i53 := ⟨by kernel_rfl, by kernel_rfl, by kernel_rfl⟩
noncomputable def i62 : Inf := ⟨Tryz.t61.desc, Tryz.t62.size, Tryz.t62.bytes, Tryz.t62.zero, (.agg c62), (.one (.agg c62))⟩
theorem i62_ok : InfOk Tryz.prog 62 i62 := ⟨by kernel_rfl, by kernel_rfl, by kernel_rfl⟩
noncomputable def i63 : Inf := ⟨Tryz.t63.desc, Tryz.t63.size, Tryz.t63.bytes, Tryz.t63.zero, (.one .any), (.tup [(.agg c62), (.one (.int .i64))])⟩
theorem i63_ok : InfOk Tryz.prog 63 i63 := ⟨by kernel_rfl, by kernel_rfl, by kernel_rfl⟩
noncomputable def i69 : Inf := ⟨Tryz.t69.desc, Tryz.t69.size, Tryz.t69.bytes, Tryz.t69.zero, (.one .sl), (.one (.one .sl))⟩
theorem i69_ok : InfOk Tryz.prog 69 i69 := ⟨by kernel_rfl, by kernel_rfl, by kernel_rfl⟩
noncomputable def i72 : Inf := ⟨Tryz.t71.desc, Tryz.t72.size, Tryz.t72.bytes, Tryz.t72.zero, (.agg c72), (.one (.agg c72))⟩
theorem i72_ok : InfOk Tryz.prog 72 i72 := ⟨by kernel_rfl, by kernel_rfl, by kernel_rfl⟩
noncomputable def i76 : Inf := ⟨Tryz.t76.desc, Tryz.t76.size, Tryz.t76.bytes, Tryz.t76.zero, (.one .any), (.tup [(.agg c36), (.one (.int .i64))])⟩
theorem i76_ok : InfOk Tryz.prog 76 i76 := ⟨by kernel_rfl, by kernel_rfl, by kernel_rfl⟩
noncomputable def i82 : Inf := ⟨Tryz.t82.desc, Tryz.t82.size, Tryz.t82.bytes, Tryz.t82.zero, (.one .ptr), (.one (.one .ptr))⟩
theorem i82_ok : InfOk Tryz.prog 82 i82 := ⟨by kernel_rfl, by kernel_rfl, by kernel_rfl⟩
noncomputable def i84 : Inf := ⟨Tryz.t83.desc, Tryz.t84.size, Tryz.t84.bytes, Tryz.t84.zero, (.agg c84), (.one (.agg c84))⟩
theorem i84_ok : InfOk Tryz.prog 84 i84 := ⟨by kernel_rfl, by kernel_rfl, by kernel_rfl⟩
noncomputable def i86 : Inf := ⟨Tryz.t85.desc, Tryz.t86.size, Tryz.t86.bytes, Tryz.t86.zero, (.agg c86), (.one (.agg c86))⟩
theorem i86_ok : InfOk Tryz.prog 86 i86 := ⟨by kernel_rfl, by kernel_rfl, by kernel_rfl⟩
noncomputable def i87 : Inf := ⟨Tryz.t87.desc, Tryz.t87.size, Tryz.t87.bytes, Tryz.t87.zero, (.one .sl), (.one (.one .sl))⟩
theorem i87_ok : InfOk Tryz.prog 87 i87 := ⟨by kernel_rfl, by kernel_rfl, by kernel_rfl⟩
noncomputable def i88 : Inf := ⟨Tryz.t88.desc, Tryz.t88.size, Tryz.t88.bytes, Tryz.t88.zero, (.one .any), (.tup [(.one (.int .i64)), (.one (.int .i64))])⟩
theorem i88_ok : InfOk Tryz.prog 88 i88 := ⟨by kernel_rfl, by kernel_rfl, by kernel_rfl⟩
noncomputable def i91 : Inf := ⟨Tryz.t90.desc, Tryz.t91.size, Tryz.t91.bytes, Tryz.t91.zero, (.agg c91), (.one (.agg c91))⟩
theorem i91_ok : InfOk Tryz.prog 91 i91 := ⟨by kernel_rfl, by kernel_rfl, by kernel_rfl⟩
noncomputable def i93 : Inf := ⟨Tryz.t92.desc, Tryz.t93.size, Tryz.t93.bytes, Tryz.t93.zero, (.agg c93), (.one (.agg c93))⟩
theorem i93_ok : InfOk Tryz.prog 93 i93 := ⟨by kernel_rfl, by kernel_rfl, by kernel_rfl⟩
noncomputable def i97 : Inf := ⟨Tryz.t97.desc, Tryz.t97.size, Tryz.t97.bytes, Tryz.t97.zero, (.one .any), (.one (.one .any))⟩
theorem i97_ok : InfOk Tryz.prog 97 i97 := ⟨by kernel_rfl, by kernel_rfl, by kernel_rfl⟩
noncomputable def i100 : Inf := ⟨Tryz.t100.desc, Tryz.t100.size, Tryz.t100.bytes, Tryz.t100.zero, (.one .any), (.tup [(.one (.int .i64)), (.one .bool)])⟩
theorem i100_ok : InfOk Tryz.prog 100 i100 := ⟨by kernel_rfl, by kernel_rfl, by kernel_rfl⟩
noncomputable def i103 : Inf := ⟨Tryz.t102.desc, Tryz.t103.size, Tryz.t103.bytes, Tryz.t103.zero, (.agg c103), (.one (.agg c103))⟩
theorem i103_ok : InfOk Tryz.prog 103 i103 := ⟨by kernel_rfl, by kernel_rfl, by kernel_rfl⟩
noncomputable def i108 : Inf := ⟨Tryz.t107.desc, Tryz.t108.size, Tryz.t108.bytes, Tryz.t108.zero, (.agg c108), (.one (.agg c108))⟩
theorem i108_ok : InfOk Tryz.prog 108 i108 := ⟨by kernel_rfl, by kernel_rfl, by kernel_rfl⟩
noncomputable def i111 : Inf := ⟨Tryz.t110.desc, Tryz.t111.size, Tryz.t111.bytes, Tryz.t111.zero, (.one .any), (.one (.one .any))⟩
theorem i111_ok : InfOk Tryz.prog 111 i111 := ⟨by kernel_rfl, by kernel_rfl, by kernel_rfl⟩
noncomputable def i114 : Inf := ⟨Tryz.t113.desc, Tryz.t114.size, Tryz.t114.bytes, Tryz.t114.zero, (.agg c114), (.one (.agg c114))⟩
theorem i114_ok : InfOk Tryz.prog 114 i114 := ⟨by kernel_rfl, by kernel_rfl, by kernel_rfl⟩
noncomputable def i118 : Inf := ⟨Tryz.t117.desc, Tryz.t118.size, Tryz.t118.bytes, Tryz.t118.zero, (.one .any), (.one (.one .any))⟩
theorem i118_ok : InfOk Tryz.prog 118 i118 := ⟨by kernel_rfl, by kernel_rfl, by kernel_rfl⟩
noncomputable def i126 : Inf := ⟨Tryz.t125.desc, Tryz.t126.size, Tryz.t126.bytes, Tryz.t126.zero, (.one .any), (.one (.one .any))⟩
theorem i126_ok : InfOk Tryz.prog 126 i126 := ⟨by kernel_rfl, by kernel_rfl, by kernel_rfl⟩
noncomputable def i128 : Inf := ⟨Tryz.t128.desc, Tryz.t128.size, Tryz.t128.bytes, Tryz.t128.zero, (.one .ptr), (.one (.one .ptr))⟩
theorem i128_ok : InfOk Tryz.prog 128 i128 := ⟨by kernel_rfl, by kernel_rfl, by kernel_rfl⟩
noncomputable def i131 : Inf := ⟨Tryz.t131.desc, Tryz.t131.size, Tryz.t131.bytes, Tryz.t131.zero, (.one .any), (.tup [(.agg c93), (.one .bool)])⟩
theorem i131_ok : InfOk Tryz.prog 131 i131 := ⟨by kernel_rfl, by kernel_rfl, by kernel_rfl⟩
noncomputable def i133 : Inf := ⟨Tryz.t133.desc, Tryz.t133.size, Tryz.t133.bytes, Tryz.t133.zero, (.one .any), (.tup [(.agg c93), (.agg c93)])⟩
theorem i133_ok : InfOk Tryz.prog 133 i133 := ⟨by kernel_rfl, by kernel_rfl, by kernel_rfl⟩
noncomputable def i136 : Inf := ⟨Tryz.t136.desc, Tryz.t136.size, Tryz.t136.bytes, Tryz.t136.zero, (.one .any), (.tup [(.agg c84), (.one (.int .i64))])⟩
theorem i136_ok : InfOk Tryz.prog 136 i136 := ⟨by kernel_rfl, by kernel_rfl, by kernel_rfl⟩
noncomputable def i139 : Inf := ⟨Tryz.t138.desc, Tryz.t139.size, Tryz.t139.bytes, Tryz.t139.zero, (.agg c139), (.one (.agg c139))⟩
theorem i139_ok : InfOk Tryz.prog 139 i139 := ⟨by kernel_rfl, by kernel_rfl, by kernel_rfl⟩
noncomputable def i146 : Inf := ⟨Tryz.t145.desc, Tryz.t146.size, Tryz.t146.bytes, Tryz.t146.zero, (.agg c146), (.one (.agg c146))⟩
theorem i146_ok : InfOk Tryz.prog 146 i146 := ⟨by kernel_rfl, by kernel_rfl, by kernel_rfl⟩
noncomputable def i148 : Inf := ⟨Tryz.t147.desc, Tryz.t148.size, Tryz.t148.bytes, Tryz.t148.zero, (.agg c148), (.one (.agg c148))⟩
theorem i148_ok : InfOk Tryz.prog 148 i148 := ⟨by kernel_rfl, by kernel_rfl, by kernel_rfl⟩
noncomputable def i149 : Inf := ⟨Tryz.t145.desc, Tryz.t149.size, Tryz.t149.bytes, Tryz.t149.zero, (.agg c149), (.one (.agg c149))⟩
theorem i149_ok : InfOk Tryz.prog 149 i149 := ⟨by kernel_rfl, by kernel_rfl, by kernel_rfl⟩
noncomputable def i153 : Inf := ⟨Tryz.t152.desc, Tryz.t153.size, Tryz.t153.bytes, Tryz.t153.zero, (.agg c153), (.one (.agg c153))⟩
theorem i153_ok : InfOk Tryz.prog 153 i153 := ⟨by kernel_rfl, by kernel_rfl, by kernel_rfl⟩
noncomputable def i154 : Inf := ⟨Tryz.t154.desc, Tryz.t154.size, Tryz.t154.bytes, Tryz.t154.zero, (.one .any), (.one (.one .any))⟩
theorem i154_ok : InfOk Tryz.prog 154 i154 := ⟨by kernel_rfl, by kernel_rfl, by kernel_rfl⟩
noncomputable def i155 : Inf := ⟨Tryz.t155.desc, Tryz.t155.size, Tryz.t155.bytes, Tryz.t155.zero, (.one .any), (.one (.one .any))⟩
theorem i155_ok : InfOk Tryz.prog 155 i155 := ⟨by kernel_rfl, by kernel_rfl, by kernel_rfl⟩
noncomputable def i157 : Inf := ⟨Tryz.t157.desc, Tryz.t157.size, Tryz.t157.bytes, Tryz.t157.zero, (.one .any), (.tup [(.one .sl), (.one (.int .i64)), (.one (.int .i64))])⟩
theorem i157_ok : InfOk Tryz.prog 157 i157 := ⟨by kernel_rfl, by kernel_rfl, by kernel_rfl⟩
noncomputable def i159 : Inf := ⟨Tryz.t159.desc, Tryz.t159.size, Tryz.t159.bytes, Tryz.t159.zero, (.one .any), (.tup [(.one .ptr), (.one .ptr)])⟩
theorem i159_ok : InfOk Tryz.prog 159 i159 := ⟨by kernel_rfl, by kernel_rfl, by kernel_rfl⟩
noncomputable def i166 : Inf := ⟨Tryz.t166.desc, Tryz.t166.size, Tryz.t166.bytes, Tryz.t166.zero, (.one .any), (.tup [(.agg c93), (.one .ptr)])⟩
theorem i166_ok : InfOk Tryz.prog 166 i166 := ⟨by kernel_rfl, by kernel_rfl, by kernel_rfl⟩
noncomputable def i187 : Inf := ⟨Tryz.t187.desc, Tryz.t187.size, Tryz.t187.bytes, Tryz.t187.zero, (.agg c187), (.one (.agg c187))⟩
theorem i187_ok : InfOk Tryz.prog 187 i187 := ⟨by kernel_rfl, by kernel_rfl, by kernel_rfl⟩
noncomputable def i188 : Inf := ⟨Tryz.t188.desc, Tryz.t188.size, Tryz.t188.bytes, Tryz.t188.zero, (.one .any), (.tup [(.one (.int .i64)), (.one (.int .u8)), (.one (.int .u8))])⟩
theorem i188_ok : InfOk Tryz.prog 188 i188 := ⟨by kernel_rfl, by kernel_rfl, by kernel_rfl⟩
noncomputable def i190 : Inf := ⟨Tryz.t190.desc, Tryz.t190.size, Tryz.t190.bytes, Tryz.t190.zero, (.agg c190), (.one (.agg c190))⟩
theorem i190_ok : InfOk Tryz.prog 190 i190 := ⟨by kernel_rfl, by kernel_rfl, by kernel_rfl⟩
noncomputable def tab : Tab := ⟨[(0, i0), (3, i3), (4, i4), (5, i5), (9, i9), (21, i21), (22, i22), (23, i23), (24, i24), (26, i26), (27, i27), (28, i28), (31, i31), (33, i33), (36, i36), (37, i37), (38, i38), (43, i43), (44, i44), (45, i45), (53, i53), (62, i62), (63, i63), (69, i69), (72, i72), (76, i76), (82, i82), (84, i84), (86, i86), (87, i87), (88, i88), (91, i91), (93, i93), (97, i97), (100, i100), (103, i103), (108, i108), (111, i111), (114, i114), (118, i118), (126, i126), (128, i128), (131, i131), (133, i133), (136, i136), (139, i139), (146, i146), (148, i148), (149, i149), (153, i153), (154, i154), (155, i155), (157, i157), (159, i159), (166, i166), (187, i187), (188, i188), (190, i190)], [11, 12, 13, 14, 15, 16, 17, 18, 19, 20, 21, 22, 23, 24, 25, 26, 27, 28, 29, 30, 31, 32, 33, 34, 35, 36, 37, 38, 39, 40, 41, 42, 45, 48, 49, 50, 51, 53, 54, 55, 57, 59, 60, 61, 62, 63, 64, 65, 66, 67, 68, 69, 80, 81, 83, 92, 93, 94, 95, 99, 100, 102, 103, 104, 105, 106, 107, 108, 109, 110, 111, 112, 113, 114, 115, 116, 117, 118, 119, 120, 121, 122, 123, 124, 126, 127, 128, 129, 130, 131, 132, 133, 134, 137, 143, 144, 146, 147, 148, 149, 150, 151, 152, 153, 154, 155, 156, 157, 158, 159, 160, 161, 162, 188, 189, 190, 196, 197, 198, 199]⟩
theorem fnsOk : FnsOk Tryz.prog [11, 12, 13, 14, 15, 16, 17, 18, 19, 20, 21, 22, 23, 24, 25, 26, 27, 28, 29, 30, 31, 32, 33, 34, 35, 36, 37, 38, 39, 40, 41, 42, 45, 48, 49, 50, 51, 53, 54, 55, 57, 59, 60, 61, 62, 63, 64, 65, 66, 67, 68, 69, 80, 81, 83, 92, 93, 94, 95, 99, 100, 102, 103, 104, 105, 106, 107, 108, 109, 110, 111, 112, 113, 114, 115, 116, 117, 118, 119, 120, 121, 122, 123, 124, 126, 127, 128, 129, 130, 131, 132, 133, 134, 137, 143, 144, 146, 147, 148, 149, 150, 151, 152, 153, 154, 155, 156, 157, 158, 159, 160, 161, 162, 188, 189, 190, 196, 197, 198, 199] := ⟨by kernel_rfl, by kernel_rfl, by kernel_rfl, by kernel_rfl, by kernel_rfl, by kernel_rfl, by kernel_rfl, by kernel_rfl, by kernel_rfl, by kernel_rfl, by kernel_rfl, by kernel_rfl, by kernel_rfl, by kernel_rfl, by kernel_rfl, by kernel_rfl, by kernel_rfl, by kernel_rfl, by kernel_rfl, by kernel_rfl, by kernel_rfl, by kernel_rfl, by kernel_rfl, by kernel_rfl, by kernel_rfl, by kernel_rfl, by kernel_rfl, by kernel_rfl, by kernel_rfl, by kernel_rfl, by kernel_rfl, by kernel_rfl, by kernel_rfl, by kernel_rfl, by kernel_rfl, by kernel_rfl, by kernel_rfl, by kernel_rfl, by kernel_rfl, by kernel_rfl, by kernel_rfl, by kernel_rfl, by kernel_rfl, by kernel_rfl, by kernel_rfl, by kernel_rfl, by kernel_rfl, by kernel_rfl, by kernel_rfl, by kernel_rfl, by kernel_rfl, by kernel_rfl, by kernel_rfl, by kernel_rfl, by kernel_rfl, by kernel_rfl, by kernel_rfl, by kernel_rfl, by kernel_rfl, by kernel_rfl, by kernel_rfl, by kernel_rfl, by kernel_rfl, by kernel_rfl, by kernel_rfl, by kernel_rfl, by kernel_rfl, by kernel_rfl, by kernel_rfl, by kernel_rfl, by kernel_rfl, by kernel_rfl, by kernel_rfl, by kernel_rfl, by kernel_rfl, by kernel_rfl, by kernel_rfl, by kernel_rfl, by kernel_rfl, by kernel_rfl, by kernel_rfl, by kernel_rfl, by kernel_rfl, by kernel_rfl, by kernel_rfl, by kernel_rfl, by kernel_rfl, by kernel_rfl, by kernel_rfl, by kernel_rfl, by kernel_rfl, by kernel_rfl, by kernel_rfl, by kernel_rfl, by kernel_rfl, by kernel_rfl, by kernel_rfl, by kernel_rfl, by kernel_rfl, by kernel_rfl, by kernel_rfl, by kernel_rfl, by kernel_rfl, by kernel_rfl, by kernel_rfl, by kernel_rfl, by kernel_rfl, by kernel_rfl, by kernel_rfl, by kernel_rfl, by kernel_rfl, by kernel_rfl, by kernel_rfl, by kernel_rfl, by kernel_rfl, by kernel_rfl, by kernel_rfl, by kernel_rfl, by kernel_rfl, by kernel_rfl, trivial⟩
theorem tabOk : tab.Ok Tryz.prog := ⟨⟨i0_ok, i3_ok, i4_ok, i5_ok, i9_ok, i21_ok, i22_ok, i23_ok, i24_ok, i26_ok, i27_ok, i28_ok, i31_ok, i33_ok, i36_ok, i37_ok, i38_ok, i43_ok, i44_ok, i45_ok, i53_ok, i62_ok, i63_ok, i69_ok, i72_ok, i76_ok, i82_ok, i84_ok, i86_ok, i87_ok, i88_ok, i91_ok, i93_ok, i97_ok, i100_ok, i103_ok, i108_ok, i111_ok, i114_ok, i118_ok, i126_ok, i128_ok, i131_ok, i133_ok, i136_ok, i139_ok, i146_ok, i148_ok, i149_ok, i153_ok, i154_ok, i155_ok, i157_ok, i159_ok, i166_ok, i187_ok, i188_ok, i190_ok, trivial⟩, fnsOk, by kernel_rfl⟩
end Go.Proofs.YtolhlldgnfbemaaGreat
namespace Go.Proofs.YtolhlldgnfbemaaGreat
open Cdc
namespace Gly
structure Row where
 lo : Nat
 hi : Nat
 v : Nat
def digit (c : UInt8) : Nat := if 57 < c.toNat then c.toNat - 55 else c.toNat - 48
def num (l : Bs) : Nat := l.foldl (fun n c => n * 16 + digit c) 0
def okC (c : UInt8) : Bool := (Nat.ble 48 c.toNat && Nat.ble c.toNat 57) || (Nat.ble 65 c.toNat && Nat.ble c.toNat 70)
def rowsN : Nat → Bs → List Row
 | 0, _ => []
 | n + 1, l => ⟨num (l.take 5), num ((l.drop 5).take 5), num ((l.drop 10).take 1)⟩ :: rowsN n (l.drop 11)
def lkup : List Row → Nat → Nat
 | [], _ => 0
 | r :: t, a => bif Nat.ble r.lo a && Nat.ble a r.hi then r.v else lkup t a
def srt : Nat → List Row → Bool
 | _, [] => true
 | m, r :: t => Nat.ble m r.lo && (Nat.ble r.lo r.hi && srt (r.hi + 1) t)
theorem okC_iff (c : UInt8) : okC c = true ↔ (48 ≤ c.toNat ∧ c.toNat ≤ 57) ∨ (65 ≤ c.toNat ∧ c.toNat ≤ 70) := by
 simp [okC, Nat.ble_eq]
theorem rowsN_len : ∀ (n : Nat) (l : Bs), (rowsN n l).length = n
 | 0, _ => rfl
 | n + 1, l => by rw [rowsN, List.length_cons, rowsN_len]
theorem rowsN_get : ∀ (n : Nat) (l : Bs) (m : Nat), m < n → (rowsN n l)[m]? = some ⟨num ((l.drop (11 * m)).take 5), num ((l.drop (11 * m + 5)).take 5), num ((l.drop (11 * m + 10)).take 1)⟩
 | n + 1, l, 0, _ => by simp [rowsN]
 | n + 1, l, m + 1, h => by
  rw [rowsN, List.getElem?_cons_succ, rowsN_get n _ m (by omega)]
  simp only [List.drop_drop]
  rw [show 11 + 11 * m = 11 * (m + 1) by omega, show 11 + (11 * m + 5) = 11 * (m + 1) + 5 by omega, show 11 + (11 * m + 10) = 11 * (m + 1) + 10 by omega]
theorem srt_get : ∀ {T : List Row} {m : Nat}, srt m T = true → ∀ {i : Nat} {r : Row}, T[i]? = some r → m ≤ r.lo ∧ r.lo ≤ r.hi
 | [], _, _, i, r, hr => by simp at hr
 | x :: t, m, h, 0, r, hr => by
  cases hr
  simp only [srt, Bool.and_eq_true, Nat.ble_eq] at h
  exact ⟨h.1, h.2.1⟩
 | x :: t, m, h, i + 1, r, hr => by
  simp only [srt, Bool.and_eq_true, Nat.ble_eq] at h
  have := srt_get h.2.2 (i := i) (by simpa using hr)
  exact ⟨by omega, this.2⟩
theorem srt_lt : ∀ {T : List Row} {m : Nat}, srt m T = true → ∀ {i j : Nat} {r s : Row}, i < j → T[i]? = some r → T[j]? = some s → r.hi < s.lo
 | [], _, _, i, j, r, s, _, hr, _ => by simp at hr
 | x :: t, m, h, 0, j + 1, r, s, _, hr, hs => by
  cases hr
  simp only [srt, Bool.and_eq_true, Nat.ble_eq] at h
  have := srt_get h.2.2 (i := j) (by simpa using hs)
  omega
 | x :: t, m, h, i + 1, j + 1, r, s, hij, hr, hs => by
  simp only [srt, Bool.and_eq_true, Nat.ble_eq] at h
  exact srt_lt h.2.2 (i := i) (j := j) (by omega) (by simpa using hr) (by simpa using hs)
theorem lkup_none : ∀ {T : List Row} {a : Nat}, (∀ (i : Nat) (r : Row), T[i]? = some r → a < r.lo ∨ r.hi < a) → lkup T a = 0
 | [], _, _ => rfl
 | x :: t, a, h => by
  have h0 := h 0 x rfl
  have : (Nat.ble x.lo a && Nat.ble a x.hi) = false := by
   rw [Bool.eq_false_iff]
   simp only [ne_eq, Bool.and_eq_true, Nat.ble_eq]
   omega
  rw [lkup, this]
  exact lkup_none fun i r hr => h (i + 1) r (by simpa using hr)
theorem lkup_at : ∀ {T : List Row} {m a : Nat}, srt m T = true → ∀ {i : Nat} {r : Row}, T[i]? = some r → r.lo ≤ a → a ≤ r.hi → lkup T a = r.v
 | [], _, _, _, i, r, hr, _, _ => by simp at hr
 | x :: t, m, a, h, 0, r, hr, h1, h2 => by
  cases hr
  have : (Nat.ble x.lo a && Nat.ble a x.hi) = true := by simp only [Bool.and_eq_true, Nat.ble_eq]; omega
  rw [lkup, this]; rfl
 | x :: t, m, a, h, i + 1, r, hr, h1, h2 => by
  have hlt := srt_lt h (i := 0) (j := i + 1) (by omega) rfl hr
  have : (Nat.ble x.lo a && Nat.ble a x.hi) = false := by
   rw [Bool.eq_false_iff]
   simp only [ne_eq, Bool.and_eq_true, Nat.ble_eq]
   omega
  rw [lkup, this]
  simp only [srt, Bool.and_eq_true, Nat.ble_eq] at h
  exact lkup_at h.2.2 (i := i) (by simpa using hr) h1 h2
theorem num_lt : ∀ (l : Bs), l.all okC = true → num l < 16 ^ l.length := by
 have key : ∀ (l : Bs) (n k : Nat), l.all okC = true → n < 16 ^ k → l.foldl (fun n c => n * 16 + digit c) n < 16 ^ (k + l.length) := by
  intro l
  induction l with
  | nil => intro n k _ h; simpa using h
  | cons c r ih =>
   intro n k h hn
   simp only [List.all_cons, Bool.and_eq_true] at h
   have hc := (okC_iff c).1 h.1
   have hd : digit c < 16 := by unfold digit; split <;> omega
   rw [List.foldl_cons, List.length_cons, show k + (r.length + 1) = (k + 1) + r.length by omega]
   refine ih _ _ h.2 ?_
   rw [Nat.pow_succ]; omega
 intro l h
 have := key l 0 0 h (by simp)
 simpa [num] using this
noncomputable def clsT : List Row := rowsN 324 bs_88441808.data.toList
noncomputable def cnjT : List Row := rowsN 26 bs_29aed6ba.data.toList
noncomputable def wrdT : List Row := rowsN 81 bs_94cae01e.data.toList
instance (a : Int) : Decidable (Scalar a) := by unfold Scalar; infer_instance
noncomputable def cls (a : Int) : Nat :=
 if Scalar a then (if 44032 ≤ a ∧ a < 55204 then (if (a.toNat - 44032) % 28 = 0 then 12 else 13) else lkup clsT a.toNat) else 3
noncomputable def cnj (a : Int) : Nat :=
 if a = 2381 ∨ a = 2509 ∨ a = 2765 ∨ a = 2893 ∨ a = 3149 ∨ a = 3405 then 3 else if a = 8204 then 0 else if cls a = 4 ∨ cls a = 5 then 2 else if cls a = 0 ∧ Scalar a then lkup cnjT a.toNat else 0
noncomputable def wrd (a : Int) : Nat :=
 if Scalar a then (if lkup wrdT a.toNat = 2 then 2 else if lkup wrdT a.toNat = 1 then 0 else 1) else 1
end Gly
end Go.Proofs.YtolhlldgnfbemaaGreat
namespace Go.Proofs.YtolhlldgnfbemaaGreat
open Gly
namespace Clu
structure Sc where
 last : Nat
 flags : Nat
 pict : Nat
 conj : Nat
def Sc.zero : Sc := ⟨0, 0, 0, 0⟩
def Sc.note (s : Sc) (c p : Nat) : Sc :=
 ⟨c, if c = 6 then s.flags + 1 else 0, if c = 14 then 1 else if s.pict = 1 ∧ c = 5 then 2 else if s.pict = 1 ∧ c = 4 then s.pict else 0,
  if p = 1 then 1 else if 0 < s.conj ∧ p = 3 then 2 else if 0 < s.conj ∧ p = 2 then s.conj else 0⟩
def apart (c : Nat) : Bool := decide (c = 1 ∨ c = 2 ∨ c = 3)
def hangul (l r : Nat) : Bool :=
 decide ((l = 9 ∧ (r = 9 ∨ r = 10 ∨ r = 12 ∨ r = 13)) ∨ ((l = 12 ∨ l = 10) ∧ (r = 10 ∨ r = 11)) ∨ ((l = 13 ∨ l = 11) ∧ r = 11))
def joins (s : Sc) (c p : Nat) : Bool :=
 if s.last = 1 ∧ c = 2 then true else if apart s.last = true ∨ apart c = true then false else if c = 4 ∨ c = 5 ∨ c = 8 ∨ s.last = 7 then true else if hangul s.last c then true
 else if p = 1 ∧ s.conj = 2 then true else if c = 14 then s.pict == 2 else if c = 6 then s.flags % 2 == 1 else false
noncomputable def stp (s : Sc) (a : Int) : Sc := if joins s (cls a) (cnj a) then s.note (cls a) (cnj a) else Sc.zero.note (cls a) (cnj a)
noncomputable def sc (l : List Int) : Sc := l.foldl stp Sc.zero
theorem stp_zero (a : Int) : stp Sc.zero a = Sc.zero.note (cls a) (cnj a) := by unfold stp; split <;> rfl
theorem stp_not {s : Sc} {a : Int} (h : joins s (cls a) (cnj a) = false) : stp s a = stp Sc.zero a := by rw [stp_zero]; unfold stp; rw [if_neg (by rw [h]; decide)]
theorem stp_joins {s : Sc} {a : Int} (h : joins s (cls a) (cnj a) = true) : stp s a = s.note (cls a) (cnj a) := by unfold stp; rw [if_pos h]
theorem sc_snoc (l : List Int) (a : Int) : sc (l ++ [a]) = stp (sc l) a := by simp [sc]
theorem flags_stp (s : Sc) (a : Int) : (stp s a).flags ≤ s.flags + 1 := by
 unfold stp
 split <;> (simp only [Sc.note, Sc.zero]; split <;> omega)
theorem flags_le (l : List Int) : (sc l).flags ≤ l.length := by
 have key : ∀ (l : List Int) (s : Sc), (l.foldl stp s).flags ≤ s.flags + l.length := by
  intro l
  induction l with
  | nil => intro s; simp
  | cons a r ih => intro s; have := ih (stp s a); have := flags_stp s a; simp only [List.foldl_cons, List.length_cons]; omega
 have := key l Sc.zero
 simpa [sc, Sc.zero] using this
theorem last_stp (s : Sc) (a : Int) : (stp s a).last = cls a := by unfold stp; split <;> rfl
noncomputable def bk (A : List Int) (k : Nat) : Bool := match A[k]? with
 | some a => k == 0 || !joins (sc (A.take k)) (cls a) (cnj a)
 | none => k == A.length
theorem bk_zero (A : List Int) : bk A 0 = true := by
 unfold bk
 cases A <;> simp
theorem bk_len (A : List Int) : bk A A.length = true := by
 unfold bk
 rw [List.getElem?_eq_none (Nat.le_refl _)]
 simp
theorem bk_at {A : List Int} {k : Nat} {a : Int} (h : A[k]? = some a) (h0 : 0 < k) : bk A k = !joins (sc (A.take k)) (cls a) (cnj a) := by
 unfold bk
 rw [h]
 have : (k == 0) = false := by rw [beq_eq_false_iff_ne]; omega
 simp [this]
theorem bk_le {A : List Int} {k : Nat} (h : bk A k = true) : k ≤ A.length := by
 unfold bk at h
 split at h
 ·rename_i a ha
  have := (List.getElem?_eq_some_iff.1 ha).1
  omega
 ·simp only [beq_iff_eq] at h; omega
theorem sc_bk {A : List Int} {i : Nat} {a : Int} (hb : bk A i = true) (ha : A[i]? = some a) : sc (A.take (i + 1)) = sc [a] := by
 rw [List.take_add_one, ha]
 show sc (A.take i ++ [a]) = _
 rw [sc_snoc]
 show _ = stp Sc.zero a
 cases i with
 | zero => rfl
 | succ i =>
  rw [bk_at ha (by omega)] at hb
  exact stp_not (by simpa using hb)
noncomputable def cutsTo (A : List Int) (k : Nat) : List Nat := (List.range (k + 1)).filter (bk A)
noncomputable def cuts (A : List Int) : List Nat := cutsTo A A.length
theorem cutsTo_zero (A : List Int) : cutsTo A 0 = [0] := by
 unfold cutsTo
 have : List.range (0 + 1) = [0] := rfl
 rw [this, List.filter_cons_of_pos (bk_zero A)]; rfl
theorem cutsTo_next {A : List Int} {i j : Nat} (hij : i < j) (hb : bk A j = true) (hn : ∀ k, i < k → k < j → bk A k = false) : cutsTo A j = cutsTo A i ++ [j] := by
 unfold cutsTo
 have key : ∀ d, i + d < j → (List.range (i + d + 1)).filter (bk A) = (List.range (i + 1)).filter (bk A) := by
  intro d
  induction d with
  | zero => intro _; rfl
  | succ d ih =>
   intro h
   rw [show i + (d + 1) + 1 = (i + d + 1) + 1 by omega, List.range_succ, List.filter_append, ih (by omega), List.filter_cons_of_neg (by rw [hn _ (by omega) (by omega)]; decide)]
   simp
 rw [List.range_succ, List.filter_append, List.filter_cons_of_pos hb]
 obtain ⟨d, rfl⟩ : ∃ d, j = i + d + 1 := ⟨j - i - 1, by omega⟩
 rw [key d (by omega)]; rfl
theorem mem_cuts {A : List Int} {k : Nat} : k ∈ cuts A ↔ bk A k = true := by
 unfold cuts cutsTo
 rw [List.mem_filter, List.mem_range]
 exact ⟨fun h => h.2, fun h => ⟨by have := bk_le h; omega, h⟩⟩
theorem cuts_lt {A : List Int} : (cuts A).Pairwise (· < ·) := (List.pairwise_lt_range).filter _
theorem cutsTo_len (A : List Int) (k : Nat) : (cutsTo A k).length ≤ k + 1 := by
 unfold cutsTo
 have := List.length_filter_le (bk A) (List.range (k + 1))
 rwa [List.length_range] at this
def parted (l r : Nat) : Bool := (apart l || apart r) && !(l == 1 && r == 2)
theorem bk_parted {A : List Int} {k : Nat} {a b : Int} (ha : A[k]? = some a) (hb : A[k + 1]? = some b) (h : parted (cls a) (cls b) = true) : bk A (k + 1) = true := by
 rw [bk_at hb (by omega)]
 have hl : (sc (A.take (k + 1))).last = cls a := by
  rw [List.take_add_one, ha]
  show (sc (_ ++ [_])).last = _
  rw [sc_snoc, last_stp]
 unfold parted at h
 simp only [Bool.and_eq_true, Bool.or_eq_true, Bool.not_eq_true', Bool.and_eq_false_iff, beq_eq_false_iff_ne] at h
 unfold joins
 rw [hl, if_neg (by omega), if_pos (by exact h.1)]
 rfl
end Clu
end Go.Proofs.YtolhlldgnfbemaaGreat
namespace Go.Proofs.YtolhlldgnfbemaaGreat
open Go Go.Vx
theorem tied {T : Tab} {P : Program} (ok : T.Ok P) {f : FuncId} {fn : Func} (hf : P.funcs[f]? = some fn) (h : Hint) (l : List Value) {t : RTy} {K : t.T → World → Prop} {w : World} {Q : World → Prop} (q : Q w) (e : vcgF T P fn h l t K = Q := by kernel_rfl) : callT P f l.toArray t K w := vcgF_sound ok hf h l t K w (by rw [e]; exact q)
noncomputable def F17 (a0 : Sl) (K : Sl → World → Prop) : World → Prop :=
 newO (.cells #[(.int .i64 (0 : Int))] 3) fun b1 =>
 newO (.cells #[(.slice none 0 0)] 37) fun b2 =>
 stC (at0 b2) (.slice (some (at0 b1)) 1 1) <|
 callT Tryz.prog 42 #[(.slice a0.a a0.len a0.cap), (.int .i64 (0 : Int)), (.func (Fn.func 47) #[] #[(.pointer (some (at0 b2)))])] (.tup []) fun (x3 : (Unit)) =>
 ld (.sl) (at0 b2) fun (x4 : Sl) =>
 K x4
def hR (n : Nat) : Hint := .region [] (.ops n .done)
def hO (n : Nat) : RS := .ops n .done
def hS (a b : Hint) : Hint := .seq none a b
def hC (a b : Hint) : Hint := .cond none a b
def hL : Hint := .leaf
def hJ (x : Nat × List (Nat × Ty)) (a b : Hint) : Hint := .seq (some x) a b
def tB : Ty := .one .bool
def tI : Ty := .one (.int .i64)
def tS : Ty := .one .sl
def tP : Ty := .one .ptr
noncomputable def h17 : Hint := (hS (hR 1) (hS (hR 3) (hS (hR 3) (hS (hR 2) hL))))
theorem F17_calls {a0 : Sl} {K : Sl → World → Prop} {w : World} (h : F17 a0 K w) : callT Tryz.prog 17 #[(.slice a0.a a0.len a0.cap)] (.one (.one .sl)) K w := tied tabOk Tryz.func17 h17 [(.slice a0.a a0.len a0.cap)] h
noncomputable def F42 (a0 : Sl) (a1 : Int) (a2 : Value) (K : Unit → World → Prop) : World → Prop :=
 sloop (S := Int × Unit) (fun (s1 : Int × Unit) again2 =>
 sif (decide (s1.1 < ((a0.len : Nat) : Int))) (
 ix a0.a a0.len s1.1 fun p3 =>
 ld (.int .i64) (p3.add (scaled (Int.toNat s1.1) 1)) fun (x4 : Int) =>
 callT Tryz.prog 68 #[(.int .i64 x4)] (.one (.agg c108)) fun (x5 : (Int × Int × Int × Int × Unit)) =>
 newO (.cells #[(.int .i64 (0 : Int)), (.int .i64 (0 : Int)), (.int .i64 (0 : Int)), (.int .i64 (0 : Int))] 108) fun b6 =>
 aggSt (at0 b6) (.agg (Cells.vals c108 x5).toArray) 4 <|
 join (S := Unit) (fun J7 =>
 sloop (S := Int × Unit) (fun (s9 : Int × Unit) again10 =>
 sif (decide (s9.1 < ((a0.len : Nat) : Int))) (
 ix a0.a a0.len s9.1 fun p11 =>
 ld (.int .i64) (p11.add (scaled (Int.toNat s9.1) 1)) fun (x12 : Int) =>
 callT Tryz.prog 69 #[(.pointer (some (at0 b6))), (.int .i64 x12)] (.one (.one .bool)) fun (x13 : Bool) =>
 sif x13 (
 again10 ((IntKind.wrap .i64 (s9.1 + (1 : Int))), ())) (
 callX Tryz.prog (do let d ← Deferred.ofValue a2 #[(.int .i64 s9.1)]; invoke d.target d.args : Sem Next) (.one (.one .bool)) fun (x14 : Bool) =>
 sif (!x14) (
 K ()) (
 again2 (s9.1, ())))) (
 J7 ())) ((IntKind.wrap .i64 (s1.1 + (1 : Int))), ())) fun (s8 : Unit) =>
 callX Tryz.prog (do let d ← Deferred.ofValue a2 #[(.int .i64 ((a0.len : Nat) : Int))]; invoke d.target d.args : Sem Next) (.one (.one .bool)) fun (x15 : Bool) =>
 K ()) (
 K ())) (a1, ())
noncomputable def h42 : Hint := (.scope (hS (hR 2) (hS hL (.block (.loop 2199023254976 [(6, tI)] (hS (hS (hR 4) (hC hL hL)) (.block (hS (hR 7) (hJ (137438429504, []) (hS (hR 3) (.block (.loop 137436856640 [(8, tI)] (hS (hS (hR 4) (hC hL hL)) (hS (.block (hS (hS (hR 5) (hC hL hL)) (hS (hS (hR 4) (hC hL hL)) (hS (hR 2) hL)))) (hR 3)))))) (hS (hR 4) hL))))))))))
theorem F42_calls {a0 : Sl} {a1 : Int} {a2 : Value} {K : Unit → World → Prop} {w : World} (h : F42 a0 a1 a2 K w) : callT Tryz.prog 42 #[(.slice a0.a a0.len a0.cap), (.int .i64 a1), a2] (.tup []) K w := tied tabOk Tryz.func42 h42 [(.slice a0.a a0.len a0.cap), (.int .i64 a1), a2] h
noncomputable def F47 (a0 : Int) (v0 : Addr) (K : Bool → World → Prop) : World → Prop :=
 ld (.sl) v0 fun (x1 : Sl) =>
 newO (.cells #[(.int .i64 a0)] 3) fun b2 =>
 rawT Tryz.prog (.one (.one .sl)) (Builtin.append_ #[37, 37] 37 #[(.slice x1.a x1.len x1.cap), (.slice (some (at0 b2)) 1 1)]) fun (x3 : Sl) =>
 stC v0 (.slice x3.a x3.len x3.cap) <|
 K true
noncomputable def h47 : Hint := (hS (hR 1) (hS (hR 5) (hS (hR 1) hL)))
theorem F47_calls {a0 : Int} {v0 : Addr} {K : Bool → World → Prop} {w : World} (h : F47 a0 v0 K w) : callT Tryz.prog 47 #[(.int .i64 a0), (.pointer (some v0))] (.one (.one .bool)) K w := tied tabOk Tryz.func47 h47 [(.int .i64 a0), (.pointer (some v0))] h
noncomputable def F60 (a0 : Sl) (a1 : Int) (K : Bool → World → Prop) : World → Prop :=
 sif (decide (a1 ≥ (0 : Int))) (
 sif (decide (a1 ≤ ((a0.len : Nat) : Int))) (
 callT Tryz.prog 80 #[(.slice a0.a a0.len a0.cap), (.int .i64 a1)] (.one (.one (.int .i64))) fun (x1 : Int) =>
 K (x1 == a1)) (
 K false)) (
 K false)
noncomputable def h60 : Hint := (hS (hR 1) (hS (.region [] (.ops 3 (.split 7 (.ops 6 (.split 13 (hO 7) (.skips 5 (hO 2)))) (.skips 4 (.ops 2 (.skips 5 (hO 2))))))) hL))
theorem F60_calls {a0 : Sl} {a1 : Int} {K : Bool → World → Prop} {w : World} (h : F60 a0 a1 K w) : callT Tryz.prog 60 #[(.slice a0.a a0.len a0.cap), (.int .i64 a1)] (.one (.one .bool)) K w := tied tabOk Tryz.func60 h60 [(.slice a0.a a0.len a0.cap), (.int .i64 a1)] h
noncomputable def F68 (a0 : Int) (K : (Int × Int × Int × Int × Unit) → World → Prop) : World → Prop :=
 newO (.cells #[(.int .i64 (0 : Int)), (.int .i64 (0 : Int)), (.int .i64 (0 : Int)), (.int .i64 (0 : Int))] 108) fun b1 =>
 newO (.cells #[(.int .i64 (0 : Int)), (.int .i64 (0 : Int)), (.int .i64 (0 : Int)), (.int .i64 (0 : Int))] 108) fun b2 =>
 callT Tryz.prog 116 #[(.int .i64 a0)] (.one (.one (.int .i64))) fun (x3 : Int) =>
 callT Tryz.prog 117 #[(.int .i64 a0)] (.one (.one (.int .i64))) fun (x4 : Int) =>
 callT Tryz.prog 115 #[(.pointer (some (at0 b2))), (.int .i64 x3), (.int .i64 x4)] (.tup []) fun (x5 : (Unit)) =>
 lds c108 (at0 b2) fun (x6 : (Int × Int × Int × Int × Unit)) =>
 aggSt (at0 b1) (.agg (Cells.vals c108 x6).toArray) 4 <|
 lds c108 (at0 b1) fun (x7 : (Int × Int × Int × Int × Unit)) =>
 K x7
noncomputable def h68 : Hint := (hS (hR 1) (hS (hR 1) (hS (hR 5) (hS (hR 2) hL))))
theorem F68_calls {a0 : Int} {K : (Int × Int × Int × Int × Unit) → World → Prop} {w : World} (h : F68 a0 K w) : callT Tryz.prog 68 #[(.int .i64 a0)] (.one (.agg c108)) K w := tied tabOk Tryz.func68 h68 [(.int .i64 a0)] h
noncomputable def F69 (a0 : Option Addr) (a1 : Int) (K : Bool → World → Prop) : World → Prop :=
 callT Tryz.prog 116 #[(.int .i64 a1)] (.one (.one (.int .i64))) fun (x1 : Int) =>
 callT Tryz.prog 117 #[(.int .i64 a1)] (.one (.one (.int .i64))) fun (x2 : Int) =>
 join (S := Bool × Unit) (fun J3 =>
 join (S := Bool × Unit) (fun J5 =>
 nn a0 fun p7 =>
 ld (.int .i64) p7 fun (x8 : Int) =>
 sif (x8 == (1 : Int)) (
 J5 ((x1 == (2 : Int)), ())) (
 J5 (false, ()))) fun (s6 : Bool × Unit) =>
 sif s6.1 (
 J3 (true, ())) (
 join (S := Bool × Unit) (fun J9 =>
 nn a0 fun p11 =>
 ld (.int .i64) p11 fun (x12 : Int) =>
 callT Tryz.prog 118 #[(.int .i64 x12)] (.one (.one .bool)) fun (x13 : Bool) =>
 sif x13 (
 J9 (x13, ())) (
 callT Tryz.prog 118 #[(.int .i64 x1)] (.one (.one .bool)) fun (x14 : Bool) =>
 J9 (x14, ()))) fun (s10 : Bool × Unit) =>
 sif s10.1 (
 J3 (false, ())) (
 join (S := Bool × Unit) (fun J15 =>
 sif (x1 == (4 : Int)) (
 J15 ((x1 == (4 : Int)), ())) (
 sif (x1 == (5 : Int)) (
 J15 ((x1 == (5 : Int)), ())) (
 sif (x1 == (8 : Int)) (
 J15 ((x1 == (8 : Int)), ())) (
 nn a0 fun p17 =>
 ld (.int .i64) p17 fun (x18 : Int) =>
 J15 ((x18 == (7 : Int)), ()))))) fun (s16 : Bool × Unit) =>
 sif s16.1 (
 J3 (true, ())) (
 nn a0 fun p19 =>
 ld (.int .i64) p19 fun (x20 : Int) =>
 callT Tryz.prog 119 #[(.int .i64 x20), (.int .i64 x1)] (.one (.one .bool)) fun (x21 : Bool) =>
 sif x21 (
 J3 (true, ())) (
 join (S := Bool × Unit) (fun J22 =>
 sif (x2 == (1 : Int)) (
 nn a0 fun p24 =>
 ld (.int .i64) (p24.add 3) fun (x25 : Int) =>
 J22 ((x25 == (2 : Int)), ())) (
 J22 (false, ()))) fun (s23 : Bool × Unit) =>
 sif s23.1 (
 J3 (true, ())) (
 sif (x1 == (14 : Int)) (
 nn a0 fun p26 =>
 ld (.int .i64) (p26.add 2) fun (x27 : Int) =>
 J3 ((x27 == (2 : Int)), ())) (
 sif (x1 == (6 : Int)) (
 nn a0 fun p28 =>
 ld (.int .i64) (p28.add 1) fun (x29 : Int) =>
 chk ((2 : Int) ≠ 0) <|
 J3 (((Int.tmod x29 (2 : Int)) == (1 : Int)), ())) (
 J3 (false, ()))))))))) fun (s4 : Bool × Unit) =>
 join (S := Unit) (fun J30 =>
 sif s4.1 (
 callT Tryz.prog 115 #[(.pointer a0), (.int .i64 x1), (.int .i64 x2)] (.tup []) fun (x32 : (Unit)) =>
 J30 ()) (
 J30 ())) fun (s31 : Unit) =>
 K s4.1
noncomputable def h69 : Hint := (hS (hR 1) (hS (hR 6) (hS (hR 1) (hJ (75557863725914323415168, [(7, tB)]) (.block (hJ (4190208, [(12, tB)]) (.region [] (.ops 6 (.split 18 (hO 4) (.skips 2 (hO 2))))) (hC (hR 1) (hJ (1069547520, [(22, tB)]) (hS (hR 6) (hC hL (hR 3))) (hC hL (hJ (4396972769280, [(30, tB)]) (hS (hR 3) (hC hL (hS (hR 3) (hC hL (hS (hR 3) (hC hL (hR 6))))))) (hC (hR 1) (hS (hR 7) (hC (hR 1) (hJ (575897802350002176, [(49, tB)]) (.region [] (.ops 3 (.split 52 (hO 7) (.skips 5 (hO 2))))) (hC (hR 1) (hS (hR 3) (hC (hR 6) (hS (hR 3) (hC (hR 7) hL))))))))))))))) (hJ (2342293775503344025993216, []) (hS (hR 1) (hC (hR 4) hL)) (hS (hR 2) hL))))))
theorem F69_calls {a0 : Option Addr} {a1 : Int} {K : Bool → World → Prop} {w : World} (h : F69 a0 a1 K w) : callT Tryz.prog 69 #[(.pointer a0), (.int .i64 a1)] (.one (.one .bool)) K w := tied tabOk Tryz.func69 h69 [(.pointer a0), (.int .i64 a1)] h
noncomputable def F80 (a0 : Sl) (a1 : Int) (K : Int → World → Prop) : World → Prop :=
 newO (.cells #[(.int .i64 a1)] 3) fun b1 =>
 join (S := Bool × Unit) (fun J2 =>
 ld (.int .i64) (at0 b1) fun (x4 : Int) =>
 sif (decide (x4 ≤ (0 : Int))) (
 J2 (true, ())) (
 ld (.int .i64) (at0 b1) fun (x5 : Int) =>
 J2 ((decide (x5 ≥ ((a0.len : Nat) : Int))), ()))) fun (s3 : Bool × Unit) =>
 sif s3.1 (
 ld (.int .i64) (at0 b1) fun (x6 : Int) =>
 K (if ((a0.len : Nat) : Int) < (if (0 : Int) > x6 then (0 : Int) else x6) then ((a0.len : Nat) : Int) else (if (0 : Int) > x6 then (0 : Int) else x6))) (
 ld (.int .i64) (at0 b1) fun (x7 : Int) =>
 callT Tryz.prog 81 #[(.slice a0.a a0.len a0.cap), (.int .i64 x7)] (.one (.one (.int .i64))) fun (x8 : Int) =>
 newO (.cells #[(.int .i64 (0 : Int))] 3) fun b9 =>
 stC (at0 b9) (.int .i64 x8) <|
 ld (.int .i64) (at0 b9) fun (x10 : Int) =>
 callT Tryz.prog 42 #[(.slice a0.a a0.len a0.cap), (.int .i64 x10), (.func (Fn.func 125) #[] #[(.pointer (some (at0 b1))), (.pointer (some (at0 b9)))])] (.tup []) fun (x11 : (Unit)) =>
 ld (.int .i64) (at0 b9) fun (x12 : Int) =>
 K x12)
noncomputable def h80 : Hint := (hS (hR 2) (hS (hJ (16320, [(13, tB)]) (.region [] (.ops 3 (.split 8 (.skips 4 (hO 1)) (hO 5)))) (hC (hS (hR 6) hL) hL)) (hS (hR 5) (hS (hR 4) (hS (hR 2) hL)))))
theorem F80_calls {a0 : Sl} {a1 : Int} {K : Int → World → Prop} {w : World} (h : F80 a0 a1 K w) : callT Tryz.prog 80 #[(.slice a0.a a0.len a0.cap), (.int .i64 a1)] (.one (.one (.int .i64))) K w := tied tabOk Tryz.func80 h80 [(.slice a0.a a0.len a0.cap), (.int .i64 a1)] h
noncomputable def F81 (a0 : Sl) (a1 : Int) (K : Int → World → Prop) : World → Prop :=
 join (S := Unit) (fun J1 =>
 sloop (S := Int × Unit) (fun (s3 : Int × Unit) again4 =>
 sif (decide (s3.1 > (0 : Int))) (
 drew <|
 ix a0.a a0.len (IntKind.wrap .i64 (s3.1 - (1 : Int))) fun p5 =>
 ld (.int .i64) (p5.add (scaled (Int.toNat (IntKind.wrap .i64 (s3.1 - (1 : Int)))) 1)) fun (x6 : Int) =>
 ix a0.a a0.len s3.1 fun p7 =>
 ld (.int .i64) (p7.add (scaled (Int.toNat s3.1) 1)) fun (x8 : Int) =>
 callT Tryz.prog 116 #[(.int .i64 x6)] (.one (.one (.int .i64))) fun (x9 : Int) =>
 keep (fun w => w.cell? (p7.add (scaled (Int.toNat s3.1) 1)) = some (Cell.val (.int .i64) x8)) <|
 callT Tryz.prog 116 #[(.int .i64 x8)] (.one (.one (.int .i64))) fun (x10 : Int) =>
 join (S := Bool × Unit) (fun J11 =>
 callT Tryz.prog 118 #[(.int .i64 x9)] (.one (.one .bool)) fun (x13 : Bool) =>
 sif x13 (
 sif (x9 == (1 : Int)) (
 J11 ((!(x10 == (2 : Int))), ())) (
 J11 (true, ()))) (
 callT Tryz.prog 118 #[(.int .i64 x10)] (.one (.one .bool)) fun (x14 : Bool) =>
 sif x14 (
 sif (x9 == (1 : Int)) (
 J11 ((!(x10 == (2 : Int))), ())) (
 J11 (true, ()))) (
 J11 (false, ())))) fun (s12 : Bool × Unit) =>
 sif s12.1 (
 K s3.1) (
 again4 ((IntKind.wrap .i64 (s3.1 - (1 : Int))), ()))) (
 J1 ())) ((IntKind.wrap .i64 ((if ((a0.len : Nat) : Int) < a1 then ((a0.len : Nat) : Int) else a1) - (1 : Int))), ())) fun (s2 : Unit) =>
 K (0 : Int)
noncomputable def h81 : Hint := (hS (hR 1) (hJ (17592186044400, []) (hS (hR 6) (.block (.loop 17592186036464 [(5, tI)] (hS (hS (hR 2) (hC hL hL)) (hS (.block (hS (.region [0, 1, 2, 3, 4, 6, 7, 8, 9, 5, 10, 11, 12] (hO 13)) (hJ (8795824586752, [(42, tB)]) (.region [] (.ops 3 (.split 30 (.skips 2 (.ops 5 (.split 37 (hO 5) (.skips 2 (hO 3))))) (.ops 4 (.split 34 (.ops 3 (.split 37 (hO 5) (.skips 2 (hO 3)))) (.skips 7 (hO 1))))))) (hC (hS (hR 2) hL) hL)))) (hR 3)))))) (hS (hR 1) hL)))
theorem F81_calls {a0 : Sl} {a1 : Int} {K : Int → World → Prop} {w : World} (h : F81 a0 a1 K w) : callT Tryz.prog 81 #[(.slice a0.a a0.len a0.cap), (.int .i64 a1)] (.one (.one (.int .i64))) K w := tied tabOk Tryz.func81 h81 [(.slice a0.a a0.len a0.cap), (.int .i64 a1)] h
noncomputable def F115 (a0 : Option Addr) (a1 : Int) (a2 : Int) (K : Unit → World → Prop) : World → Prop :=
 nn a0 fun p1 =>
 stC p1 (.int .i64 a1) <|
 join (S := Unit) (fun J2 =>
 sif (a1 == (6 : Int)) (
 nn a0 fun p4 =>
 ld (.int .i64) (p4.add 1) fun (x5 : Int) =>
 nn a0 fun p6 =>
 stC (p6.add 1) (.int .i64 (IntKind.wrap .i64 (x5 + (1 : Int)))) <|
 J2 ()) (
 nn a0 fun p7 =>
 stC (p7.add 1) (.int .i64 (0 : Int)) <|
 J2 ())) fun (s3 : Unit) =>
 join (S := Unit) (fun J8 =>
 sif (a1 == (14 : Int)) (
 nn a0 fun p10 =>
 stC (p10.add 2) (.int .i64 (1 : Int)) <|
 J8 ()) (
 join (S := Bool × Unit) (fun J11 =>
 nn a0 fun p13 =>
 ld (.int .i64) (p13.add 2) fun (x14 : Int) =>
 sif (x14 == (1 : Int)) (
 J11 ((a1 == (5 : Int)), ())) (
 J11 (false, ()))) fun (s12 : Bool × Unit) =>
 sif s12.1 (
 nn a0 fun p15 =>
 stC (p15.add 2) (.int .i64 (2 : Int)) <|
 J8 ()) (
 join (S := Bool × Unit) (fun J16 =>
 nn a0 fun p18 =>
 ld (.int .i64) (p18.add 2) fun (x19 : Int) =>
 sif (x19 == (1 : Int)) (
 J16 ((a1 == (4 : Int)), ())) (
 J16 (false, ()))) fun (s17 : Bool × Unit) =>
 sif s17.1 (
 J8 ()) (
 nn a0 fun p20 =>
 stC (p20.add 2) (.int .i64 (0 : Int)) <|
 J8 ())))) fun (s9 : Unit) =>
 sif (a2 == (1 : Int)) (
 nn a0 fun p21 =>
 stC (p21.add 3) (.int .i64 (1 : Int)) <|
 K ()) (
 join (S := Bool × Unit) (fun J22 =>
 nn a0 fun p24 =>
 ld (.int .i64) (p24.add 3) fun (x25 : Int) =>
 sif (decide (x25 > (0 : Int))) (
 J22 ((a2 == (3 : Int)), ())) (
 J22 (false, ()))) fun (s23 : Bool × Unit) =>
 sif s23.1 (
 nn a0 fun p26 =>
 stC (p26.add 3) (.int .i64 (2 : Int)) <|
 K ()) (
 join (S := Bool × Unit) (fun J27 =>
 nn a0 fun p29 =>
 ld (.int .i64) (p29.add 3) fun (x30 : Int) =>
 sif (decide (x30 > (0 : Int))) (
 J27 ((a2 == (2 : Int)), ())) (
 J27 (false, ()))) fun (s28 : Bool × Unit) =>
 sif s28.1 (
 K ()) (
 nn a0 fun p31 =>
 stC (p31.add 3) (.int .i64 (0 : Int)) <|
 K ())))
noncomputable def h115 : Hint := (hS (hR 5) (hJ (4193280, []) (hS (hR 2) (hC (hR 8) (hR 4))) (hJ (18014398505287680, []) (.block (hS (hR 3) (hC (hR 4) (hJ (2196875771904, [(31, tB)]) (.region [] (.ops 6 (.split 37 (hO 4) (.skips 2 (hO 2))))) (hC (hR 4) (hJ (17996806323437568, [(44, tB)]) (.region [] (.ops 6 (.split 50 (hO 4) (.skips 2 (hO 2))))) (hC hL (hR 4)))))))) (.block (hS (hR 3) (hC (hR 4) (hJ (9435509593702435651584, [(63, tB)]) (.region [] (.ops 6 (.split 69 (hO 4) (.skips 2 (hO 2))))) (hC (hR 4) (hJ (77295694591610352857776128, [(76, tB)]) (.region [] (.ops 6 (.split 82 (hO 4) (.skips 2 (hO 2))))) (hC hL (hR 4)))))))))))
theorem F115_calls {a0 : Option Addr} {a1 : Int} {a2 : Int} {K : Unit → World → Prop} {w : World} (h : F115 a0 a1 a2 K w) : callT Tryz.prog 115 #[(.pointer a0), (.int .i64 a1), (.int .i64 a2)] (.tup []) K w := tied tabOk Tryz.func115 h115 [(.pointer a0), (.int .i64 a1), (.int .i64 a2)] h
noncomputable def F116 (a0 : Int) (K : Int → World → Prop) : World → Prop :=
 callT Tryz.prog 149 #[(.int .i64 a0)] (.one (.one .bool)) fun (x1 : Bool) =>
 sif (!x1) (
 K (3 : Int)) (
 join (S := Bool × Unit) (fun J2 =>
 sif (decide ((IntKind.wrap .i64 (a0 - (44032 : Int))) ≥ (0 : Int))) (
 J2 ((decide ((IntKind.wrap .i64 (a0 - (44032 : Int))) < (11172 : Int))), ())) (
 J2 (false, ()))) fun (s3 : Bool × Unit) =>
 sif s3.1 (
 chk ((28 : Int) ≠ 0) <|
 sif ((Int.tmod (IntKind.wrap .i64 (a0 - (44032 : Int))) (28 : Int)) == (0 : Int)) (
 K (12 : Int)) (
 K (13 : Int))) (
 callT Tryz.prog 150 #[(.string bs_88441808), (.int .i64 a0)] (.one (.one (.int .i64))) fun (x4 : Int) =>
 K x4))
noncomputable def h116 : Hint := (hS (hR 1) (hS (hS (hR 3) (hC (hS (hR 1) hL) hL)) (hS (hS (hR 3) (hJ (32256, [(14, tB)]) (.region [] (.ops 3 (.split 11 (hO 3) (.skips 2 (hO 1))))) (hC (hS (hS (hR 3) (hC (hS (hR 1) hL) hL)) (hS (hR 1) hL)) hL))) (hS (hR 3) hL))))
theorem F116_calls {a0 : Int} {K : Int → World → Prop} {w : World} (h : F116 a0 K w) : callT Tryz.prog 116 #[(.int .i64 a0)] (.one (.one (.int .i64))) K w := tied tabOk Tryz.func116 h116 [(.int .i64 a0)] h
noncomputable def F117 (a0 : Int) (K : Int → World → Prop) : World → Prop :=
 join (S := Bool × Unit) (fun J1 =>
 sif (a0 == (2381 : Int)) (
 J1 ((a0 == (2381 : Int)), ())) (
 sif (a0 == (2509 : Int)) (
 J1 ((a0 == (2509 : Int)), ())) (
 sif (a0 == (2765 : Int)) (
 J1 ((a0 == (2765 : Int)), ())) (
 sif (a0 == (2893 : Int)) (
 J1 ((a0 == (2893 : Int)), ())) (
 sif (a0 == (3149 : Int)) (
 J1 ((a0 == (3149 : Int)), ())) (
 J1 ((a0 == (3405 : Int)), ()))))))) fun (s2 : Bool × Unit) =>
 sif s2.1 (
 K (3 : Int)) (
 sif (a0 == (8204 : Int)) (
 K (0 : Int)) (
 join (S := Unit) (fun J3 =>
 callT Tryz.prog 116 #[(.int .i64 a0)] (.one (.one (.int .i64))) fun (x5 : Int) =>
 join (S := Bool × Unit) (fun J6 =>
 sif (x5 == (4 : Int)) (
 J6 ((x5 == (4 : Int)), ())) (
 J6 ((x5 == (5 : Int)), ()))) fun (s7 : Bool × Unit) =>
 sif s7.1 (
 K (2 : Int)) (
 sif (x5 == (0 : Int)) (
 callT Tryz.prog 149 #[(.int .i64 a0)] (.one (.one .bool)) fun (x8 : Bool) =>
 sif x8 (
 callT Tryz.prog 150 #[(.string bs_29aed6ba), (.int .i64 a0)] (.one (.one (.int .i64))) fun (x9 : Int) =>
 K x9) (
 J3 ())) (
 J3 ()))) fun (s4 : Unit) =>
 K (0 : Int)))
noncomputable def h117 : Hint := (hS (hR 1) (hS (hS (hR 1) (.block (hJ (2032, [(4, tB)]) (hS (hR 2) (hC hL (hS (hR 2) (hC hL (hS (hR 2) (hC hL (hS (hR 2) (hC hL (hS (hR 2) (hC hL (hR 2))))))))))) (hC (hS (hR 1) hL) (hS (hR 2) (hC (hS (hR 1) hL) hL)))))) (hJ (16769028, []) (hS (hR 2) (.block (hJ (229376, [(15, tB)]) (hS (hR 2) (hC hL (hR 2))) (hC (hS (hR 1) hL) (hS (hR 2) (hC (hS (hR 2) (hC (hS (hR 3) hL) hL)) hL)))))) (hS (hR 1) hL))))
theorem F117_calls {a0 : Int} {K : Int → World → Prop} {w : World} (h : F117 a0 K w) : callT Tryz.prog 117 #[(.int .i64 a0)] (.one (.one (.int .i64))) K w := tied tabOk Tryz.func117 h117 [(.int .i64 a0)] h
noncomputable def F118 (a0 : Int) (K : Bool → World → Prop) : World → Prop :=
 sif (a0 == (1 : Int)) (
 K true) (
 sif (a0 == (2 : Int)) (
 K true) (
 K (a0 == (3 : Int))))
noncomputable def h118 : Hint := (hS (hR 1) (hS (.region [] (.ops 3 (.split 5 (.skips 2 (.ops 2 (.skips 2 (hO 2)))) (.ops 4 (.split 9 (.skips 2 (hO 2)) (hO 4)))))) hL))
theorem F118_calls {a0 : Int} {K : Bool → World → Prop} {w : World} (h : F118 a0 K w) : callT Tryz.prog 118 #[(.int .i64 a0)] (.one (.one .bool)) K w := tied tabOk Tryz.func118 h118 [(.int .i64 a0)] h
noncomputable def F119 (a0 : Int) (a1 : Int) (K : Bool → World → Prop) : World → Prop :=
 join (S := Unit) (fun J1 =>
 join (S := Bool × Unit) (fun J3 =>
 sif (a1 == (9 : Int)) (
 J3 ((a1 == (9 : Int)), ())) (
 sif (a1 == (12 : Int)) (
 J3 ((a1 == (12 : Int)), ())) (
 J3 ((a1 == (13 : Int)), ())))) fun (s4 : Bool × Unit) =>
 sif s4.1 (
 K (a0 == (9 : Int))) (
 sif (a1 == (10 : Int)) (
 sif (a0 == (9 : Int)) (
 K true) (
 J1 ())) (
 sif (a1 == (11 : Int)) (
 J1 ()) (
 K false)))) fun (s2 : Unit) =>
 join (S := Bool × Unit) (fun J5 =>
 sif (a0 == (12 : Int)) (
 J5 (true, ())) (
 J5 ((a0 == (10 : Int)), ()))) fun (s6 : Bool × Unit) =>
 sif s6.1 (
 K true) (
 sif (a1 == (11 : Int)) (
 sif (a0 == (13 : Int)) (
 K true) (
 K (a0 == (11 : Int)))) (
 K false))
noncomputable def h119 : Hint := (hS (hR 1) (hS (hS (hR 1) (.block (hJ (262096, []) (.block (hS (.block (hS (.block (hS (hS (hJ (960, [(6, tB)]) (hS (hR 2) (hC hL (hS (hR 2) (hC hL (hR 2))))) (hC hL hL)) (hS (hS (hR 2) (hC hL hL)) (hS (hR 2) (hC hL hL)))) hL)) (hS (hS (hR 3) hL) hL))) (hS (hR 2) (hC (hS (hR 1) hL) hL)))) (hS (hS (hJ (16515072, [(23, tB)]) (.region [] (.ops 3 (.split 20 (.skips 2 (hO 1)) (hO 3)))) (hC (hS (hR 1) hL) hL)) (hS (.region [] (.ops 3 (.split 26 (.ops 3 (.split 29 (.skips 2 (hO 3)) (hO 5))) (.skips 6 (hO 2))))) hL)) hL)))) (hS (hR 1) hL)))
theorem F119_calls {a0 : Int} {a1 : Int} {K : Bool → World → Prop} {w : World} (h : F119 a0 a1 K w) : callT Tryz.prog 119 #[(.int .i64 a0), (.int .i64 a1)] (.one (.one .bool)) K w := tied tabOk Tryz.func119 h119 [(.int .i64 a0), (.int .i64 a1)] h
noncomputable def F125 (a0 : Int) (v0 : Addr) (v1 : Addr) (K : Bool → World → Prop) : World → Prop :=
 join (S := Unit) (fun J1 =>
 ld (.int .i64) v0 fun (x3 : Int) =>
 sif (decide (a0 ≤ x3)) (
 stC v1 (.int .i64 a0) <|
 J1 ()) (
 J1 ())) fun (s2 : Unit) =>
 ld (.int .i64) v0 fun (x4 : Int) =>
 K (decide (a0 < x4))
noncomputable def h125 : Hint := (hS (hR 1) (hJ (480, []) (hS (hR 3) (hC (hR 2) hL)) (hS (hR 4) hL)))
theorem F125_calls {a0 : Int} {v0 : Addr} {v1 : Addr} {K : Bool → World → Prop} {w : World} (h : F125 a0 v0 v1 K w) : callT Tryz.prog 125 #[(.int .i64 a0), (.pointer (some v0)), (.pointer (some v1))] (.one (.one .bool)) K w := tied tabOk Tryz.func125 h125 [(.int .i64 a0), (.pointer (some v0)), (.pointer (some v1))] h
noncomputable def F149 (a0 : Int) (K : Bool → World → Prop) : World → Prop :=
 sif (decide (a0 ≥ (0 : Int))) (
 sif (decide (a0 < (55296 : Int))) (
 K true) (
 sif (decide (a0 > (57343 : Int))) (
 K (decide (a0 ≤ (1114111 : Int)))) (
 K false))) (
 sif (decide (a0 > (57343 : Int))) (
 K (decide (a0 ≤ (1114111 : Int)))) (
 K false))
noncomputable def h149 : Hint := (hS (hR 1) (hS (.region [] (.ops 3 (.split 5 (.ops 4 (.split 9 (.skips 6 (hO 2)) (.ops 3 (.split 12 (hO 5) (.skips 2 (hO 3)))))) (.skips 2 (.ops 5 (.split 12 (hO 5) (.skips 2 (hO 3)))))))) hL))
theorem F149_calls {a0 : Int} {K : Bool → World → Prop} {w : World} (h : F149 a0 K w) : callT Tryz.prog 149 #[(.int .i64 a0)] (.one (.one .bool)) K w := tied tabOk Tryz.func149 h149 [(.int .i64 a0)] h
noncomputable def F150 (a0 : ByteArray) (a1 : Int) (K : Int → World → Prop) : World → Prop :=
 chk ((11 : Int) ≠ 0) <|
 join (S := Unit) (fun J1 =>
 sloop (S := Int × Int × Unit) (fun (s3 : Int × Int × Unit) again4 =>
 sif (decide (s3.1 < s3.2.1)) (
 chk ((2 : Int) ≠ 0) <|
 chk (0 ≤ (IntKind.wrap .i64 ((IntKind.wrap .i64 (Int.tdiv (IntKind.wrap .i64 (s3.1 + s3.2.1)) (2 : Int))) * (11 : Int))) ∧ (IntKind.wrap .i64 ((IntKind.wrap .i64 (Int.tdiv (IntKind.wrap .i64 (s3.1 + s3.2.1)) (2 : Int))) * (11 : Int))) ≤ (IntKind.wrap .i64 ((IntKind.wrap .i64 ((IntKind.wrap .i64 (Int.tdiv (IntKind.wrap .i64 (s3.1 + s3.2.1)) (2 : Int))) + (1 : Int))) * (11 : Int))) ∧ (IntKind.wrap .i64 ((IntKind.wrap .i64 ((IntKind.wrap .i64 (Int.tdiv (IntKind.wrap .i64 (s3.1 + s3.2.1)) (2 : Int))) + (1 : Int))) * (11 : Int))) ≤ ((a0.size : Nat) : Int)) <|
 chk (0 ≤ (0 : Int) ∧ (0 : Int) ≤ (5 : Int) ∧ (5 : Int) ≤ (((a0.extract (Int.toNat (IntKind.wrap .i64 ((IntKind.wrap .i64 (Int.tdiv (IntKind.wrap .i64 (s3.1 + s3.2.1)) (2 : Int))) * (11 : Int)))) (Int.toNat (IntKind.wrap .i64 ((IntKind.wrap .i64 ((IntKind.wrap .i64 (Int.tdiv (IntKind.wrap .i64 (s3.1 + s3.2.1)) (2 : Int))) + (1 : Int))) * (11 : Int))))).size : Nat) : Int)) <|
 callT Tryz.prog 161 #[(.string ((a0.extract (Int.toNat (IntKind.wrap .i64 ((IntKind.wrap .i64 (Int.tdiv (IntKind.wrap .i64 (s3.1 + s3.2.1)) (2 : Int))) * (11 : Int)))) (Int.toNat (IntKind.wrap .i64 ((IntKind.wrap .i64 ((IntKind.wrap .i64 (Int.tdiv (IntKind.wrap .i64 (s3.1 + s3.2.1)) (2 : Int))) + (1 : Int))) * (11 : Int))))).extract (Int.toNat 0) (Int.toNat (5 : Int))))] (.one (.one (.int .i64))) fun (x5 : Int) =>
 sif (decide (a1 < x5)) (
 again4 (s3.1, (IntKind.wrap .i64 (Int.tdiv (IntKind.wrap .i64 (s3.1 + s3.2.1)) (2 : Int))), ())) (
 chk (0 ≤ (5 : Int) ∧ (5 : Int) ≤ (10 : Int) ∧ (10 : Int) ≤ (((a0.extract (Int.toNat (IntKind.wrap .i64 ((IntKind.wrap .i64 (Int.tdiv (IntKind.wrap .i64 (s3.1 + s3.2.1)) (2 : Int))) * (11 : Int)))) (Int.toNat (IntKind.wrap .i64 ((IntKind.wrap .i64 ((IntKind.wrap .i64 (Int.tdiv (IntKind.wrap .i64 (s3.1 + s3.2.1)) (2 : Int))) + (1 : Int))) * (11 : Int))))).size : Nat) : Int)) <|
 callT Tryz.prog 161 #[(.string ((a0.extract (Int.toNat (IntKind.wrap .i64 ((IntKind.wrap .i64 (Int.tdiv (IntKind.wrap .i64 (s3.1 + s3.2.1)) (2 : Int))) * (11 : Int)))) (Int.toNat (IntKind.wrap .i64 ((IntKind.wrap .i64 ((IntKind.wrap .i64 (Int.tdiv (IntKind.wrap .i64 (s3.1 + s3.2.1)) (2 : Int))) + (1 : Int))) * (11 : Int))))).extract (Int.toNat (5 : Int)) (Int.toNat (10 : Int))))] (.one (.one (.int .i64))) fun (x6 : Int) =>
 sif (decide (a1 > x6)) (
 again4 ((IntKind.wrap .i64 ((IntKind.wrap .i64 (Int.tdiv (IntKind.wrap .i64 (s3.1 + s3.2.1)) (2 : Int))) + (1 : Int))), s3.2.1, ())) (
 chk (0 ≤ (10 : Int) ∧ (10 : Int) ≤ (((a0.extract (Int.toNat (IntKind.wrap .i64 ((IntKind.wrap .i64 (Int.tdiv (IntKind.wrap .i64 (s3.1 + s3.2.1)) (2 : Int))) * (11 : Int)))) (Int.toNat (IntKind.wrap .i64 ((IntKind.wrap .i64 ((IntKind.wrap .i64 (Int.tdiv (IntKind.wrap .i64 (s3.1 + s3.2.1)) (2 : Int))) + (1 : Int))) * (11 : Int))))).size : Nat) : Int) ∧ (((a0.extract (Int.toNat (IntKind.wrap .i64 ((IntKind.wrap .i64 (Int.tdiv (IntKind.wrap .i64 (s3.1 + s3.2.1)) (2 : Int))) * (11 : Int)))) (Int.toNat (IntKind.wrap .i64 ((IntKind.wrap .i64 ((IntKind.wrap .i64 (Int.tdiv (IntKind.wrap .i64 (s3.1 + s3.2.1)) (2 : Int))) + (1 : Int))) * (11 : Int))))).size : Nat) : Int) ≤ (((a0.extract (Int.toNat (IntKind.wrap .i64 ((IntKind.wrap .i64 (Int.tdiv (IntKind.wrap .i64 (s3.1 + s3.2.1)) (2 : Int))) * (11 : Int)))) (Int.toNat (IntKind.wrap .i64 ((IntKind.wrap .i64 ((IntKind.wrap .i64 (Int.tdiv (IntKind.wrap .i64 (s3.1 + s3.2.1)) (2 : Int))) + (1 : Int))) * (11 : Int))))).size : Nat) : Int)) <|
 callT Tryz.prog 161 #[(.string ((a0.extract (Int.toNat (IntKind.wrap .i64 ((IntKind.wrap .i64 (Int.tdiv (IntKind.wrap .i64 (s3.1 + s3.2.1)) (2 : Int))) * (11 : Int)))) (Int.toNat (IntKind.wrap .i64 ((IntKind.wrap .i64 ((IntKind.wrap .i64 (Int.tdiv (IntKind.wrap .i64 (s3.1 + s3.2.1)) (2 : Int))) + (1 : Int))) * (11 : Int))))).extract (Int.toNat (10 : Int)) (Int.toNat (((a0.extract (Int.toNat (IntKind.wrap .i64 ((IntKind.wrap .i64 (Int.tdiv (IntKind.wrap .i64 (s3.1 + s3.2.1)) (2 : Int))) * (11 : Int)))) (Int.toNat (IntKind.wrap .i64 ((IntKind.wrap .i64 ((IntKind.wrap .i64 (Int.tdiv (IntKind.wrap .i64 (s3.1 + s3.2.1)) (2 : Int))) + (1 : Int))) * (11 : Int))))).size : Nat) : Int))))] (.one (.one (.int .i64))) fun (x7 : Int) =>
 K x7))) (
 J1 ())) ((0 : Int), (IntKind.wrap .i64 (Int.tdiv ((ByteArray.size a0 : Nat) : Int) (11 : Int))), ())) fun (s2 : Unit) =>
 K (0 : Int)
noncomputable def h150 : Hint := (hS (hR 1) (hS (hR 5) (hJ (17592186040816, []) (.block (.loop 17592186040816 [(5, tI), (6, tI)] (hS (hS (hR 3) (hC hL hL)) (.block (hS (hR 5) (hS (hR 8) (.block (hS (hR 6) (hC (hR 2) (hS (hR 6) (hC (hR 3) (hS (hR 4) hL)))))))))))) (hS (hR 1) hL))))
theorem F150_calls {a0 : ByteArray} {a1 : Int} {K : Int → World → Prop} {w : World} (h : F150 a0 a1 K w) : callT Tryz.prog 150 #[(.string a0), (.int .i64 a1)] (.one (.one (.int .i64))) K w := tied tabOk Tryz.func150 h150 [(.string a0), (.int .i64 a1)] h
noncomputable def F158 (a0 : Int) (K : Int → World → Prop) : World → Prop :=
 callT Tryz.prog 149 #[(.int .i64 a0)] (.one (.one .bool)) fun (x1 : Bool) =>
 sif (!x1) (
 K (1 : Int)) (
 callT Tryz.prog 150 #[(.string bs_94cae01e), (.int .i64 a0)] (.one (.one (.int .i64))) fun (x2 : Int) =>
 sif (x2 == (2 : Int)) (
 K (2 : Int)) (
 sif (x2 == (1 : Int)) (
 K (0 : Int)) (
 K (1 : Int))))
noncomputable def h158 : Hint := (hS (hR 1) (hS (hS (hR 3) (hC (hS (hR 1) hL) hL)) (hS (hS (hR 2) (.block (hS (hR 2) (hC (hS (hR 1) hL) (hS (hR 2) (hC (hS (hR 1) hL) hL)))))) (hS (hR 1) hL))))
theorem F158_calls {a0 : Int} {K : Int → World → Prop} {w : World} (h : F158 a0 K w) : callT Tryz.prog 158 #[(.int .i64 a0)] (.one (.one (.int .i64))) K w := tied tabOk Tryz.func158 h158 [(.int .i64 a0)] h
noncomputable def F161 (a0 : ByteArray) (K : Int → World → Prop) : World → Prop :=
 join (S := Int × Unit) (fun J1 =>
 rawT Tryz.prog (.one (.one .ptr)) (Instr.range 9 (.string a0)) fun (x3 : Option Addr) =>
 sloop (S := Int × Unit) (fun (s4 : Int × Unit) again5 =>
 nextS Tryz.prog (Instr.next (.pointer x3) true 0) (fun p6 c7 =>
 sif true (
 join (S := Int × Unit) (fun J8 =>
 sif (decide (c7 > (57 : Int))) (
 J8 ((IntKind.wrap .i64 ((IntKind.wrap .i64 (IntKind.wrap .i32 (c7 - (65 : Int)))) + (10 : Int))), ())) (
 J8 ((IntKind.wrap .i64 (IntKind.wrap .i32 (c7 - (48 : Int)))), ()))) fun (s9 : Int × Unit) =>
 again5 ((IntKind.wrap .i64 ((IntKind.wrap .i64 (s4.1 * (16 : Int))) + s9.1)), ())) (
 J1 (s4.1, ()))) (
 sif false (
 fun _ => False) (
 J1 (s4.1, ())))) ((0 : Int), ())) fun (s2 : Int × Unit) =>
 K s2.1
noncomputable def h161 : Hint := (hS (hR 1) (hS (hR 1) (hJ (33554408, [(3, tI)]) (hS (hR 2) (.block (.loop 33554024 [(3, tI)] (hS (hR 2) (hS (hC hL hL) (.block (hS (hR 2) (hS (hR 4) (hJ (2064448, [(6, tI)]) (hS (hR 2) (hC (hR 5) hL)) (hR 5)))))))))) (hS (hR 2) hL))))
theorem F161_calls {a0 : ByteArray} {K : Int → World → Prop} {w : World} (h : F161 a0 K w) : callT Tryz.prog 161 #[(.string a0)] (.one (.one (.int .i64))) K w := tied tabOk Tryz.func161 h161 [(.string a0)] h
theorem nat_ofInt {b : Nat} {a : Int} (h0 : 0 ≤ a) (h : a < 2 ^ b) : (BitVec.ofInt b a).toNat = a.toNat := by
 rw [BitVec.toNat_ofInt]
 have e : ((2 ^ b : Nat) : Int) = (2 : Int) ^ b := by simp
 rw [e, Int.emod_eq_of_lt h0 h]
theorem and_lo {b k : Nat} {a m : Int} (h0 : 0 ≤ a) (h : a < 2 ^ b) (hm : m = 2 ^ k - 1) (hk : k ≤ b) : ((BitVec.toNat (BitVec.ofInt b a &&& BitVec.ofInt b m) : Nat) : Int) = a % 2 ^ k := by
 have h1 : (1 : Int) ≤ 2 ^ k := by have : (0 : Int) < 2 ^ k := Int.pow_pos (by decide); omega
 have h2 : (2 : Int) ^ k ≤ 2 ^ b := by
  have : (2 : Nat) ^ k ≤ 2 ^ b := Nat.pow_le_pow_right (by decide) hk
  exact_mod_cast this
 rw [BitVec.toNat_and, nat_ofInt h0 h, nat_ofInt (by omega) (by omega)]
 have : m.toNat = 2 ^ k - 1 := by
  have e : ((2 ^ k : Nat) : Int) = (2 : Int) ^ k := by simp
  omega
 rw [this, Nat.and_two_pow_sub_one_eq_mod]
 have e : ((2 ^ k : Nat) : Int) = (2 : Int) ^ k := by simp
 rw [Int.natCast_emod, e, Int.toNat_of_nonneg h0]
theorem or_shift {b k : Nat} {a c : Int} (h0 : 0 ≤ a) (hc0 : 0 ≤ c) (hc : c < 2 ^ k) (h : a * 2 ^ k + c < 2 ^ b) : ((BitVec.toNat (BitVec.ofInt b (a * 2 ^ k) ||| BitVec.ofInt b c) : Nat) : Int) = a * 2 ^ k + c := by
 have hp : (0 : Int) < 2 ^ k := Int.pow_pos (by decide)
 have hak : 0 ≤ a * 2 ^ k := Int.mul_nonneg h0 (by omega)
 rw [BitVec.toNat_or, nat_ofInt hak (by omega), nat_ofInt hc0 (by omega)]
 have e : ((2 ^ k : Nat) : Int) = (2 : Int) ^ k := by simp
 have e1 : (a * 2 ^ k).toNat = a.toNat <<< k := by
  rw [Nat.shiftLeft_eq]
  have : ((a * 2 ^ k).toNat : Int) = ((a.toNat * 2 ^ k : Nat) : Int) := by
   rw [Int.toNat_of_nonneg hak, Int.natCast_mul, e, Int.toNat_of_nonneg h0]
  exact_mod_cast this
 rw [e1, ← Nat.shiftLeft_add_eq_or_of_lt (by omega), ← e1, Int.natCast_add, Int.toNat_of_nonneg hak, Int.toNat_of_nonneg hc0]
theorem or_shift' {b k : Nat} {a c : Int} (h0 : 0 ≤ a) (hc0 : 0 ≤ c) (hc : c < 2 ^ k) (h : a * 2 ^ k + c < 2 ^ b) : ((BitVec.toNat (BitVec.ofInt b c ||| BitVec.ofInt b (a * 2 ^ k)) : Nat) : Int) = a * 2 ^ k + c := by
 rw [BitVec.or_comm]; exact or_shift h0 hc0 hc h
theorem and_hi {a m : Int} (h0 : 0 ≤ a) (h : a < 2 ^ 63) (hm : m = 1023) : ((BitVec.toNat (BitVec.ofInt 64 a &&& ~~~(BitVec.ofInt 64 m)) : Nat) : Int) = a / 1024 * 1024 := by
 subst hm
 have e0 : (~~~(BitVec.ofInt 64 1023) : BitVec 64).toNat = (2 ^ 54 - 1) <<< 10 := by decide
 rw [BitVec.toNat_and, nat_ofInt h0 (by omega), e0]
 have : a.toNat &&& (2 ^ 54 - 1) <<< 10 = (a.toNat >>> 10) <<< 10 := by
  apply Nat.eq_of_testBit_eq
  intro i
  rw [Nat.testBit_and, Nat.testBit_shiftLeft, Nat.testBit_shiftLeft, Nat.testBit_two_pow_sub_one, Nat.testBit_shiftRight]
  by_cases hi : 10 ≤ i
  ·have e : 10 + (i - 10) = i := by omega
   rw [e]
   by_cases h64 : i < 64
   ·have : i - 10 < 54 := by omega
    simp [hi, this]
   ·have hb : a.toNat.testBit i = false := Nat.testBit_lt_two_pow (Nat.lt_of_lt_of_le (by omega : a.toNat < 2 ^ 63) (Nat.pow_le_pow_right (by decide) (by omega)))
    simp [hb]
  ·simp [hi]
 rw [this, Nat.shiftLeft_eq, Nat.shiftRight_eq_div_pow]
 omega
theorem wrap64 {a : Int} (h0 : -(2 ^ 63) ≤ a) (h : a < 2 ^ 63) : IntKind.wrap .i64 a = a := by
 simp only [IntKind.wrap, IntKind.signed, IntKind.bits]
 simp [Int.bmod_def]; omega
theorem wrap8 {a : Int} (h0 : 0 ≤ a) (h : a < 256) : IntKind.wrap .u8 a = a := by
 simp only [IntKind.wrap, IntKind.signed, IntKind.bits]
 simp; omega
theorem wrap8m {a : Int} : IntKind.wrap .u8 a = a % 256 := by
 simp only [IntKind.wrap, IntKind.signed, IntKind.bits]
 simp
end Go.Proofs.YtolhlldgnfbemaaGreat
