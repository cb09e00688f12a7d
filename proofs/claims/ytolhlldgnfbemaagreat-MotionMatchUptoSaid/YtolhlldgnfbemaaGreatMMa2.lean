/- YtolhlldgnfbemaaGreatMMa2: parts of the proof, put together by program. -/
import Derived.Test.YtolhlldgnfbemaaGreatMMa1
set_option linter.unusedVariables false
set_option linter.unusedSimpArgs false
set_option linter.unusedSectionVars false
namespace Go.Proofs.YtolhlldgnfbemaaGreat
namespace Cdc
theorem byte_nat {n : Nat} (h : n < 256) : (UInt8.ofNat n).toNat = n := by rw [UInt8.toNat_ofNat']; omega
theorem cont_byte (q : Nat) : cont (UInt8.ofNat (128 + q % 64)) = true := by
 unfold cont; rw [byte_nat (by omega)]; simp; omega
def Scalar (a : Int) : Prop := (0 ≤ a ∧ a < 55296) ∨ (57343 < a ∧ a ≤ 1114111)
theorem nx8_pt {a : Int} (h : Scalar a) (r : Bs) : nx8 (pt8 a ++ r) = (a, sz8 a) := by
 obtain ⟨n, rfl⟩ : ∃ n : Nat, a = (n : Int) := Int.eq_ofNat_of_zero_le (by rcases h with h | h <;> omega)
 have hs : sz8 (n : Int) = if n < 128 then 1 else if n < 2048 then 2 else if n < 65536 then 3 else 4 := by
  unfold sz8
  rw [if_neg (by rcases h with h | h <;> omega)]
  repeat' split
  all_goals first | rfl | omega
 unfold pt8
 rw [if_neg (by omega), hs, Int.toNat_natCast]
 by_cases h1 : n < 128
 ·rw [if_pos h1, if_pos rfl]
  have hb : (UInt8.ofNat n).toNat = n := byte_nat (by omega)
  show nx8 (UInt8.ofNat n :: r) = _
  have hbn : bnds n = (1, 0, 0) := by unfold bnds; rw [if_pos h1]
  have hr : rowOf (UInt8.ofNat n :: r) = (1, 1) := by simp only [rowOf, hb, hbn]; rfl
  simp only [nx8, hr, hb]
  rw [if_neg (by decide)]
  rfl
 rw [if_neg h1]
 by_cases h2 : n < 2048
 ·rw [if_pos h2, if_neg (by decide)]
  have hb : (UInt8.ofNat (mk8 2 + n / 64 ^ (2 - 1))).toNat = 192 + n / 64 := by
   show (UInt8.ofNat (192 + n / 64)).toNat = _
   exact byte_nat (by omega)
  have hc : (UInt8.ofNat (128 + n / 64 ^ 0 % 64)).toNat = 128 + n % 64 := by
   rw [byte_nat (by omega)]; simp
  have hbn : bnds (192 + n / 64) = (2, 128, 191) := by
   unfold bnds; rw [if_neg (by omega), if_neg (by omega), if_pos (by omega)]
  show nx8 (UInt8.ofNat (mk8 2 + n / 64 ^ (2 - 1)) :: UInt8.ofNat (128 + n / 64 ^ 0 % 64) :: r) = _
  have hr : rowOf (UInt8.ofNat (mk8 2 + n / 64 ^ (2 - 1)) :: UInt8.ofNat (128 + n / 64 ^ 0 % 64) :: r) = (2, 2) := by
   simp only [rowOf, hb, hbn, hc]
   rw [if_neg (by decide), if_neg (by omega)]
   cases r <;> rfl
  simp only [nx8, hr, hb]
  rw [if_neg (by decide)]
  show (((rest (lead 2 (192 + n / 64)) [UInt8.ofNat (128 + n / 64 ^ 0 % 64)] : Nat) : Int), 2) = _
  have : rest (lead 2 (192 + n / 64)) [UInt8.ofNat (128 + n / 64 ^ 0 % 64)] = n := by
   show (192 + n / 64) % 32 * 64 + (UInt8.ofNat (128 + n / 64 ^ 0 % 64)).toNat % 64 = n
   rw [hc]; omega
  rw [this]
 rw [if_neg h2]
 by_cases h3 : n < 65536
 ·rw [if_pos h3, if_neg (by decide)]
  have hb : (UInt8.ofNat (mk8 3 + n / 64 ^ (3 - 1))).toNat = 224 + n / 4096 := by
   show (UInt8.ofNat (224 + n / 4096)).toNat = _
   exact byte_nat (by omega)
  have hc : (UInt8.ofNat (128 + n / 64 ^ 1 % 64)).toNat = 128 + n / 64 % 64 := by
   rw [byte_nat (by omega)]
  have hd : (UInt8.ofNat (128 + n / 64 ^ 0 % 64)).toNat = 128 + n % 64 := by
   rw [byte_nat (by omega)]; simp
  have hbn : ∃ lo hi, bnds (224 + n / 4096) = (3, lo, hi) ∧ ¬ (128 + n / 64 % 64 < lo ∨ hi < 128 + n / 64 % 64) := by
   unfold bnds
   rw [if_neg (by omega), if_neg (by omega), if_neg (by omega)]
   split
   ·exact ⟨_, _, rfl, by omega⟩
   ·split
    ·exact ⟨_, _, rfl, by rcases h with h | h <;> omega⟩
    ·rw [if_pos (by omega)]
     exact ⟨_, _, rfl, by omega⟩
  obtain ⟨lo, hi, hbn, hin⟩ := hbn
  show nx8 (UInt8.ofNat (mk8 3 + n / 64 ^ (3 - 1)) :: UInt8.ofNat (128 + n / 64 ^ 1 % 64) :: UInt8.ofNat (128 + n / 64 ^ 0 % 64) :: r) = _
  have hr : rowOf (UInt8.ofNat (mk8 3 + n / 64 ^ (3 - 1)) :: UInt8.ofNat (128 + n / 64 ^ 1 % 64) :: UInt8.ofNat (128 + n / 64 ^ 0 % 64) :: r) = (3, 3) := by
   simp only [rowOf, hb, hbn, hc]
   rw [if_neg (by decide), if_neg hin]
   show (2 + more 1 _, 3) = _
   simp only [more, cont_byte, if_true]
  simp only [nx8, hr, hb]
  rw [if_neg (by decide)]
  show (((rest (lead 3 (224 + n / 4096)) [UInt8.ofNat (128 + n / 64 ^ 1 % 64), UInt8.ofNat (128 + n / 64 ^ 0 % 64)] : Nat) : Int), 3) = _
  have : rest (lead 3 (224 + n / 4096)) [UInt8.ofNat (128 + n / 64 ^ 1 % 64), UInt8.ofNat (128 + n / 64 ^ 0 % 64)] = n := by
   show ((224 + n / 4096) % 16 * 64 + (UInt8.ofNat (128 + n / 64 ^ 1 % 64)).toNat % 64) * 64 + (UInt8.ofNat (128 + n / 64 ^ 0 % 64)).toNat % 64 = n
   rw [hc, hd]; omega
  rw [this]
 rw [if_neg h3, if_neg (by decide)]
 have hb : (UInt8.ofNat (mk8 4 + n / 64 ^ (4 - 1))).toNat = 240 + n / 262144 := by
  show (UInt8.ofNat (240 + n / 262144)).toNat = _
  exact byte_nat (by rcases h with h | h <;> omega)
 have hc : (UInt8.ofNat (128 + n / 64 ^ 2 % 64)).toNat = 128 + n / 4096 % 64 := by
  rw [byte_nat (by omega)]
 have hd : (UInt8.ofNat (128 + n / 64 ^ 1 % 64)).toNat = 128 + n / 64 % 64 := by
  rw [byte_nat (by omega)]
 have he : (UInt8.ofNat (128 + n / 64 ^ 0 % 64)).toNat = 128 + n % 64 := by
  rw [byte_nat (by omega)]; simp
 have hbn : ∃ lo hi, bnds (240 + n / 262144) = (4, lo, hi) ∧ ¬ (128 + n / 4096 % 64 < lo ∨ hi < 128 + n / 4096 % 64) := by
  unfold bnds
  rw [if_neg (by omega), if_neg (by omega), if_neg (by omega), if_neg (by omega), if_neg (by omega), if_neg (by omega)]
  split
  ·exact ⟨_, _, rfl, by omega⟩
  ·split
   ·exact ⟨_, _, rfl, by omega⟩
   ·rw [if_pos (by rcases h with h | h <;> omega)]
    exact ⟨_, _, rfl, by rcases h with h | h <;> omega⟩
 obtain ⟨lo, hi, hbn, hin⟩ := hbn
 show nx8 (UInt8.ofNat (mk8 4 + n / 64 ^ (4 - 1)) :: UInt8.ofNat (128 + n / 64 ^ 2 % 64) :: UInt8.ofNat (128 + n / 64 ^ 1 % 64) :: UInt8.ofNat (128 + n / 64 ^ 0 % 64) :: r) = _
 have hr : rowOf (UInt8.ofNat (mk8 4 + n / 64 ^ (4 - 1)) :: UInt8.ofNat (128 + n / 64 ^ 2 % 64) :: UInt8.ofNat (128 + n / 64 ^ 1 % 64) :: UInt8.ofNat (128 + n / 64 ^ 0 % 64) :: r) = (4, 4) := by
  simp only [rowOf, hb, hbn, hc]
  rw [if_neg (by decide), if_neg hin]
  show (2 + more 2 _, 4) = _
  simp only [more, cont_byte, if_true]
 simp only [nx8, hr, hb]
 rw [if_neg (by decide)]
 show (((rest (lead 4 (240 + n / 262144)) [UInt8.ofNat (128 + n / 64 ^ 2 % 64), UInt8.ofNat (128 + n / 64 ^ 1 % 64), UInt8.ofNat (128 + n / 64 ^ 0 % 64)] : Nat) : Int), 4) = _
 have : rest (lead 4 (240 + n / 262144)) [UInt8.ofNat (128 + n / 64 ^ 2 % 64), UInt8.ofNat (128 + n / 64 ^ 1 % 64), UInt8.ofNat (128 + n / 64 ^ 0 % 64)] = n := by
  show (((240 + n / 262144) % 8 * 64 + (UInt8.ofNat (128 + n / 64 ^ 2 % 64)).toNat % 64) * 64 + (UInt8.ofNat (128 + n / 64 ^ 1 % 64)).toNat % 64) * 64 + (UInt8.ofNat (128 + n / 64 ^ 0 % 64)).toNat % 64 = n
  rw [hc, hd, he]; rcases h with h | h <;> omega
 rw [this]
theorem uni_two (be : Bool) (u : Nat) (hu : u < 65536) : ∃ x y, uni be u = [x, y] ∧ un be x y = u := by
 have h1 : (UInt8.ofNat (u / 256)).toNat = u / 256 := byte_nat (by omega)
 have h2 : (UInt8.ofNat u).toNat = u % 256 := by rw [UInt8.toNat_ofNat']
 cases be with
 | false => exact ⟨_, _, rfl, by show (UInt8.ofNat u).toNat + (UInt8.ofNat (u / 256)).toNat * 256 = u; rw [h1, h2]; omega⟩
 | true => exact ⟨_, _, rfl, by show (UInt8.ofNat u).toNat + (UInt8.ofNat (u / 256)).toNat * 256 = u; rw [h1, h2]; omega⟩
theorem nx16_pt {be : Bool} {a : Int} (h : Scalar a) (r : Bs) : nx16 be (pt16 be a ++ r) = (a, sz16 a) := by
 obtain ⟨n, rfl⟩ : ∃ n : Nat, a = (n : Int) := Int.eq_ofNat_of_zero_le (by rcases h with h | h <;> omega)
 unfold pt16 sz16
 have a1 : ¬ (n : Int) < 0 := by omega
 have a2 : ¬ ((n : Int) < -256 ∨ 1114111 < (n : Int)) := by rcases h with h | h <;> omega
 rw [if_neg a1, if_neg a2, if_neg a1, Int.toNat_natCast]
 by_cases h1 : (n : Int) < 65536
 ·rw [if_pos h1, if_pos h1]
  obtain ⟨x, y, e, hu⟩ := uni_two be n (by omega)
  rw [e]
  show nx16 be (x :: y :: r) = _
  simp only [nx16, hu]
  rw [if_neg (by rcases h with h | h <;> omega)]
 ·rw [if_neg h1, if_neg h1]
  obtain ⟨x, y, e, hu⟩ := uni_two be (55296 + (n - 65536) / 1024) (by rcases h with h | h <;> omega)
  obtain ⟨x', y', e', hu'⟩ := uni_two be (56320 + n % 1024) (by omega)
  rw [e, e']
  show nx16 be (x :: y :: x' :: y' :: r) = _
  simp only [nx16, hu, hu']
  rw [if_pos (by rcases h with h | h <;> omega), if_pos (by omega)]
  have : (65536 : Int) + (((55296 + (n - 65536) / 1024) % 1024 * 1024 + (56320 + n % 1024) % 1024 : Nat) : Int) = (n : Int) := by rcases h with h | h <;> omega
  rw [this]
theorem nx1_pt {a : Int} (h0 : 0 ≤ a) (h : a ≤ 255) (r : Bs) : nx1 (pt1 a ++ r) = (a, sz1 a) := by
 obtain ⟨n, rfl⟩ := Int.eq_ofNat_of_zero_le h0
 have : (UInt8.ofNat n).toNat = n := byte_nat (by omega)
 show (((UInt8.ofNat n).toNat : Int), 1) = _
 rw [this]
 unfold sz1
 rw [if_neg (by omega)]
theorem nx_pt {e : Enc} {a : Int} (h : Scalar a) (hf : sz e a ≠ 0) (r : Bs) : nx e (pt e a ++ r) = (a, sz e a) := by
 cases e with
 | u8 => exact nx8_pt h r
 | le => exact nx16_pt h r
 | be => exact nx16_pt h r
 | l1 =>
  have hh : ¬ (a < 0 ∨ 255 < a) := fun hc => hf (by show sz1 a = 0; unfold sz1; rw [if_pos hc])
  exact nx1_pt (by omega) (by omega) r
theorem ats_pt {e : Enc} {a : Int} (h : Scalar a) (hf : sz e a ≠ 0) (r : Bs) : ats e (pt e a ++ r) = (a, sz e a) :: ats e r := by
 have hl := pt_len e a hf
 have hne : pt e a ++ r ≠ [] := fun hc => by
  have := congrArg List.length hc
  rw [List.length_append, List.length_nil] at this
  omega
 rw [ats_cons e hne, nx_pt h hf]
 have : (pt e a ++ r).drop (sz e a) = r := by rw [← hl, List.drop_left]
 rw [this]
end Cdc
end Go.Proofs.YtolhlldgnfbemaaGreat
set_option maxRecDepth 100000
namespace Go.Proofs.YtolhlldgnfbemaaGreat
open Go Go.Vx
def bs_29aed6ba : ByteArray := { data := #[48, 48, 57, 49, 53, 48, 48, 57, 51, 57, 49, 48, 48, 57, 53, 56, 48, 48, 57, 53, 70, 49, 48, 48, 57, 55, 56, 48, 48, 57, 55, 70, 49, 48, 48, 57, 57, 53, 48, 48, 57, 65, 56, 49, 48, 48, 57, 65, 65, 48, 48, 57, 66, 48, 49, 48, 48, 57, 66, 50, 48, 48, 57, 66, 50, 49, 48, 48, 57, 66, 54, 48, 48, 57, 66, 57, 49, 48, 48, 57, 68, 67, 48, 48, 57, 68, 68, 49, 48, 48, 57, 68, 70, 48, 48, 57, 68, 70, 49, 48, 48, 57, 70, 48, 48, 48, 57, 70, 49, 49, 48, 48, 65, 57, 53, 48, 48, 65, 65, 56, 49, 48, 48, 65, 65, 65, 48, 48, 65, 66, 48, 49, 48, 48, 65, 66, 50, 48, 48, 65, 66, 51, 49, 48, 48, 65, 66, 53, 48, 48, 65, 66, 57, 49, 48, 48, 65, 70, 57, 48, 48, 65, 70, 57, 49, 48, 48, 66, 49, 53, 48, 48, 66, 50, 56, 49, 48, 48, 66, 50, 65, 48, 48, 66, 51, 48, 49, 48, 48, 66, 51, 50, 48, 48, 66, 51, 51, 49, 48, 48, 66, 51, 53, 48, 48, 66, 51, 57, 49, 48, 48, 66, 53, 67, 48, 48, 66, 53, 68, 49, 48, 48, 66, 53, 70, 48, 48, 66, 53, 70, 49, 48, 48, 66, 55, 49, 48, 48, 66, 55, 49, 49, 48, 48, 67, 49, 53, 48, 48, 67, 50, 56, 49, 48, 48, 67, 50, 65, 48, 48, 67, 51, 57, 49, 48, 48, 67, 53, 56, 48, 48, 67, 53, 65, 49, 48, 48, 68, 49, 53, 48, 48, 68, 51, 65, 49] }
def bs_88441808 : ByteArray := { data := #[48, 48, 48, 48, 48, 48, 48, 48, 48, 57, 51, 48, 48, 48, 48, 65, 48, 48, 48, 48, 65, 50, 48, 48, 48, 48, 66, 48, 48, 48, 48, 67, 51, 48, 48, 48, 48, 68, 48, 48, 48, 48, 68, 49, 48, 48, 48, 48, 69, 48, 48, 48, 49, 70, 51, 48, 48, 48, 55, 70, 48, 48, 48, 57, 70, 51, 48, 48, 48, 65, 57, 48, 48, 48, 65, 57, 69, 48, 48, 48, 65, 68, 48, 48, 48, 65, 68, 51, 48, 48, 48, 65, 69, 48, 48, 48, 65, 69, 69, 48, 48, 51, 48, 48, 48, 48, 51, 54, 70, 52, 48, 48, 52, 56, 51, 48, 48, 52, 56, 57, 52, 48, 48, 53, 57, 49, 48, 48, 53, 66, 68, 52, 48, 48, 53, 66, 70, 48, 48, 53, 66, 70, 52, 48, 48, 53, 67, 49, 48, 48, 53, 67, 50, 52, 48, 48, 53, 67, 52, 48, 48, 53, 67, 53, 52, 48, 48, 53, 67, 55, 48, 48, 53, 67, 55, 52, 48, 48, 54, 48, 48, 48, 48, 54, 48, 53, 55, 48, 48, 54, 49, 48, 48, 48, 54, 49, 65, 52, 48, 48, 54, 49, 67, 48, 48, 54, 49, 67, 51, 48, 48, 54, 52, 66, 48, 48, 54, 53, 70, 52, 48, 48, 54, 55, 48, 48, 48, 54, 55, 48, 52, 48, 48, 54, 68, 54, 48, 48, 54, 68, 67, 52, 48, 48, 54, 68, 68, 48, 48, 54, 68, 68, 55, 48, 48, 54, 68, 70, 48, 48, 54, 69, 52, 52, 48, 48, 54, 69, 55, 48, 48, 54, 69, 56, 52, 48, 48, 54, 69, 65, 48, 48, 54, 69, 68, 52, 48, 48, 55, 48, 70, 48, 48, 55, 48, 70, 55, 48, 48, 55, 49, 49, 48, 48, 55, 49, 49, 52, 48, 48, 55, 51, 48, 48, 48, 55, 52, 65, 52, 48, 48, 55, 65, 54, 48, 48, 55, 66, 48, 52, 48, 48, 55, 69, 66, 48, 48, 55, 70, 51, 52, 48, 48, 55, 70, 68, 48, 48, 55, 70, 68, 52, 48, 48, 56, 49, 54, 48, 48, 56, 49, 57, 52, 48, 48, 56, 49, 66, 48, 48, 56, 50, 51, 52, 48, 48, 56, 50, 53, 48, 48, 56, 50, 55, 52, 48, 48, 56, 50, 57, 48, 48, 56, 50, 68, 52, 48, 48, 56, 53, 57, 48, 48, 56, 53, 66, 52, 48, 48, 56, 57, 48, 48, 48, 56, 57, 49, 55, 48, 48, 56, 57, 56, 48, 48, 56, 57, 70, 52, 48, 48, 56, 67, 65, 48, 48, 56, 69, 49, 52, 48, 48, 56, 69, 50, 48, 48, 56, 69, 50, 55, 48, 48, 56, 69, 51, 48, 48, 57, 48, 50, 52, 48, 48, 57, 48, 51, 48, 48, 57, 48, 51, 56, 48, 48, 57, 51, 65, 48, 48, 57, 51, 65, 52, 48, 48, 57, 51, 66, 48, 48, 57, 51, 66, 56, 48, 48, 57, 51, 67, 48, 48, 57, 51, 67, 52, 48, 48, 57, 51, 69, 48, 48, 57, 52, 48, 56, 48, 48, 57, 52, 49, 48, 48, 57, 52, 56, 52, 48, 48, 57, 52, 57, 48, 48, 57, 52, 67, 56, 48, 48, 57, 52, 68, 48, 48, 57, 52, 68, 52, 48, 48, 57, 52, 69, 48, 48, 57, 52, 70, 56, 48, 48, 57, 53, 49, 48, 48, 57, 53, 55, 52, 48, 48, 57, 54, 50, 48, 48, 57, 54, 51, 52, 48, 48, 57, 56, 49, 48, 48, 57, 56, 49, 52, 48, 48, 57, 56, 50, 48, 48, 57, 56, 51, 56, 48, 48, 57, 66, 67, 48, 48, 57, 66, 67, 52, 48, 48, 57, 66, 69, 48, 48, 57, 66, 69, 52, 48, 48, 57, 66, 70, 48, 48, 57, 67, 48, 56, 48, 48, 57, 67, 49, 48, 48, 57, 67, 52, 52, 48, 48, 57, 67, 55, 48, 48, 57, 67, 56, 56, 48, 48, 57, 67, 66, 48, 48, 57, 67, 67, 56, 48, 48, 57, 67, 68, 48, 48, 57, 67, 68, 52, 48, 48, 57, 68, 55, 48, 48, 57, 68, 55, 52, 48, 48, 57, 69, 50, 48, 48, 57, 69, 51, 52, 48, 48, 57, 70, 69, 48, 48, 57, 70, 69, 52, 48, 48, 65, 48, 49, 48, 48, 65, 48, 50, 52, 48, 48, 65, 48, 51, 48, 48, 65, 48, 51, 56, 48, 48, 65, 51, 67, 48, 48, 65, 51, 67, 52, 48, 48, 65, 51, 69, 48, 48, 65, 52, 48, 56, 48, 48, 65, 52, 49, 48, 48, 65, 52, 50, 52, 48, 48, 65, 52, 55, 48, 48, 65, 52, 56, 52, 48, 48, 65, 52, 66, 48, 48, 65, 52, 68, 52, 48, 48, 65, 53, 49, 48, 48, 65, 53, 49, 52, 48, 48, 65, 55, 48, 48, 48, 65, 55, 49, 52, 48, 48, 65, 55, 53, 48, 48, 65, 55, 53, 52, 48, 48, 65, 56, 49, 48, 48, 65, 56, 50, 52, 48, 48, 65, 56, 51, 48, 48, 65, 56, 51, 56, 48, 48, 65, 66, 67, 48, 48, 65, 66, 67, 52, 48, 48, 65, 66, 69, 48, 48, 65, 67, 48, 56, 48, 48, 65, 67, 49, 48, 48, 65, 67, 53, 52, 48, 48, 65, 67, 55, 48, 48, 65, 67, 56, 52, 48, 48, 65, 67, 57, 48, 48, 65, 67, 57, 56, 48, 48, 65, 67, 66, 48, 48, 65, 67, 67, 56, 48, 48, 65, 67, 68, 48, 48, 65, 67, 68, 52, 48, 48, 65, 69, 50, 48, 48, 65, 69, 51, 52, 48, 48, 65, 70, 65, 48, 48, 65, 70, 70, 52, 48, 48, 66, 48, 49, 48, 48, 66, 48, 49, 52, 48, 48, 66, 48, 50, 48, 48, 66, 48, 51, 56, 48, 48, 66, 51, 67, 48, 48, 66, 51, 67, 52, 48, 48, 66, 51, 69, 48, 48, 66, 51, 70, 52, 48, 48, 66, 52, 48, 48, 48, 66, 52, 48, 56, 48, 48, 66, 52, 49, 48, 48, 66, 52, 52, 52, 48, 48, 66, 52, 55, 48, 48, 66, 52, 56, 56, 48, 48, 66, 52, 66, 48, 48, 66, 52, 67, 56, 48, 48, 66, 52, 68, 48, 48, 66, 52, 68, 52, 48, 48, 66, 53, 53, 48, 48, 66, 53, 55, 52, 48, 48, 66, 54, 50, 48, 48, 66, 54, 51, 52, 48, 48, 66, 56, 50, 48, 48, 66, 56, 50, 52, 48, 48, 66, 66, 69, 48, 48, 66, 66, 69, 52, 48, 48, 66, 66, 70, 48, 48, 66, 66, 70, 56, 48, 48, 66, 67, 48, 48, 48, 66, 67, 48, 52, 48, 48, 66, 67, 49, 48, 48, 66, 67, 50, 56, 48, 48, 66, 67, 54, 48, 48, 66, 67, 56, 56, 48, 48, 66, 67, 65, 48, 48, 66, 67, 67, 56, 48, 48, 66, 67, 68, 48, 48, 66, 67, 68, 52, 48, 48, 66, 68, 55, 48, 48, 66, 68, 55, 52, 48, 48, 67, 48, 48, 48, 48, 67, 48, 48, 52, 48, 48, 67, 48, 49, 48, 48, 67, 48, 51, 56, 48, 48, 67, 48, 52, 48, 48, 67, 48, 52, 52, 48, 48, 67, 51, 67, 48, 48, 67, 51, 67, 52, 48, 48, 67, 51, 69, 48, 48, 67, 52, 48, 52, 48, 48, 67, 52, 49, 48, 48, 67, 52, 52, 56, 48, 48, 67, 52, 54, 48, 48, 67, 52, 56, 52, 48, 48, 67, 52, 65, 48, 48, 67, 52, 68, 52, 48, 48, 67, 53, 53, 48, 48, 67, 53, 54, 52, 48, 48, 67, 54, 50, 48, 48, 67, 54, 51, 52, 48, 48, 67, 56, 49, 48, 48, 67, 56, 49, 52, 48, 48, 67, 56, 50, 48, 48, 67, 56, 51, 56, 48, 48, 67, 66, 67, 48, 48, 67, 66, 67, 52, 48, 48, 67, 66, 69, 48, 48, 67, 66, 69, 56, 48, 48, 67, 66, 70, 48, 48, 67, 66, 70, 52, 48, 48, 67, 67, 48, 48, 48, 67, 67, 49, 56, 48, 48, 67, 67, 50, 48, 48, 67, 67, 50, 52, 48, 48, 67, 67, 51, 48, 48, 67, 67, 52, 56, 48, 48, 67, 67, 54, 48, 48, 67, 67, 54, 52, 48, 48, 67, 67, 55, 48, 48, 67, 67, 56, 56, 48, 48, 67, 67, 65, 48, 48, 67, 67, 66, 56, 48, 48, 67, 67, 67, 48, 48, 67, 67, 68, 52, 48, 48, 67, 68, 53, 48, 48, 67, 68, 54, 52, 48, 48, 67, 69, 50, 48, 48, 67, 69, 51, 52, 48, 48, 67, 70, 51, 48, 48, 67, 70, 51, 56, 48, 48, 68, 48, 48, 48, 48, 68, 48, 49, 52, 48, 48, 68, 48, 50, 48, 48, 68, 48, 51, 56, 48, 48, 68, 51, 66, 48, 48, 68, 51, 67, 52, 48, 48, 68, 51, 69, 48, 48, 68, 51, 69, 52, 48, 48, 68, 51, 70, 48, 48, 68, 52, 48, 56, 48, 48, 68, 52, 49, 48, 48, 68, 52, 52, 52, 48, 48, 68, 52, 54, 48, 48, 68, 52, 56, 56, 48, 48, 68, 52, 65, 48, 48, 68, 52, 67, 56, 48, 48, 68, 52, 68, 48, 48, 68, 52, 68, 52, 48, 48, 68, 52, 69, 48, 48, 68, 52, 69, 55, 48, 48, 68, 53, 55, 48, 48, 68, 53, 55, 52, 48, 48, 68, 54, 50, 48, 48, 68, 54, 51, 52, 48, 48, 68, 56, 49, 48, 48, 68, 56, 49, 52, 48, 48, 68, 56, 50, 48, 48, 68, 56, 51, 56, 48, 48, 68, 67, 65, 48, 48, 68, 67, 65, 52, 48, 48, 68, 67, 70, 48, 48, 68, 67, 70, 52, 48, 48, 68, 68, 48, 48, 48, 68, 68, 49, 56, 48, 48, 68, 68, 50, 48, 48, 68, 68, 52, 52, 48, 48, 68, 68, 54, 48, 48, 68, 68, 54, 52, 48, 48, 68, 68, 56, 48, 48, 68, 68, 69, 56, 48, 48, 68, 68, 70, 48, 48, 68, 68, 70, 52, 48, 48, 68, 70, 50, 48, 48, 68, 70, 51, 56, 48, 48, 69, 51, 49, 48, 48, 69, 51, 49, 52, 48, 48, 69, 51, 51, 48, 48, 69, 51, 51, 56, 48, 48, 69, 51, 52, 48, 48, 69, 51, 65, 52, 48, 48, 69, 52, 55, 48, 48, 69, 52, 69, 52, 48, 48, 69, 66, 49, 48, 48, 69, 66, 49, 52, 48, 48, 69, 66, 51, 48, 48, 69, 66, 51, 56, 48, 48, 69, 66, 52, 48, 48, 69, 66, 67, 52, 48, 48, 69, 67, 56, 48, 48, 69, 67, 69, 52, 48, 48, 70, 49, 56, 48, 48, 70, 49, 57, 52, 48, 48, 70, 51, 53, 48, 48, 70, 51, 53, 52, 48, 48, 70, 51, 55, 48, 48, 70, 51, 55, 52, 48, 48, 70, 51, 57, 48, 48, 70, 51, 57, 52, 48, 48, 70, 51, 69, 48, 48, 70, 51, 70, 56, 48, 48, 70, 55, 49, 48, 48, 70, 55, 69, 52, 48, 48, 70, 55, 70, 48, 48, 70, 55, 70, 56, 48, 48, 70, 56, 48, 48, 48, 70, 56, 52, 52, 48, 48, 70, 56, 54, 48, 48, 70, 56, 55, 52, 48, 48, 70, 56, 68, 48, 48, 70, 57, 55, 52, 48, 48, 70, 57, 57, 48, 48, 70, 66, 67, 52, 48, 48, 70, 67, 54, 48, 48, 70, 67, 54, 52, 48, 49, 48, 50, 68, 48, 49, 48, 51, 48, 52, 48, 49, 48, 51, 49, 48, 49, 48, 51, 49, 56, 48, 49, 48, 51, 50, 48, 49, 48, 51, 55, 52, 48, 49, 48, 51, 57, 48, 49, 48, 51, 65, 52, 48, 49, 48, 51, 66, 48, 49, 48, 51, 67, 56, 48, 49, 48, 51, 68, 48, 49, 48, 51, 69, 52, 48, 49, 48, 53, 54, 48, 49, 48, 53, 55, 56, 48, 49, 48, 53, 56, 48, 49, 48, 53, 57, 52, 48, 49, 48, 53, 69, 48, 49, 48, 54, 48, 52, 48, 49, 48, 55, 49, 48, 49, 48, 55, 52, 52, 48, 49, 48, 56, 50, 48, 49, 48, 56, 50, 52, 48, 49, 48, 56, 52, 48, 49, 48, 56, 52, 56, 48, 49, 48, 56, 53, 48, 49, 48, 56, 54, 52, 48, 49, 48, 56, 68, 48, 49, 48, 56, 68, 52, 48, 49, 48, 57, 68, 48, 49, 48, 57, 68, 52, 48, 49, 49, 48, 48, 48, 49, 49, 53, 70, 57, 48, 49, 49, 54, 48, 48, 49, 49, 65, 55, 65, 48, 49, 49, 65, 56, 48, 49, 49, 70, 70, 66, 48, 49, 51, 53, 68, 48, 49, 51, 53, 70, 52, 48, 49, 55, 66, 52, 48, 49, 55, 66, 53, 52, 48, 49, 55, 66, 54, 48, 49, 55, 66, 54, 56, 48, 49, 55, 66, 55, 48, 49, 55, 66, 68, 52, 48, 49, 55, 66, 69, 48, 49, 55, 67, 53, 56, 48, 49, 55, 67, 54, 48, 49, 55, 67, 54, 52, 48, 49, 55, 67, 55, 48, 49, 55, 67, 56, 56, 48, 49, 55, 67, 57, 48, 49, 55, 68, 51, 52, 48, 49, 55, 68, 68, 48, 49, 55, 68, 68, 52, 48, 49, 56, 48, 66, 48, 49, 56, 48, 68, 52, 48, 49, 56, 48, 69, 48, 49, 56, 48, 69, 51, 48, 49, 56, 48, 70, 48, 49, 56, 48, 70, 52, 48, 49, 56, 65, 57, 48, 49, 56, 65, 57, 52, 48, 49, 65, 66, 48, 48, 49, 65, 67, 69, 52, 48, 49, 68, 67, 48, 48, 49, 68, 70, 70, 52, 48, 50, 48, 48, 66, 48, 50, 48, 48, 66, 51, 48, 50, 48, 48, 67, 48, 50, 48, 48, 67, 52, 48, 50, 48, 48, 68, 48, 50, 48, 48, 68, 53, 48, 50, 48, 48, 69, 48, 50, 48, 48, 70, 51, 48, 50, 48, 50, 56, 48, 50, 48, 50, 69, 51, 48, 50, 48, 51, 67, 48, 50, 48, 51, 67, 69, 48, 50, 48, 52, 57, 48, 50, 48, 52, 57, 69, 48, 50, 48, 54, 48, 48, 50, 48, 54, 70, 51, 48, 50, 48, 68, 48, 48, 50, 48, 70, 48, 52, 48, 50, 49, 50, 50, 48, 50, 49, 50, 50, 69, 48, 50, 49, 51, 57, 48, 50, 49, 51, 57, 69, 48, 50, 49, 57, 52, 48, 50, 49, 57, 57, 69, 48, 50, 49, 65, 57, 48, 50, 49, 65, 65, 69, 48, 50, 51, 49, 65, 48, 50, 51, 49, 66, 69, 48, 50, 51, 50, 56, 48, 50, 51, 50, 56, 69, 48, 50, 51, 56, 56, 48, 50, 51, 56, 56, 69, 48, 50, 51, 67, 70, 48, 50, 51, 67, 70, 69, 48, 50, 51, 69, 57, 48, 50, 51, 70, 51, 69, 48, 50, 51, 70, 56, 48, 50, 51, 70, 65, 69, 48, 50, 52, 67, 50, 48, 50, 52, 67, 50, 69, 48, 50, 53, 65, 65, 48, 50, 53, 65, 66, 69, 48, 50, 53, 66, 54, 48, 50, 53, 66, 54, 69, 48, 50, 53, 67, 48, 48, 50, 53, 67, 48, 69, 48, 50, 53, 70, 66, 48, 50, 53, 70, 69, 69, 48, 50, 54, 48, 48, 48, 50, 54, 48, 53, 69, 48, 50, 54, 48, 55, 48, 50, 54, 49, 50, 69, 48, 50, 54, 49, 52, 48, 50, 54, 56, 53, 69, 48, 50, 54, 57, 48, 48, 50, 55, 48, 53, 69, 48, 50, 55, 48, 56, 48, 50, 55, 49, 50, 69, 48, 50, 55, 49, 52, 48, 50, 55, 49, 52, 69, 48, 50, 55, 49, 54, 48, 50, 55, 49, 54, 69, 48, 50, 55, 49, 68, 48, 50, 55, 49, 68, 69, 48, 50, 55, 50, 49, 48, 50, 55, 50, 49, 69, 48, 50, 55, 50, 56, 48, 50, 55, 50, 56, 69, 48, 50, 55, 51, 51, 48, 50, 55, 51, 52, 69, 48, 50, 55, 52, 52, 48, 50, 55, 52, 52, 69, 48, 50, 55, 52, 55, 48, 50, 55, 52, 55, 69, 48, 50, 55, 52, 67, 48, 50, 55, 52, 67, 69, 48, 50, 55, 52, 69, 48, 50, 55, 52, 69, 69, 48, 50, 55, 53, 51, 48, 50, 55, 53, 53, 69, 48, 50, 55, 53, 55, 48, 50, 55, 53, 55, 69, 48, 50, 55, 54, 51, 48, 50, 55, 54, 55, 69, 48, 50, 55, 57, 53, 48, 50, 55, 57, 55, 69, 48, 50, 55, 65, 49, 48, 50, 55, 65, 49, 69, 48, 50, 55, 66, 48, 48, 50, 55, 66, 48, 69, 48, 50, 55, 66, 70, 48, 50, 55, 66, 70, 69, 48, 50, 57, 51, 52, 48, 50, 57, 51, 53, 69, 48, 50, 66, 48, 53, 48, 50, 66, 48, 55, 69, 48, 50, 66, 49, 66, 48, 50, 66, 49, 67, 69, 48, 50, 66, 53, 48, 48, 50, 66, 53, 48, 69, 48, 50, 66, 53, 53, 48, 50, 66, 53, 53, 69, 48, 51, 48, 50, 65, 48, 51, 48, 50, 70, 52, 48, 51, 48, 51, 48, 48, 51, 48, 51, 48, 69, 48, 51, 48, 51, 68, 48, 51, 48, 51, 68, 69, 48, 51, 48, 57, 57, 48, 51, 48, 57, 65, 52, 48, 51, 50, 57, 55, 48, 51, 50, 57, 55, 69, 48, 51, 50, 57, 57, 48, 51, 50, 57, 57, 69, 48, 65, 54, 54, 70, 48, 65, 54, 55, 50, 52, 48, 65, 54, 55, 52, 48, 65, 54, 55, 68, 52, 48, 65, 54, 57, 69, 48, 65, 54, 57, 70, 52, 48, 65, 54, 70, 48, 48, 65, 54, 70, 49, 52, 48, 65, 57, 54, 48, 48, 65, 57, 55, 67, 57, 48, 68, 55, 66, 48, 48, 68, 55, 67, 54, 65, 48, 68, 55, 67, 66, 48, 68, 55, 70, 66, 66, 48, 70, 66, 49, 69, 48, 70, 66, 49, 69, 52, 48, 70, 69, 48, 48, 48, 70, 69, 48, 70, 52, 48, 70, 69, 50, 48, 48, 70, 69, 50, 70, 52, 48, 70, 69, 70, 70, 48, 70, 69, 70, 70, 51, 48, 70, 70, 57, 69, 48, 70, 70, 57, 70, 52, 48, 70, 70, 70, 48, 48, 70, 70, 70, 66, 51, 49, 48, 49, 70, 68, 49, 48, 49, 70, 68, 52, 49, 49, 48, 66, 68, 49, 49, 48, 66, 68, 55, 49, 49, 48, 67, 68, 49, 49, 48, 67, 68, 55, 49, 49, 49, 67, 50, 49, 49, 49, 67, 51, 55, 49, 51, 52, 51, 48, 49, 51, 52, 51, 70, 51, 49, 66, 67, 65, 48, 49, 66, 67, 65, 51, 51, 49, 68, 49, 54, 53, 49, 68, 49, 54, 53, 52, 49, 68, 49, 54, 55, 49, 68, 49, 54, 57, 52, 49, 68, 49, 54, 69, 49, 68, 49, 55, 50, 52, 49, 68, 49, 55, 51, 49, 68, 49, 55, 65, 51, 49, 68, 49, 55, 66, 49, 68, 49, 56, 50, 52, 49, 68, 49, 56, 53, 49, 68, 49, 56, 66, 52, 49, 68, 49, 65, 65, 49, 68, 49, 65, 68, 52, 49, 70, 48, 48, 48, 49, 70, 48, 70, 70, 69, 49, 70, 49, 48, 68, 49, 70, 49, 48, 70, 69, 49, 70, 49, 50, 70, 49, 70, 49, 50, 70, 69, 49, 70, 49, 54, 67, 49, 70, 49, 55, 49, 69, 49, 70, 49, 55, 69, 49, 70, 49, 55, 70, 69, 49, 70, 49, 56, 69, 49, 70, 49, 56, 69, 69, 49, 70, 49, 57, 49, 49, 70, 49, 57, 65, 69, 49, 70, 49, 65, 68, 49, 70, 49, 69, 53, 69, 49, 70, 49, 69, 54, 49, 70, 49, 70, 70, 54, 49, 70, 50, 48, 49, 49, 70, 50, 48, 70, 69, 49, 70, 50, 49, 65, 49, 70, 50, 49, 65, 69, 49, 70, 50, 50, 70, 49, 70, 50, 50, 70, 69, 49, 70, 50, 51, 50, 49, 70, 50, 51, 65, 69, 49, 70, 50, 51, 67, 49, 70, 50, 51, 70, 69, 49, 70, 50, 52, 57, 49, 70, 51, 70, 65, 69, 49, 70, 51, 70, 66, 49, 70, 51, 70, 70, 52, 49, 70, 52, 48, 48, 49, 70, 53, 51, 68, 69, 49, 70, 53, 52, 54, 49, 70, 54, 52, 70, 69, 49, 70, 54, 56, 48, 49, 70, 54, 70, 70, 69, 49, 70, 55, 55, 52, 49, 70, 55, 55, 70, 69, 49, 70, 55, 68, 53, 49, 70, 55, 70, 70, 69, 49, 70, 56, 48, 67, 49, 70, 56, 48, 70, 69, 49, 70, 56, 52, 56, 49, 70, 56, 52, 70, 69, 49, 70, 56, 53, 65, 49, 70, 56, 53, 70, 69, 49, 70, 56, 56, 56, 49, 70, 56, 56, 70, 69, 49, 70, 56, 65, 69, 49, 70, 56, 70, 70, 69, 49, 70, 57, 48, 67, 49, 70, 57, 51, 65, 69, 49, 70, 57, 51, 67, 49, 70, 57, 52, 53, 69, 49, 70, 57, 52, 55, 49, 70, 65, 70, 70, 69, 49, 70, 67, 48, 48, 49, 70, 70, 70, 68, 69, 69, 48, 48, 48, 48, 69, 48, 48, 49, 70, 51, 69, 48, 48, 50, 48, 69, 48, 48, 55, 70, 52, 69, 48, 48, 56, 48, 69, 48, 48, 70, 70, 51, 69, 48, 49, 48, 48, 69, 48, 49, 69, 70, 52, 69, 48, 49, 70, 48, 69, 48, 70, 70, 70, 51] }
def bs_94cae01e : ByteArray := { data := #[48, 48, 48, 48, 57, 48, 48, 48, 48, 68, 49, 48, 48, 48, 50, 48, 48, 48, 48, 50, 48, 49, 48, 48, 48, 51, 48, 48, 48, 48, 51, 57, 50, 48, 48, 48, 52, 49, 48, 48, 48, 53, 65, 50, 48, 48, 48, 53, 70, 48, 48, 48, 53, 70, 50, 48, 48, 48, 54, 49, 48, 48, 48, 55, 65, 50, 48, 48, 48, 56, 53, 48, 48, 48, 56, 53, 49, 48, 48, 48, 65, 48, 48, 48, 48, 65, 48, 49, 48, 48, 48, 65, 65, 48, 48, 48, 65, 65, 50, 48, 48, 48, 66, 53, 48, 48, 48, 66, 53, 50, 48, 48, 48, 66, 65, 48, 48, 48, 66, 65, 50, 48, 48, 48, 67, 48, 48, 48, 48, 68, 54, 50, 48, 48, 48, 68, 56, 48, 48, 48, 70, 54, 50, 48, 48, 48, 70, 56, 48, 48, 50, 67, 49, 50, 48, 48, 51, 48, 48, 48, 48, 51, 55, 52, 50, 48, 48, 51, 55, 54, 48, 48, 51, 55, 68, 50, 48, 48, 51, 55, 70, 48, 48, 51, 55, 70, 50, 48, 48, 51, 56, 54, 48, 48, 51, 56, 54, 50, 48, 48, 51, 56, 56, 48, 48, 51, 70, 53, 50, 48, 48, 51, 70, 55, 48, 48, 52, 56, 49, 50, 48, 48, 52, 56, 51, 48, 48, 53, 50, 70, 50, 48, 48, 53, 51, 49, 48, 48, 53, 53, 54, 50, 48, 48, 53, 54, 48, 48, 48, 53, 56, 56, 50, 48, 48, 53, 57, 49, 48, 48, 53, 66, 68, 50, 48, 48, 53, 68, 48, 48, 48, 53, 69, 65, 50, 48, 48, 54, 49, 48, 48, 48, 54, 49, 65, 50, 48, 48, 54, 50, 48, 48, 48, 54, 54, 57, 50, 48, 48, 54, 54, 69, 48, 48, 54, 68, 51, 50, 48, 48, 54, 68, 53, 48, 48, 54, 68, 67, 50, 48, 48, 54, 68, 70, 48, 48, 54, 69, 56, 50, 48, 48, 54, 69, 65, 48, 48, 54, 70, 67, 50, 48, 48, 55, 49, 48, 48, 48, 55, 52, 65, 50, 48, 48, 57, 48, 48, 48, 48, 57, 54, 51, 50, 48, 48, 57, 54, 54, 48, 48, 57, 54, 70, 50, 48, 48, 57, 55, 49, 48, 48, 68, 70, 51, 50, 48, 48, 69, 48, 49, 48, 48, 69, 51, 65, 50, 48, 48, 69, 52, 48, 48, 48, 69, 52, 69, 50, 48, 48, 69, 53, 48, 48, 48, 69, 53, 57, 50, 48, 48, 69, 56, 49, 48, 48, 69, 68, 70, 50, 48, 48, 70, 49, 56, 48, 48, 70, 51, 57, 50, 48, 48, 70, 52, 48, 48, 48, 70, 56, 52, 50, 48, 48, 70, 57, 48, 48, 48, 70, 66, 67, 50, 48, 49, 48, 48, 48, 48, 49, 48, 52, 57, 50, 48, 49, 48, 53, 48, 48, 49, 48, 57, 68, 50, 48, 49, 48, 65, 48, 48, 49, 48, 70, 65, 50, 48, 49, 48, 70, 67, 48, 49, 49, 70, 70, 50, 48, 49, 50, 48, 48, 48, 49, 51, 53, 70, 50, 48, 49, 54, 56, 48, 48, 49, 54, 56, 48, 49, 48, 49, 55, 56, 48, 48, 49, 55, 68, 51, 50, 48, 49, 69, 48, 48, 48, 49, 70, 70, 67, 50, 48, 50, 48, 48, 48, 48, 50, 48, 48, 65, 49, 48, 50, 48, 50, 56, 48, 50, 48, 50, 57, 49, 48, 50, 48, 50, 70, 48, 50, 48, 50, 70, 49, 48, 50, 48, 53, 70, 48, 50, 48, 53, 70, 49, 48, 50, 49, 50, 54, 48, 50, 49, 50, 54, 50, 48, 50, 49, 50, 65, 48, 50, 49, 50, 66, 50, 48, 50, 49, 54, 48, 48, 50, 49, 56, 56, 50, 48, 51, 48, 48, 48, 48, 51, 48, 48, 48, 49, 48, 51, 48, 48, 53, 48, 51, 48, 48, 55, 50, 48, 51, 48, 50, 49, 48, 51, 48, 50, 70, 50, 48, 51, 48, 52, 49, 48, 51, 48, 57, 54, 50, 48, 51, 48, 57, 57, 48, 51, 48, 57, 65, 50, 48, 51, 48, 57, 68, 48, 51, 48, 57, 70, 50, 48, 51, 48, 65, 49, 48, 51, 48, 70, 65, 50, 48, 51, 48, 70, 67, 48, 51, 48, 70, 70, 50, 48, 51, 49, 48, 53, 48, 51, 49, 50, 70, 50, 48, 51, 49, 51, 49, 48, 51, 49, 56, 69, 50, 48, 51, 52, 48, 48, 48, 52, 68, 66, 70, 50, 48, 52, 69, 48, 48, 48, 57, 70, 70, 70, 50, 48, 65, 57, 54, 48, 48, 65, 57, 55, 67, 50, 48, 65, 67, 48, 48, 48, 68, 55, 65, 51, 50, 48, 68, 55, 66, 48, 48, 68, 55, 70, 66, 50, 48, 70, 57, 48, 48, 48, 70, 65, 70, 70, 50, 48, 70, 66, 49, 68, 48, 70, 66, 52, 70, 50, 48, 70, 70, 49, 48, 48, 70, 70, 49, 57, 50, 48, 70, 70, 50, 49, 48, 70, 70, 51, 65, 50, 48, 70, 70, 52, 49, 48, 70, 70, 53, 65, 50, 48, 70, 70, 54, 54, 48, 70, 70, 68, 67, 50, 49, 48, 52, 48, 48, 49, 48, 52, 52, 70, 50, 50, 48, 48, 48, 48, 50, 70, 65, 49, 70, 50, 51, 48, 48, 48, 48, 51, 50, 51, 65, 70, 50] }
abbrev c26 : List Cell := [.int .i64, .sl, .sl, .sl]
abbrev c31 : List Cell := [.int .i64, .int .i64, .int .i64]
abbrev c33 : List Cell := [.int .i64, .int .i64, .int .i64, .int .i64, .int .i64, .int .i64, .bool]
abbrev c36 : List Cell := [.int .i64, .int .i64, .int .i64, .int .i64]
abbrev c43 : List Cell := [.int .i64, .int .i64, .int .i64]
abbrev c62 : List Cell := [.int .i64, .int .i64, .int .i64]
abbrev c72 : List Cell := [.int .i64, .int .i64, .int .i64, .int .i64, .int .i64, .sl, .sl]
abbrev c84 : List Cell := [.ptr]
abbrev c86 : List Cell := [.int .i64, .int .i64, .ptr, .sl]
abbrev c91 : List Cell := [.int .i64, .int .i64, .int .i64, .bool, .bool]
abbrev c93 : List Cell := [.sl, .int .i64, .int .i64, .int .i64, .int .i64, .bool, .bool]
abbrev c103 : List Cell := [.int .i64, .int .i64, .sl]
abbrev c108 : List Cell := [.int .i64, .int .i64, .int .i64, .int .i64]
abbrev c114 : List Cell := [.ptr, .int .i64, .int .i64, .int .i64, .bool, .int .i64, .int .i64, .bool, .bool, .int .i64, .int .i64, .int .i64, .int .i64, .int .i64, .sl, .sl]
abbrev c139 : List Cell := [.ptr, .ptr, .sl, .int .i64, .int .i64, .int .i64, .int .i64, .bool, .bool, .int .i64, .int .i64, .int .i64, .int .i64, .int .i64, .bool, .bool]
abbrev c146 : List Cell := []
abbrev c148 : List Cell := [.int .i64]
abbrev c149 : List Cell := []
abbrev c153 : List Cell := [.ptr, .int .i64, .int .i64, .int .i64, .int .i64, .int .i64, .sl, .sl, .int .i64, .int .i64, .bool]
abbrev c187 : List Cell := [.int .u8, .int .u8, .int .u8, .int .u8, .int .u8]
abbrev c190 : List Cell := [.int .u8, .int .u8]
noncomputable def i0 : Inf := ⟨Tryz.t0.desc, Tryz.t0.size, Tryz.t0.bytes, Tryz.t0.zero, (.one .any), (.tup [])⟩
theorem i0_ok : InfOk Tryz.prog 0 i0 := ⟨by kernel_rfl, by kernel_rfl, by kernel_rfl⟩
noncomputable def i3 : Inf := ⟨Tryz.t3.desc, Tryz.t3.size, Tryz.t3.bytes, Tryz.t3.zero, (.one (.int .i64)), (.one (.one (.int .i64)))⟩
theorem i3_ok : InfOk Tryz.prog 3 i3 := ⟨by kernel_rfl, by kernel_rfl, by kernel_rfl⟩
noncomputable def i4 : Inf := ⟨Tryz.t4.desc, Tryz.t4.size, Tryz.t4.bytes, Tryz.t4.zero, (.one .bool), (.one (.one .bool))⟩
theorem i4_ok : InfOk Tryz.prog 4 i4 := ⟨by kernel_rfl, by kernel_rfl, by kernel_rfl⟩
noncomputable def i5 : Inf := ⟨Tryz.t5.desc, Tryz.t5.size, Tryz.t5.bytes, Tryz.t5.zero, (.one (.int .u8)), (.one (.one (.int .u8)))⟩
theorem i5_ok : InfOk Tryz.prog 5 i5 := ⟨by kernel_rfl, by kernel_rfl, by kernel_rfl⟩
noncomputable def i9 : Inf := ⟨Tryz.t9.desc, Tryz.t9.size, Tryz.t9.bytes, Tryz.t9.zero, (.one .str), (.one (.one .str))⟩
theorem i9_ok : InfOk Tryz.prog 9 i9 := ⟨by kernel_rfl, by kernel_rfl, by kernel_rfl⟩
noncomputable def i21 : Inf := ⟨Tryz.t21.desc, Tryz.t21.size, Tryz.t21.bytes, Tryz.t21.zero, (.one (.int .i32)), (.one (.one (.int .i32)))⟩
theorem i21_ok : InfOk Tryz.prog 21 i21 := ⟨by kernel_rfl, by kernel_rfl, by kernel_rfl⟩
noncomputable def i22 : Inf := ⟨Tryz.t22.desc, Tryz.t22.size, Tryz.t22.bytes, Tryz.t22.zero, (.one .sl), (.one (.one .sl))⟩
theorem i22_ok : InfOk Tryz.prog 22 i22 := ⟨by kernel_rfl, by kernel_rfl, by kernel_rfl⟩
noncomputable def i23 : Inf := ⟨Tryz.t23.desc, Tryz.t23.size, Tryz.t23.bytes, Tryz.t23.zero, (.one .sl), (.one (.one .sl))⟩
theorem i23_ok : InfOk Tryz.prog 23 i23 := ⟨by kernel_rfl, by kernel_rfl, by kernel_rfl⟩
noncomputable def i24 : Inf := ⟨Tryz.t24.desc, Tryz.t24.size, Tryz.t24.bytes, Tryz.t24.zero, (.one .sl), (.one (.one .sl))⟩
theorem i24_ok : InfOk Tryz.prog 24 i24 := ⟨by kernel_rfl, by kernel_rfl, by kernel_rfl⟩
noncomputable def i26 : Inf := ⟨Tryz.t25.desc, Tryz.t26.size, Tryz.t26.bytes, Tryz.t26.zero, (.agg c26), (.one (.agg c26))⟩
theorem i26_ok : InfOk Tryz.prog 26 i26 := ⟨by kernel_rfl, by kernel_rfl, by kernel_rfl⟩
noncomputable def i27 : Inf := ⟨Tryz.t27.desc, Tryz.t27.size, Tryz.t27.bytes, Tryz.t27.zero, (.one .ptr), (.one (.one .ptr))⟩
theorem i27_ok : InfOk Tryz.prog 27 i27 := ⟨by kernel_rfl, by kernel_rfl, by kernel_rfl⟩
noncomputable def i28 : Inf := ⟨Tryz.t28.desc, Tryz.t28.size, Tryz.t28.bytes, Tryz.t28.zero, (.one .any), (.tup [(.one .ptr), (.one .bool)])⟩
theorem i28_ok : InfOk Tryz.prog 28 i28 := ⟨by kernel_rfl, by kernel_rfl, by kernel_rfl⟩
noncomputable def i31 : Inf := ⟨Tryz.t30.desc, Tryz.t31.size, Tryz.t31.bytes, Tryz.t31.zero, (.agg c31), (.one (.agg c31))⟩
theorem i31_ok : InfOk Tryz.prog 31 i31 := ⟨by kernel_rfl, by kernel_rfl, by kernel_rfl⟩
noncomputable def i33 : Inf := ⟨Tryz.t32.desc, Tryz.t33.size, Tryz.t33.bytes, Tryz.t33.zero, (.agg c33), (.one (.agg c33))⟩
theorem i33_ok : InfOk Tryz.prog 33 i33 := ⟨by kernel_rfl, by kernel_rfl, by kernel_rfl⟩
noncomputable def i36 : Inf := ⟨Tryz.t35.desc, Tryz.t36.size, Tryz.t36.bytes, Tryz.t36.zero, (.agg c36), (.one (.agg c36))⟩
theorem i36_ok : InfOk Tryz.prog 36 i36 := ⟨by kernel_rfl, by kernel_rfl, by kernel_rfl⟩
noncomputable def i37 : Inf := ⟨Tryz.t37.desc, Tryz.t37.size, Tryz.t37.bytes, Tryz.t37.zero, (.one .sl), (.one (.one .sl))⟩
theorem i37_ok : InfOk Tryz.prog 37 i37 := ⟨by kernel_rfl, by kernel_rfl, by kernel_rfl⟩
noncomputable def i38 : Inf := ⟨Tryz.t38.desc, Tryz.t38.size, Tryz.t38.bytes, Tryz.t38.zero, (.one .any), (.tup [(.agg c36), (.one .sl), (.one .bool)])⟩
theorem i38_ok : InfOk Tryz.prog 38 i38 := ⟨by kernel_rfl, by kernel_rfl, by kernel_rfl⟩
noncomputable def i43 : Inf := ⟨Tryz.t42.desc, Tryz.t43.size, Tryz.t43.bytes, Tryz.t43.zero, (.agg c43), (.one (.agg c43))⟩
theorem i43_ok : InfOk Tryz.prog 43 i43 := ⟨by kernel_rfl, by kernel_rfl, by kernel_rfl⟩
noncomputable def i44 : Inf := ⟨Tryz.t3.desc, Tryz.t44.size, Tryz.t44.bytes, Tryz.t44.zero, (.one (.int .i64)), (.one (.one (.int .i64)))⟩
theorem i44_ok : InfOk Tryz.prog 44 i44 := ⟨by kernel_rfl, by kernel_rfl, by kernel_rfl⟩
noncomputable def i45 : Inf := ⟨Tryz.t45.desc, Tryz.t45.size, Tryz.t45.bytes, Tryz.t45.zero, (.one .any), (.tup [(.agg c43), (.one (.int .i64))])⟩
theorem i45_ok : InfOk Tryz.prog 45 i45 := ⟨by kernel_rfl, by kernel_rfl, by kernel_rfl⟩
noncomputable def i53 : Inf := ⟨Tryz.t53.desc, Tryz.t53.size, Tryz.t53.bytes, Tryz.t53.zero, (.one .any), (.tup [(.one .ptr), (.one (.int .i64))])⟩
theorem i53_ok : InfOk Tryz.prog 53 i53 := ⟨by kernel_rfl, by kernel_rfl, by kernel_rfl⟩
noncomputable def i62 : Inf := ⟨Tryz.t61.desc, Tryz.t62.size, Tryz.t62.bytes, Tryz.t62.zero, (.agg c62), (.one (.agg c62))⟩
theorem i62_ok : InfOk Tryz.prog 62 i62 := ⟨by kernel_rfl, by kernel_rfl, by kernel_rfl⟩
noncomputable def i63 : Inf := ⟨Tryz.t63.desc, Tryz.t63.size, Tryz.t63.bytes, Tryz.t63.zero, (.one .any), (.tup [(.agg c62), (.one (.int .i64))])⟩
theorem i63_ok : InfOk Tryz.prog 63 i63 := ⟨by kernel_rfl, by kernel_rfl, by kernel_rfl⟩
noncomputable def i69 : Inf := ⟨Tryz.t69.desc, Tryz.t69.size, Tryz.t69.bytes, Tryz.t69.zero, (.one .sl), (.one (.one .sl))⟩
theorem i69_ok : InfOk Tryz.prog 69 i69 := ⟨by kernel_rfl, by kernel_rfl, by kernel_rfl⟩
noncomputable def i72 : Inf := ⟨Tryz.t71.desc, Tryz.t72.size, Tryz.t72.bytes, Tryz.t72.zero, (.agg c72), (.one (.agg c72))⟩
theorem i72_ok : InfOk Tryz.prog 72 i72 := ⟨by kernel_rfl, by kernel_rfl, by kernel_rfl⟩
noncomputable def i76 : Inf := ⟨Tryz.t76.desc, Tryz.t76.size, Tryz.t76.bytes, Tryz.t76.zero, (.one .any), (.tup [(.agg c36), (.one (.int .i64))])⟩
theorem i76_ok : InfOk Tryz.prog 76 i76 := ⟨by kernel_rfl, by kernel_rfl, by kernel_rfl⟩
noncomputable def i82 : Inf := ⟨Tryz.t82.desc, Tryz.t82.size, Tryz.t82.bytes, Tryz.t82.zero, (.one .ptr), (.one (.one .ptr))⟩
theorem i82_ok : InfOk Tryz.prog 82 i82 := ⟨by kernel_rfl, by kernel_rfl, by kernel_rfl⟩
noncomputable def i84 : Inf := ⟨Tryz.t83.desc, Tryz.t84.size, Tryz.t84.bytes, Tryz.t84.zero, (.agg c84), (.one (.agg c84))⟩
theorem i84_ok : InfOk Tryz.prog 84 i84 := ⟨by kernel_rfl, by kernel_rfl, by kernel_rfl⟩
noncomputable def i86 : Inf := ⟨Tryz.t85.desc, Tryz.t86.size, Tryz.t86.bytes, Tryz.t86.zero, (.agg c86), (.one (.agg c86))⟩
theorem i86_ok : InfOk Tryz.prog 86 i86 := ⟨by kernel_rfl, by kernel_rfl, by kernel_rfl⟩
noncomputable def i87 : Inf := ⟨Tryz.t87.desc, Tryz.t87.size, Tryz.t87.bytes, Tryz.t87.zero, (.one .sl), (.one (.one .sl))⟩
theorem i87_ok : InfOk Tryz.prog 87 i87 := ⟨by kernel_rfl, by kernel_rfl, by kernel_rfl⟩
noncomputable def i88 : Inf := ⟨Tryz.t88.desc, Tryz.t88.size, Tryz.t88.bytes, Tryz.t88.zero, (.one .any), (.tup [(.one (.int .i64)), (.one (.int .i64))])⟩
theorem i88_ok : InfOk Tryz.prog 88 i88 := ⟨by kernel_rfl, by kernel_rfl, by kernel_rfl⟩
noncomputable def i91 : Inf := ⟨Tryz.t90.desc, Tryz.t91.size, Tryz.t91.bytes, Tryz.t91.zero, (.agg c91), (.one (.agg c91))⟩
theorem i91_ok : InfOk Tryz.prog 91 i91 := ⟨by kernel_rfl, by kernel_rfl, by kernel_rfl⟩
noncomputable def i93 : Inf := ⟨Tryz.t92.desc, Tryz.t93.size, Tryz.t93.bytes, Tryz.t93.zero, (.agg c93), (.one (.agg c93))⟩
theorem i93_ok : InfOk Tryz.prog 93 i93 := ⟨by kernel_rfl, by kernel_rfl, by kernel_rfl⟩
noncomputable def i97 : Inf := ⟨Tryz.t97.desc, Tryz.t97.size, Tryz.t97.bytes, Tryz.t97.zero, (.one .any), (.one (.one .any))⟩
theorem i97_ok : InfOk Tryz.prog 97 i97 := ⟨by kernel_rfl, by kernel_rfl, by kernel_rfl⟩
noncomputable def i100 : Inf := ⟨Tryz.t100.desc, Tryz.t100.size, Tryz.t100.bytes, Tryz.t100.zero, (.one .any), (.tup [(.one (.int .i64)), (.one .bool)])⟩
theorem i100_ok : InfOk Tryz.prog 100 i100 := ⟨by kernel_rfl, by kernel_rfl, by kernel_rfl⟩
noncomputable def i103 : Inf := ⟨Tryz.t102.desc, Tryz.t103.size, Tryz.t103.bytes, Tryz.t103.zero, (.agg c103), (.one (.agg c103))⟩
theorem i103_ok : InfOk Tryz.prog 103 i103 := ⟨by kernel_rfl, by kernel_rfl, by kernel_rfl⟩
noncomputable def i108 : Inf := ⟨Tryz.t107.desc, Tryz.t108.size, Tryz.t108.bytes, Tryz.t108.zero, (.agg c108), (.one (.agg c108))⟩
theorem i108_ok : InfOk Tryz.prog 108 i108 := ⟨by kernel_rfl, by kernel_rfl, by kernel_rfl⟩
noncomputable def i111 : Inf := ⟨Tryz.t110.desc, Tryz.t111.size, Tryz.t111.bytes, Tryz.t111.zero, (.one .any), (.one (.one .any))⟩
theorem i111_ok : InfOk Tryz.prog 111 i111 := ⟨by kernel_rfl, by kernel_rfl, by kernel_rfl⟩
noncomputable def i114 : Inf := ⟨Tryz.t113.desc, Tryz.t114.size, Tryz.t114.bytes, Tryz.t114.zero, (.agg c114), (.one (.agg c114))⟩
theorem i114_ok : InfOk Tryz.prog 114 i114 := ⟨by kernel_rfl, by kernel_rfl, by kernel_rfl⟩
noncomputable def i118 : Inf := ⟨Tryz.t117.desc, Tryz.t118.size, Tryz.t118.bytes, Tryz.t118.zero, (.one .any), (.one (.one .any))⟩
theorem i118_ok : InfOk Tryz.prog 118 i118 := ⟨by kernel_rfl, by kernel_rfl, by kernel_rfl⟩
noncomputable def i126 : Inf := ⟨Tryz.t125.desc, Tryz.t126.size, Tryz.t126.bytes, Tryz.t126.zero, (.one .any), (.one (.one .any))⟩
theorem i126_ok : InfOk Tryz.prog 126 i126 := ⟨by kernel_rfl, by kernel_rfl, by kernel_rfl⟩
noncomputable def i128 : Inf := ⟨Tryz.t128.desc, Tryz.t128.size, Tryz.t128.bytes, Tryz.t128.zero, (.one .ptr), (.one (.one .ptr))⟩
theorem i128_ok : InfOk Tryz.prog 128 i128 := ⟨by kernel_rfl, by kernel_rfl, by kernel_rfl⟩
noncomputable def i131 : Inf := ⟨Tryz.t131.desc, Tryz.t131.size, Tryz.t131.bytes, Tryz.t131.zero, (.one .any), (.tup [(.agg c93), (.one .bool)])⟩
theorem i131_ok : InfOk Tryz.prog 131 i131 := ⟨by kernel_rfl, by kernel_rfl, by kernel_rfl⟩
noncomputable def i133 : Inf := ⟨Tryz.t133.desc, Tryz.t133.size, Tryz.t133.bytes, Tryz.t133.zero, (.one .any), (.tup [(.agg c93), (.agg c93)])⟩
theorem i133_ok : InfOk Tryz.prog 133 i133 := ⟨by kernel_rfl, by kernel_rfl, by kernel_rfl⟩
noncomputable def i136 : Inf := ⟨Tryz.t136.desc, Tryz.t136.size, Tryz.t136.bytes, Tryz.t136.zero, (.one .any), (.tup [(.agg c84), (.one (.int .i64))])⟩
theorem i136_ok : InfOk Tryz.prog 136 i136 := ⟨by kernel_rfl, by kernel_rfl, by kernel_rfl⟩
noncomputable def i139 : Inf := ⟨Tryz.t138.desc, Tryz.t139.size, Tryz.t139.bytes, Tryz.t139.zero, (.agg c139), (.one (.agg c139))⟩
theorem i139_ok : InfOk Tryz.prog 139 i139 := ⟨by kernel_rfl, by kernel_rfl, by kernel_rfl⟩
noncomputable def i146 : Inf := ⟨Tryz.t145.desc, Tryz.t146.size, Tryz.t146.bytes, Tryz.t146.zero, (.agg c146), (.one (.agg c146))⟩
theorem i146_ok : InfOk Tryz.prog 146 i146 := ⟨by kernel_rfl, by kernel_rfl, by kernel_rfl⟩
noncomputable def i148 : Inf := ⟨Tryz.t147.desc, Tryz.t148.size, Tryz.t148.bytes, Tryz.t148.zero, (.agg c148), (.one (.agg c148))⟩
theorem i148_ok : InfOk Tryz.prog 148 i148 := ⟨by kernel_rfl, by kernel_rfl, by kernel_rfl⟩
noncomputable def i149 : Inf := ⟨Tryz.t145.desc, Tryz.t149.size, Tryz.t149.bytes, Tryz.t149.zero, (.agg c149), (.one (.agg c149))⟩
theorem i149_ok : InfOk Tryz.prog 149 i149 := ⟨by kernel_rfl, by kernel_rfl, by kernel_rfl⟩
noncomputable def i153 : Inf := ⟨Tryz.t152.desc, Tryz.t153.size, Tryz.t153.bytes, Tryz.t153.zero, (.agg c153), (.one (.agg c153))⟩
theorem i153_ok : InfOk Tryz.prog 153 i153 := ⟨by kernel_rfl, by kernel_rfl, by kernel_rfl⟩
noncomputable def i154 : Inf := ⟨Tryz.t154.desc, Tryz.t154.size, Tryz.t154.bytes, Tryz.t154.zero, (.one .any), (.one (.one .any))⟩
theorem i154_ok : InfOk Tryz.prog 154 i154 := ⟨by kernel_rfl, by kernel_rfl, by kernel_rfl⟩
noncomputable def i155 : Inf := ⟨Tryz.t155.desc, Tryz.t155.size, Tryz.t155.bytes, Tryz.t155.zero, (.one .any), (.one (.one .any))⟩
theorem i155_ok : InfOk Tryz.prog 155 i155 := ⟨by kernel_rfl, by kernel_rfl, by kernel_rfl⟩
noncomputable def i157 : Inf := ⟨Tryz.t157.desc, Tryz.t157.size, Tryz.t157.bytes, Tryz.t157.zero, (.one .any), (.tup [(.one .sl), (.one (.int .i64)), (.one (.int .i64))])⟩
theorem i157_ok : InfOk Tryz.prog 157 i157 := ⟨by kernel_rfl, by kernel_rfl, by kernel_rfl⟩
noncomputable def i159 : Inf := ⟨Tryz.t159.desc, Tryz.t159.size, Tryz.t159.bytes, Tryz.t159.zero, (.one .any), (.tup [(.one .ptr), (.one .ptr)])⟩
theorem i159_ok : InfOk Tryz.prog 159 i159 := ⟨by kernel_rfl, by kernel_rfl, by kernel_rfl⟩
noncomputable def i166 : Inf := ⟨Tryz.t166.desc, Tryz.t166.size, Tryz.t166.bytes, Tryz.t166.zero, (.one .any), (.tup [(.agg c93), (.one .ptr)])⟩
theorem i166_ok : InfOk Tryz.prog 166 i166 := ⟨by kernel_rfl, by kernel_rfl, by kernel_rfl⟩
noncomputable def i187 : Inf := ⟨Tryz.t187.desc, Tryz.t187.size, Tryz.t187.bytes, Tryz.t187.zero, (.agg c187), (.one (.agg c187))⟩
theorem i187_ok : InfOk Tryz.prog 187 i187 := ⟨by kernel_rfl, by kernel_rfl, by kernel_rfl⟩
noncomputable def i188 : Inf := ⟨Tryz.t188.desc, Tryz.t188.size, Tryz.t188.bytes, Tryz.t188.zero, (.one .any), (.tup [(.one (.int .i64)), (.one (.int .u8)), (.one (.int .u8))])⟩
theorem i188_ok : InfOk Tryz.prog 188 i188 := ⟨by kernel_rfl, by kernel_rfl, by kernel_rfl⟩
noncomputable def i190 : Inf := ⟨Tryz.t190.desc, Tryz.t190.size, Tryz.t190.bytes, Tryz.t190.zero, (.agg c190), (.one (.agg c190))⟩
theorem i190_ok : InfOk Tryz.prog 190 i190 := ⟨by kernel_rfl, by kernel_rfl, by kernel_rfl⟩
noncomputable def tab : Tab := ⟨[(0, i0), (3, i3), (4, i4), (5, i5), (9, i9), (21, i21), (22, i22), (23, i23), (24, i24), (26, i26), (27, i27), (28, i28), (31, i31), (33, i33), (36, i36), (37, i37), (38, i38), (43, i43), (44, i44), (45, i45), (53, i53), (62, i62), (63, i63), (69, i69), (72, i72), (76, i76), (82, i82), (84, i84), (86, i86), (87, i87), (88, i88), (91, i91), (93, i93), (97, i97), (100, i100), (103, i103), (108, i108), (111, i111), (114, i114), (118, i118), (126, i126), (128, i128), (131, i131), (133, i133), (136, i136), (139, i139), (146, i146), (148, i148), (149, i149), (153, i153), (154, i154), (155, i155), (157, i157), (159, i159), (166, i166), (187, i187), (188, i188), (190, i190)], [11, 12, 13, 14, 15, 16, 17, 18, 19, 20, 21, 22, 23, 24, 25, 26, 27, 28, 29, 30, 31, 32, 33, 34, 35, 36, 37, 38, 39, 40, 41, 42, 45, 48, 49, 50, 51, 53, 54, 55, 57, 59, 60, 61, 62, 63, 64, 65, 66, 67, 68, 69, 80, 81, 83, 92, 93, 94, 95, 99, 100, 102, 103, 104, 105, 106, 107, 108, 109, 110, 111, 112, 113, 114, 115, 116, 117, 118, 119, 120, 121, 122, 123, 124, 126, 127, 128, 129, 130, 131, 132, 133, 134, 137, 143, 144, 146, 147, 148, 149, 150, 151, 152, 153, 154, 155, 156, 157, 158, 159, 160, 161, 162, 188, 189, 190, 196, 197, 198, 199]⟩
theorem fnsOk : FnsOk Tryz.prog [11, 12, 13, 14, 15, 16, 17, 18, 19, 20, 21, 22, 23, 24, 25, 26, 27, 28, 29, 30, 31, 32, 33, 34, 35, 36, 37, 38, 39, 40, 41, 42, 45, 48, 49, 50, 51, 53, 54, 55, 57, 59, 60, 61, 62, 63, 64, 65, 66, 67, 68, 69, 80, 81, 83, 92, 93, 94, 95, 99, 100, 102, 103, 104, 105, 106, 107, 108, 109, 110, 111, 112, 113, 114, 115, 116, 117, 118, 119, 120, 121, 122, 123, 124, 126, 127, 128, 129, 130, 131, 132, 133, 134, 137, 143, 144, 146, 147, 148, 149, 150, 151, 152, 153, 154, 155, 156, 157, 158, 159, 160, 161, 162, 188, 189, 190, 196, 197, 198, 199] := ⟨by kernel_rfl, by kernel_rfl, by kernel_rfl, by kernel_rfl, by kernel_rfl, by kernel_rfl, by kernel_rfl, by kernel_rfl, by kernel_rfl, by kernel_rfl, by kernel_rfl, by kernel_rfl, by kernel_rfl, by kernel_rfl, by kernel_rfl, by kernel_rfl, by kernel_rfl, by kernel_rfl, by kernel_rfl, by kernel_rfl, by kernel_rfl, by kernel_rfl, by kernel_rfl, by kernel_rfl, by kernel_rfl, by kernel_rfl, by kernel_rfl, by kernel_rfl, by kernel_rfl, by kernel_rfl, by kernel_rfl, by kernel_rfl, by kernel_rfl, by kernel_rfl, by kernel_rfl, by kernel_rfl, by kernel_rfl, by kernel_rfl, by kernel_rfl, by kernel_rfl, by kernel_rfl, by kernel_rfl, by kernel_rfl, by kernel_rfl, by kernel_rfl, by kernel_rfl, by kernel_rfl, by kernel_rfl, by kernel_rfl, by kernel_rfl, by kernel_rfl, by kernel_rfl, by kernel_rfl, by kernel_rfl, by kernel_rfl, by kernel_rfl, by kernel_rfl, by kernel_rfl, by kernel_rfl, by kernel_rfl, by kernel_rfl, by kernel_rfl, by kernel_rfl, by kernel_rfl, by kernel_rfl, by kernel_rfl, by kernel_rfl, by kernel_rfl, by kernel_rfl, by kernel_rfl, by kernel_rfl, by kernel_rfl, by kernel_rfl, by kernel_rfl, by kernel_rfl, by kernel_rfl, by kernel_rfl, by kernel_rfl, by kernel_rfl, by kernel_rfl, by kernel_rfl, by kernel_rfl, by kernel_rfl, by kernel_rfl, by kernel_rfl, by kernel_rfl, by kernel_rfl, by kernel_rfl, by kernel_rfl, by kernel_rfl, by kernel_rfl, by kernel_rfl, by kernel_rfl, by kernel_rfl, by kernel_rfl, by kernel_rfl, by kernel_rfl, by kernel_rfl, by kernel_rfl, by kernel_rfl, by kernel_rfl, by kernel_rfl, by kernel_rfl, by kernel_rfl, by kernel_rfl, by kernel_rfl, by kernel_rfl, by kernel_rfl, by kernel_rfl, by kernel_rfl, by kernel_rfl, by kernel_rfl, by kernel_rfl, by kernel_rfl, by kernel_rfl, by kernel_rfl, by kernel_rfl, by kernel_rfl, by kernel_rfl, by kernel_rfl, trivial⟩
theorem tabOk : tab.Ok Tryz.prog := ⟨⟨i0_ok, i3_ok, i4_ok, i5_ok, i9_ok, i21_ok, i22_ok, i23_ok, i24_ok, i26_ok, i27_ok, i28_ok, i31_ok, i33_ok, i36_ok, i37_ok, i38_ok, i43_ok, i44_ok, i45_ok, i53_ok, i62_ok, i63_ok, i69_ok, i72_ok, i76_ok, i82_ok, i84_ok, i86_ok, i87_ok, i88_ok, i91_ok, i93_ok, i97_ok, i100_ok, i103_ok, i108_ok, i111_ok, i114_ok, i118_ok, i126_ok, i128_ok, i131_ok, i133_ok, i136_ok, i139_ok, i146_ok, i148_ok, i149_ok, i153_ok, i154_ok, i155_ok, i157_ok, i159_ok, i166_ok, i187_ok, i188_ok, i190_ok, trivial⟩, fnsOk, by kernel_rfl⟩
end Go.Proofs.YtolhlldgnfbemaaGreat
namespace Go.Proofs.YtolhlldgnfbemaaGreat
open Cdc
namespace Gly
structure Row where
 lo : Nat
 hi : Nat
 v : Nat
def digit (c : UInt8) : Nat := if 57 < c.toNat then c.toNat - 55 else c.toNat - 48
def num (l : Bs) : Nat := l.foldl (fun n c => n * 16 + digit c) 0
def okC (c : UInt8) : Bool := (Nat.ble 48 c.toNat && Nat.ble c.toNat 57) || (Nat.ble 65 c.toNat && Nat.ble c.toNat 70)
def rowsN : Nat → Bs → List Row
 | 0, _ => []
 | n + 1, l => ⟨num (l.take 5), num ((l.drop 5).take 5), num ((l.drop 10).take 1)⟩ :: rowsN n (l.drop 11)
def lkup : List Row → Nat → Nat
 | [], _ => 0
 | r :: t, a => bif Nat.ble r.lo a && Nat.ble a r.hi then r.v else lkup t a
def srt : Nat → List Row → Bool
 | _, [] => true
 | m, r :: t => Nat.ble m r.lo && (Nat.ble r.lo r.hi && srt (r.hi + 1) t)
theorem okC_iff (c : UInt8) : okC c = true ↔ (48 ≤ c.toNat ∧ c.toNat ≤ 57) ∨ (65 ≤ c.toNat ∧ c.toNat ≤ 70) := by
 simp [okC, Nat.ble_eq]
theorem rowsN_len : ∀ (n : Nat) (l : Bs), (rowsN n l).length = n
 | 0, _ => rfl
 | n + 1, l => by rw [rowsN, List.length_cons, rowsN_len]
theorem rowsN_get : ∀ (n : Nat) (l : Bs) (m : Nat), m < n → (rowsN n l)[m]? = some ⟨num ((l.drop (11 * m)).take 5), num ((l.drop (11 * m + 5)).take 5), num ((l.drop (11 * m + 10)).take 1)⟩
 | n + 1, l, 0, _ => by simp [rowsN]
 | n + 1, l, m + 1, h => by
  rw [rowsN, List.getElem?_cons_succ, rowsN_get n _ m (by omega)]
  simp only [List.drop_drop]
  rw [show 11 + 11 * m = 11 * (m + 1) by omega, show 11 + (11 * m + 5) = 11 * (m + 1) + 5 by omega, show 11 + (11 * m + 10) = 11 * (m + 1) + 10 by omega]
theorem srt_get : ∀ {T : List Row} {m : Nat}, srt m T = true → ∀ {i : Nat} {r : Row}, T[i]? = some r → m ≤ r.lo ∧ r.lo ≤ r.hi
 | [], _, _, i, r, hr => by simp at hr
 | x :: t, m, h, 0, r, hr => by
  cases hr
  simp only [srt, Bool.and_eq_true, Nat.ble_eq] at h
  exact ⟨h.1, h.2.1⟩
 | x :: t, m, h, i + 1, r, hr => by
  simp only [srt, Bool.and_eq_true, Nat.ble_eq] at h
  have := srt_get h.2.2 (i := i) (by simpa using hr)
  exact ⟨by omega, this.2⟩
theorem srt_lt : ∀ {T : List Row} {m : Nat}, srt m T = true → ∀ {i j : Nat} {r s : Row}, i < j → T[i]? = some r → T[j]? = some s → r.hi < s.lo
 | [], _, _, i, j, r, s, _, hr, _ => by simp at hr
 | x :: t, m, h, 0, j + 1, r, s, _, hr, hs => by
  cases hr
  simp only [srt, Bool.and_eq_true, Nat.ble_eq] at h
  have := srt_get h.2.2 (i := j) (by simpa using hs)
  omega
 | x :: t, m, h, i + 1, j + 1, r, s, hij, hr, hs => by
  simp only [srt, Bool.and_eq_true, Nat.ble_eq] at h
  exact srt_lt h.2.2 (i := i) (j := j) (by omega) (by simpa using hr) (by simpa using hs)
theorem lkup_none : ∀ {T : List Row} {a : Nat}, (∀ (i : Nat) (r : Row), T[i]? = some r → a < r.lo ∨ r.hi < a) → lkup T a = 0
 | [], _, _ => rfl
 | x :: t, a, h => by
  have h0 := h 0 x rfl
  have : (Nat.ble x.lo a && Nat.ble a x.hi) = false := by
   rw [Bool.eq_false_iff]
   simp only [ne_eq, Bool.and_eq_true, Nat.ble_eq]
   omega
  rw [lkup, this]
  exact lkup_none fun i r hr => h (i + 1) r (by simpa using hr)
theorem lkup_at : ∀ {T : List Row} {m a : Nat}, srt m T = true → ∀ {i : Nat} {r : Row}, T[i]? = some r → r.lo ≤ a → a ≤ r.hi → lkup T a = r.v
 | [], _, _, _, i, r, hr, _, _ => by simp at hr
 | x :: t, m, a, h, 0, r, hr, h1, h2 => by
  cases hr
  have : (Nat.ble x.lo a && Nat.ble a x.hi) = true := by simp only [Bool.and_eq_true, Nat.ble_eq]; omega
  rw [lkup, this]; rfl
 | x :: t, m, a, h, i + 1, r, hr, h1, h2 => by
  have hlt := srt_lt h (i := 0) (j := i + 1) (by omega) rfl hr
  have : (Nat.ble x.lo a && Nat.ble a x.hi) = false := by
   rw [Bool.eq_false_iff]
   simp only [ne_eq, Bool.and_eq_true, Nat.ble_eq]
   omega
  rw [lkup, this]
  simp only [srt, Bool.and_eq_true, Nat.ble_eq] at h
  exact lkup_at h.2.2 (i := i) (by simpa using hr) h1 h2
theorem num_lt : ∀ (l : Bs), l.all okC = true → num l < 16 ^ l.length := by
 have key : ∀ (l : Bs) (n k : Nat), l.all okC = true → n < 16 ^ k → l.foldl (fun n c => n * 16 + digit c) n < 16 ^ (k + l.length) := by
  intro l
  induction l with
  | nil => intro n k _ h; simpa using h
  | cons c r ih =>
   intro n k h hn
   simp only [List.all_cons, Bool.and_eq_true] at h
   have hc := (okC_iff c).1 h.1
   have hd : digit c < 16 := by unfold digit; split <;> omega
   rw [List.foldl_cons, List.length_cons, show k + (r.length + 1) = (k + 1) + r.length by omega]
   refine ih _ _ h.2 ?_
   rw [Nat.pow_succ]; omega
 intro l h
 have := key l 0 0 h (by simp)
 simpa [num] using this
noncomputable def clsT : List Row := rowsN 324 bs_88441808.data.toList
noncomputable def cnjT : List Row := rowsN 26 bs_29aed6ba.data.toList
noncomputable def wrdT : List Row := rowsN 81 bs_94cae01e.data.toList
instance (a : Int) : Decidable (Scalar a) := by unfold Scalar; infer_instance
noncomputable def cls (a : Int) : Nat :=
 if Scalar a then (if 44032 ≤ a ∧ a < 55204 then (if (a.toNat - 44032) % 28 = 0 then 12 else 13) else lkup clsT a.toNat) else 3
noncomputable def cnj (a : Int) : Nat :=
 if a = 2381 ∨ a = 2509 ∨ a = 2765 ∨ a = 2893 ∨ a = 3149 ∨ a = 3405 then 3 else if a = 8204 then 0 else if cls a = 4 ∨ cls a = 5 then 2 else if cls a = 0 ∧ Scalar a then lkup cnjT a.toNat else 0
noncomputable def wrd (a : Int) : Nat :=
 if Scalar a then (if lkup wrdT a.toNat = 2 then 2 else if lkup wrdT a.toNat = 1 then 0 else 1) else 1
end Gly
end Go.Proofs.YtolhlldgnfbemaaGreat
namespace Go.Proofs.YtolhlldgnfbemaaGreat
open Gly
namespace Clu
structure Sc where
 last : Nat
 flags : Nat
 pict : Nat
 conj : Nat
def Sc.zero : Sc := ⟨0, 0, 0, 0⟩
def Sc.note (s : Sc) (c p : Nat) : Sc :=
 ⟨c, if c = 6 then s.flags + 1 else 0, if c = 14 then 1 else if s.pict = 1 ∧ c = 5 then 2 else if s.pict = 1 ∧ c = 4 then s.pict else 0,
  if p = 1 then 1 else if 0 < s.conj ∧ p = 3 then 2 else if 0 < s.conj ∧ p = 2 then s.conj else 0⟩
def apart (c : Nat) : Bool := decide (c = 1 ∨ c = 2 ∨ c = 3)
def hangul (l r : Nat) : Bool :=
 decide ((l = 9 ∧ (r = 9 ∨ r = 10 ∨ r = 12 ∨ r = 13)) ∨ ((l = 12 ∨ l = 10) ∧ (r = 10 ∨ r = 11)) ∨ ((l = 13 ∨ l = 11) ∧ r = 11))
def joins (s : Sc) (c p : Nat) : Bool :=
 if s.last = 1 ∧ c = 2 then true else if apart s.last = true ∨ apart c = true then false else if c = 4 ∨ c = 5 ∨ c = 8 ∨ s.last = 7 then true else if hangul s.last c then true
 else if p = 1 ∧ s.conj = 2 then true else if c = 14 then s.pict == 2 else if c = 6 then s.flags % 2 == 1 else false
noncomputable def stp (s : Sc) (a : Int) : Sc := if joins s (cls a) (cnj a) then s.note (cls a) (cnj a) else Sc.zero.note (cls a) (cnj a)
noncomputable def sc (l : List Int) : Sc := l.foldl stp Sc.zero
theorem stp_zero (a : Int) : stp Sc.zero a = Sc.zero.note (cls a) (cnj a) := by unfold stp; split <;> rfl
theorem stp_not {s : Sc} {a : Int} (h : joins s (cls a) (cnj a) = false) : stp s a = stp Sc.zero a := by rw [stp_zero]; unfold stp; rw [if_neg (by rw [h]; decide)]
theorem stp_joins {s : Sc} {a : Int} (h : joins s (cls a) (cnj a) = true) : stp s a = s.note (cls a) (cnj a) := by unfold stp; rw [if_pos h]
theorem sc_snoc (l : List Int) (a : Int) : sc (l ++ [a]) = stp (sc l) a := by simp [sc]
theorem flags_stp (s : Sc) (a : Int) : (stp s a).flags ≤ s.flags + 1 := by
 unfold stp
 split <;> (simp only [Sc.note, Sc.zero]; split <;> omega)
theorem flags_le (l : List Int) : (sc l).flags ≤ l.length := by
 have key : ∀ (l : List Int) (s : Sc), (l.foldl stp s).flags ≤ s.flags + l.length := by
  intro l
  induction l with
  | nil => intro s; simp
  | cons a r ih => intro s; have := ih (stp s a); have := flags_stp s a; simp only [List.foldl_cons, List.length_cons]; omega
 have := key l Sc.zero
 simpa [sc, Sc.zero] using this
theorem last_stp (s : Sc) (a : Int) : (stp s a).last = cls a := by unfold stp; split <;> rfl
noncomputable def bk (A : List Int) (k : Nat) : Bool := match A[k]? with
 | some a => k == 0 || !joins (sc (A.take k)) (cls a) (cnj a)
 | none => k == A.length
theorem bk_zero (A : List Int) : bk A 0 = true := by
 unfold bk
 cases A <;> simp
theorem bk_len (A : List Int) : bk A A.length = true := by
 unfold bk
 rw [List.getElem?_eq_none (Nat.le_refl _)]
 simp
theorem bk_at {A : List Int} {k : Nat} {a : Int} (h : A[k]? = some a) (h0 : 0 < k) : bk A k = !joins (sc (A.take k)) (cls a) (cnj a) := by
 unfold bk
 rw [h]
 have : (k == 0) = false := by rw [beq_eq_false_iff_ne]; omega
 simp [this]
theorem bk_le {A : List Int} {k : Nat} (h : bk A k = true) : k ≤ A.length := by
 unfold bk at h
 split at h
 ·rename_i a ha
  have := (List.getElem?_eq_some_iff.1 ha).1
  omega
 ·simp only [beq_iff_eq] at h; omega
theorem sc_bk {A : List Int} {i : Nat} {a : Int} (hb : bk A i = true) (ha : A[i]? = some a) : sc (A.take (i + 1)) = sc [a] := by
 rw [List.take_add_one, ha]
 show sc (A.take i ++ [a]) = _
 rw [sc_snoc]
 show _ = stp Sc.zero a
 cases i with
 | zero => rfl
 | succ i =>
  rw [bk_at ha (by omega)] at hb
  exact stp_not (by simpa using hb)
noncomputable def cutsTo (A : List Int) (k : Nat) : List Nat := (List.range (k + 1)).filter (bk A)
noncomputable def cuts (A : List Int) : List Nat := cutsTo A A.length
theorem cutsTo_zero (A : List Int) : cutsTo A 0 = [0] := by
 unfold cutsTo
 have : List.range (0 + 1) = [0] := rfl
 rw [this, List.filter_cons_of_pos (bk_zero A)]; rfl
theorem cutsTo_next {A : List Int} {i j : Nat} (hij : i < j) (hb : bk A j = true) (hn : ∀ k, i < k → k < j → bk A k = false) : cutsTo A j = cutsTo A i ++ [j] := by
 unfold cutsTo
 have key : ∀ d, i + d < j → (List.range (i + d + 1)).filter (bk A) = (List.range (i + 1)).filter (bk A) := by
  intro d
  induction d with
  | zero => intro _; rfl
  | succ d ih =>
   intro h
   rw [show i + (d + 1) + 1 = (i + d + 1) + 1 by omega, List.range_succ, List.filter_append, ih (by omega), List.filter_cons_of_neg (by rw [hn _ (by omega) (by omega)]; decide)]
   simp
 rw [List.range_succ, List.filter_append, List.filter_cons_of_pos hb]
 obtain ⟨d, rfl⟩ : ∃ d, j = i + d + 1 := ⟨j - i - 1, by omega⟩
 rw [key d (by omega)]; rfl
theorem mem_cuts {A : List Int} {k : Nat} : k ∈ cuts A ↔ bk A k = true := by
 unfold cuts cutsTo
 rw [List.mem_filter, List.mem_range]
 exact ⟨fun h => h.2, fun h => ⟨by have := bk_le h; omega, h⟩⟩
theorem cuts_lt {A : List Int} : (cuts A).Pairwise (· < ·) := (List.pairwise_lt_range).filter _
theorem cutsTo_len (A : List Int) (k : Nat) : (cutsTo A k).length ≤ k + 1 := by
 unfold cutsTo
 have := List.length_filter_le (bk A) (List.range (k + 1))
 rwa [List.length_range] at this
end Clu
end Go.Proofs.YtolhlldgnfbemaaGreat
namespace Go.Proofs.YtolhlldgnfbemaaGreat
open Go Go.Vx
theorem tied {T : Tab} {P : Program} (ok : T.Ok P) {f : FuncId} {fn : Func} (hf : P.funcs[f]? = some fn) (h : Hint) (l : List Value) {t : RTy} {K : t.T → World → Prop} {w : World} {Q : World → Prop} (q : Q w) (e : vcgF T P fn h l t K = Q := by kernel_rfl) : callT P f l.toArray t K w := vcgF_sound ok hf h l t K w (by rw [e]; exact q)
noncomputable def F17 (a0 : Sl) (K : Sl → World → Prop) : World → Prop :=
 newO (.cells #[(.int .i64 (0 : Int))] 3) fun b1 =>
 newO (.cells #[(.slice none 0 0)] 37) fun b2 =>
 stC (at0 b2) (.slice (some (at0 b1)) 1 1) <|
 callT Tryz.prog 42 #[(.slice a0.a a0.len a0.cap), (.int .i64 (0 : Int)), (.func (Fn.func 47) #[] #[(.pointer (some (at0 b2)))])] (.tup []) fun (x3 : (Unit)) =>
 ld (.sl) (at0 b2) fun (x4 : Sl) =>
 K x4
def hR (n : Nat) : Hint := .region [] (.ops n .done)
def hO (n : Nat) : RS := .ops n .done
def hS (a b : Hint) : Hint := .seq none a b
def hC (a b : Hint) : Hint := .cond none a b
def hL : Hint := .leaf
def hJ (x : Nat × List (Nat × Ty)) (a b : Hint) : Hint := .seq (some x) a b
def tB : Ty := .one .bool
def tI : Ty := .one (.int .i64)
def tS : Ty := .one .sl
def tP : Ty := .one .ptr
noncomputable def h17 : Hint := (hS (hR 1) (hS (hR 3) (hS (hR 3) (hS (hR 2) hL))))
theorem F17_calls {a0 : Sl} {K : Sl → World → Prop} {w : World} (h : F17 a0 K w) : callT Tryz.prog 17 #[(.slice a0.a a0.len a0.cap)] (.one (.one .sl)) K w := tied tabOk Tryz.func17 h17 [(.slice a0.a a0.len a0.cap)] h
noncomputable def F42 (a0 : Sl) (a1 : Int) (a2 : Value) (K : Unit → World → Prop) : World → Prop :=
 sloop (S := Int × Unit) (fun (s1 : Int × Unit) again2 =>
 sif (decide (s1.1 < ((a0.len : Nat) : Int))) (
 ix a0.a a0.len s1.1 fun p3 =>
 ld (.int .i64) (p3.add (scaled (Int.toNat s1.1) 1)) fun (x4 : Int) =>
 callT Tryz.prog 68 #[(.int .i64 x4)] (.one (.agg c108)) fun (x5 : (Int × Int × Int × Int × Unit)) =>
 newO (.cells #[(.int .i64 (0 : Int)), (.int .i64 (0 : Int)), (.int .i64 (0 : Int)), (.int .i64 (0 : Int))] 108) fun b6 =>
 aggSt (at0 b6) (.agg (Cells.vals c108 x5).toArray) 4 <|
 join (S := Unit) (fun J7 =>
 sloop (S := Int × Unit) (fun (s9 : Int × Unit) again10 =>
 sif (decide (s9.1 < ((a0.len : Nat) : Int))) (
 ix a0.a a0.len s9.1 fun p11 =>
 ld (.int .i64) (p11.add (scaled (Int.toNat s9.1) 1)) fun (x12 : Int) =>
 callT Tryz.prog 69 #[(.pointer (some (at0 b6))), (.int .i64 x12)] (.one (.one .bool)) fun (x13 : Bool) =>
 sif x13 (
 again10 ((IntKind.wrap .i64 (s9.1 + (1 : Int))), ())) (
 callX Tryz.prog (do let d ← Deferred.ofValue a2 #[(.int .i64 s9.1)]; invoke d.target d.args : Sem Next) (.one (.one .bool)) fun (x14 : Bool) =>
 sif (!x14) (
 K ()) (
 again2 (s9.1, ())))) (
 J7 ())) ((IntKind.wrap .i64 (s1.1 + (1 : Int))), ())) fun (s8 : Unit) =>
 callX Tryz.prog (do let d ← Deferred.ofValue a2 #[(.int .i64 ((a0.len : Nat) : Int))]; invoke d.target d.args : Sem Next) (.one (.one .bool)) fun (x15 : Bool) =>
 K ()) (
 K ())) (a1, ())
noncomputable def h42 : Hint := (.scope (hS (hR 2) (hS hL (.block (.loop 2199023254976 [(6, tI)] (hS (hS (hR 4) (hC hL hL)) (.block (hS (hR 7) (hJ (137438429504, []) (hS (hR 3) (.block (.loop 137436856640 [(8, tI)] (hS (hS (hR 4) (hC hL hL)) (hS (.block (hS (hS (hR 5) (hC hL hL)) (hS (hS (hR 4) (hC hL hL)) (hS (hR 2) hL)))) (hR 3)))))) (hS (hR 4) hL))))))))))
theorem F42_calls {a0 : Sl} {a1 : Int} {a2 : Value} {K : Unit → World → Prop} {w : World} (h : F42 a0 a1 a2 K w) : callT Tryz.prog 42 #[(.slice a0.a a0.len a0.cap), (.int .i64 a1), a2] (.tup []) K w := tied tabOk Tryz.func42 h42 [(.slice a0.a a0.len a0.cap), (.int .i64 a1), a2] h
noncomputable def F47 (a0 : Int) (v0 : Addr) (K : Bool → World → Prop) : World → Prop :=
 ld (.sl) v0 fun (x1 : Sl) =>
 newO (.cells #[(.int .i64 a0)] 3) fun b2 =>
 rawT Tryz.prog (.one (.one .sl)) (Builtin.append_ #[37, 37] 37 #[(.slice x1.a x1.len x1.cap), (.slice (some (at0 b2)) 1 1)]) fun (x3 : Sl) =>
 stC v0 (.slice x3.a x3.len x3.cap) <|
 K true
noncomputable def h47 : Hint := (hS (hR 1) (hS (hR 5) (hS (hR 1) hL)))
theorem F47_calls {a0 : Int} {v0 : Addr} {K : Bool → World → Prop} {w : World} (h : F47 a0 v0 K w) : callT Tryz.prog 47 #[(.int .i64 a0), (.pointer (some v0))] (.one (.one .bool)) K w := tied tabOk Tryz.func47 h47 [(.int .i64 a0), (.pointer (some v0))] h
noncomputable def F68 (a0 : Int) (K : (Int × Int × Int × Int × Unit) → World → Prop) : World → Prop :=
 newO (.cells #[(.int .i64 (0 : Int)), (.int .i64 (0 : Int)), (.int .i64 (0 : Int)), (.int .i64 (0 : Int))] 108) fun b1 =>
 newO (.cells #[(.int .i64 (0 : Int)), (.int .i64 (0 : Int)), (.int .i64 (0 : Int)), (.int .i64 (0 : Int))] 108) fun b2 =>
 callT Tryz.prog 116 #[(.int .i64 a0)] (.one (.one (.int .i64))) fun (x3 : Int) =>
 callT Tryz.prog 117 #[(.int .i64 a0)] (.one (.one (.int .i64))) fun (x4 : Int) =>
 callT Tryz.prog 115 #[(.pointer (some (at0 b2))), (.int .i64 x3), (.int .i64 x4)] (.tup []) fun (x5 : (Unit)) =>
 lds c108 (at0 b2) fun (x6 : (Int × Int × Int × Int × Unit)) =>
 aggSt (at0 b1) (.agg (Cells.vals c108 x6).toArray) 4 <|
 lds c108 (at0 b1) fun (x7 : (Int × Int × Int × Int × Unit)) =>
 K x7
noncomputable def h68 : Hint := (hS (hR 1) (hS (hR 1) (hS (hR 5) (hS (hR 2) hL))))
theorem F68_calls {a0 : Int} {K : (Int × Int × Int × Int × Unit) → World → Prop} {w : World} (h : F68 a0 K w) : callT Tryz.prog 68 #[(.int .i64 a0)] (.one (.agg c108)) K w := tied tabOk Tryz.func68 h68 [(.int .i64 a0)] h
noncomputable def F69 (a0 : Option Addr) (a1 : Int) (K : Bool → World → Prop) : World → Prop :=
 callT Tryz.prog 116 #[(.int .i64 a1)] (.one (.one (.int .i64))) fun (x1 : Int) =>
 callT Tryz.prog 117 #[(.int .i64 a1)] (.one (.one (.int .i64))) fun (x2 : Int) =>
 join (S := Bool × Unit) (fun J3 =>
 join (S := Bool × Unit) (fun J5 =>
 nn a0 fun p7 =>
 ld (.int .i64) p7 fun (x8 : Int) =>
 sif (x8 == (1 : Int)) (
 J5 ((x1 == (2 : Int)), ())) (
 J5 (false, ()))) fun (s6 : Bool × Unit) =>
 sif s6.1 (
 J3 (true, ())) (
 join (S := Bool × Unit) (fun J9 =>
 nn a0 fun p11 =>
 ld (.int .i64) p11 fun (x12 : Int) =>
 callT Tryz.prog 118 #[(.int .i64 x12)] (.one (.one .bool)) fun (x13 : Bool) =>
 sif x13 (
 J9 (x13, ())) (
 callT Tryz.prog 118 #[(.int .i64 x1)] (.one (.one .bool)) fun (x14 : Bool) =>
 J9 (x14, ()))) fun (s10 : Bool × Unit) =>
 sif s10.1 (
 J3 (false, ())) (
 join (S := Bool × Unit) (fun J15 =>
 sif (x1 == (4 : Int)) (
 J15 ((x1 == (4 : Int)), ())) (
 sif (x1 == (5 : Int)) (
 J15 ((x1 == (5 : Int)), ())) (
 sif (x1 == (8 : Int)) (
 J15 ((x1 == (8 : Int)), ())) (
 nn a0 fun p17 =>
 ld (.int .i64) p17 fun (x18 : Int) =>
 J15 ((x18 == (7 : Int)), ()))))) fun (s16 : Bool × Unit) =>
 sif s16.1 (
 J3 (true, ())) (
 nn a0 fun p19 =>
 ld (.int .i64) p19 fun (x20 : Int) =>
 callT Tryz.prog 119 #[(.int .i64 x20), (.int .i64 x1)] (.one (.one .bool)) fun (x21 : Bool) =>
 sif x21 (
 J3 (true, ())) (
 join (S := Bool × Unit) (fun J22 =>
 sif (x2 == (1 : Int)) (
 nn a0 fun p24 =>
 ld (.int .i64) (p24.add 3) fun (x25 : Int) =>
 J22 ((x25 == (2 : Int)), ())) (
 J22 (false, ()))) fun (s23 : Bool × Unit) =>
 sif s23.1 (
 J3 (true, ())) (
 sif (x1 == (14 : Int)) (
 nn a0 fun p26 =>
 ld (.int .i64) (p26.add 2) fun (x27 : Int) =>
 J3 ((x27 == (2 : Int)), ())) (
 sif (x1 == (6 : Int)) (
 nn a0 fun p28 =>
 ld (.int .i64) (p28.add 1) fun (x29 : Int) =>
 chk ((2 : Int) ≠ 0) <|
 J3 (((Int.tmod x29 (2 : Int)) == (1 : Int)), ())) (
 J3 (false, ()))))))))) fun (s4 : Bool × Unit) =>
 join (S := Unit) (fun J30 =>
 sif s4.1 (
 callT Tryz.prog 115 #[(.pointer a0), (.int .i64 x1), (.int .i64 x2)] (.tup []) fun (x32 : (Unit)) =>
 J30 ()) (
 J30 ())) fun (s31 : Unit) =>
 K s4.1
noncomputable def h69 : Hint := (hS (hR 1) (hS (hR 6) (hS (hR 1) (hJ (75557863725914323415168, [(7, tB)]) (.block (hJ (4190208, [(12, tB)]) (.region [] (.ops 6 (.split 18 (hO 4) (.skips 2 (hO 2))))) (hC (hR 1) (hJ (1069547520, [(22, tB)]) (hS (hR 6) (hC hL (hR 3))) (hC hL (hJ (4396972769280, [(30, tB)]) (hS (hR 3) (hC hL (hS (hR 3) (hC hL (hS (hR 3) (hC hL (hR 6))))))) (hC (hR 1) (hS (hR 7) (hC (hR 1) (hJ (575897802350002176, [(49, tB)]) (.region [] (.ops 3 (.split 52 (hO 7) (.skips 5 (hO 2))))) (hC (hR 1) (hS (hR 3) (hC (hR 6) (hS (hR 3) (hC (hR 7) hL))))))))))))))) (hJ (2342293775503344025993216, []) (hS (hR 1) (hC (hR 4) hL)) (hS (hR 2) hL))))))
theorem F69_calls {a0 : Option Addr} {a1 : Int} {K : Bool → World → Prop} {w : World} (h : F69 a0 a1 K w) : callT Tryz.prog 69 #[(.pointer a0), (.int .i64 a1)] (.one (.one .bool)) K w := tied tabOk Tryz.func69 h69 [(.pointer a0), (.int .i64 a1)] h
noncomputable def F115 (a0 : Option Addr) (a1 : Int) (a2 : Int) (K : Unit → World → Prop) : World → Prop :=
 nn a0 fun p1 =>
 stC p1 (.int .i64 a1) <|
 join (S := Unit) (fun J2 =>
 sif (a1 == (6 : Int)) (
 nn a0 fun p4 =>
 ld (.int .i64) (p4.add 1) fun (x5 : Int) =>
 nn a0 fun p6 =>
 stC (p6.add 1) (.int .i64 (IntKind.wrap .i64 (x5 + (1 : Int)))) <|
 J2 ()) (
 nn a0 fun p7 =>
 stC (p7.add 1) (.int .i64 (0 : Int)) <|
 J2 ())) fun (s3 : Unit) =>
 join (S := Unit) (fun J8 =>
 sif (a1 == (14 : Int)) (
 nn a0 fun p10 =>
 stC (p10.add 2) (.int .i64 (1 : Int)) <|
 J8 ()) (
 join (S := Bool × Unit) (fun J11 =>
 nn a0 fun p13 =>
 ld (.int .i64) (p13.add 2) fun (x14 : Int) =>
 sif (x14 == (1 : Int)) (
 J11 ((a1 == (5 : Int)), ())) (
 J11 (false, ()))) fun (s12 : Bool × Unit) =>
 sif s12.1 (
 nn a0 fun p15 =>
 stC (p15.add 2) (.int .i64 (2 : Int)) <|
 J8 ()) (
 join (S := Bool × Unit) (fun J16 =>
 nn a0 fun p18 =>
 ld (.int .i64) (p18.add 2) fun (x19 : Int) =>
 sif (x19 == (1 : Int)) (
 J16 ((a1 == (4 : Int)), ())) (
 J16 (false, ()))) fun (s17 : Bool × Unit) =>
 sif s17.1 (
 J8 ()) (
 nn a0 fun p20 =>
 stC (p20.add 2) (.int .i64 (0 : Int)) <|
 J8 ())))) fun (s9 : Unit) =>
 sif (a2 == (1 : Int)) (
 nn a0 fun p21 =>
 stC (p21.add 3) (.int .i64 (1 : Int)) <|
 K ()) (
 join (S := Bool × Unit) (fun J22 =>
 nn a0 fun p24 =>
 ld (.int .i64) (p24.add 3) fun (x25 : Int) =>
 sif (decide (x25 > (0 : Int))) (
 J22 ((a2 == (3 : Int)), ())) (
 J22 (false, ()))) fun (s23 : Bool × Unit) =>
 sif s23.1 (
 nn a0 fun p26 =>
 stC (p26.add 3) (.int .i64 (2 : Int)) <|
 K ()) (
 join (S := Bool × Unit) (fun J27 =>
 nn a0 fun p29 =>
 ld (.int .i64) (p29.add 3) fun (x30 : Int) =>
 sif (decide (x30 > (0 : Int))) (
 J27 ((a2 == (2 : Int)), ())) (
 J27 (false, ()))) fun (s28 : Bool × Unit) =>
 sif s28.1 (
 K ()) (
 nn a0 fun p31 =>
 stC (p31.add 3) (.int .i64 (0 : Int)) <|
 K ())))
noncomputable def h115 : Hint := (hS (hR 5) (hJ (4193280, []) (hS (hR 2) (hC (hR 8) (hR 4))) (hJ (18014398505287680, []) (.block (hS (hR 3) (hC (hR 4) (hJ (2196875771904, [(31, tB)]) (.region [] (.ops 6 (.split 37 (hO 4) (.skips 2 (hO 2))))) (hC (hR 4) (hJ (17996806323437568, [(44, tB)]) (.region [] (.ops 6 (.split 50 (hO 4) (.skips 2 (hO 2))))) (hC hL (hR 4)))))))) (.block (hS (hR 3) (hC (hR 4) (hJ (9435509593702435651584, [(63, tB)]) (.region [] (.ops 6 (.split 69 (hO 4) (.skips 2 (hO 2))))) (hC (hR 4) (hJ (77295694591610352857776128, [(76, tB)]) (.region [] (.ops 6 (.split 82 (hO 4) (.skips 2 (hO 2))))) (hC hL (hR 4)))))))))))
theorem F115_calls {a0 : Option Addr} {a1 : Int} {a2 : Int} {K : Unit → World → Prop} {w : World} (h : F115 a0 a1 a2 K w) : callT Tryz.prog 115 #[(.pointer a0), (.int .i64 a1), (.int .i64 a2)] (.tup []) K w := tied tabOk Tryz.func115 h115 [(.pointer a0), (.int .i64 a1), (.int .i64 a2)] h
noncomputable def F116 (a0 : Int) (K : Int → World → Prop) : World → Prop :=
 callT Tryz.prog 149 #[(.int .i64 a0)] (.one (.one .bool)) fun (x1 : Bool) =>
 sif (!x1) (
 K (3 : Int)) (
 join (S := Bool × Unit) (fun J2 =>
 sif (decide ((IntKind.wrap .i64 (a0 - (44032 : Int))) ≥ (0 : Int))) (
 J2 ((decide ((IntKind.wrap .i64 (a0 - (44032 : Int))) < (11172 : Int))), ())) (
 J2 (false, ()))) fun (s3 : Bool × Unit) =>
 sif s3.1 (
 chk ((28 : Int) ≠ 0) <|
 sif ((Int.tmod (IntKind.wrap .i64 (a0 - (44032 : Int))) (28 : Int)) == (0 : Int)) (
 K (12 : Int)) (
 K (13 : Int))) (
 callT Tryz.prog 150 #[(.string bs_88441808), (.int .i64 a0)] (.one (.one (.int .i64))) fun (x4 : Int) =>
 K x4))
noncomputable def h116 : Hint := (hS (hR 1) (hS (hS (hR 3) (hC (hS (hR 1) hL) hL)) (hS (hS (hR 3) (hJ (32256, [(14, tB)]) (.region [] (.ops 3 (.split 11 (hO 3) (.skips 2 (hO 1))))) (hC (hS (hS (hR 3) (hC (hS (hR 1) hL) hL)) (hS (hR 1) hL)) hL))) (hS (hR 3) hL))))
theorem F116_calls {a0 : Int} {K : Int → World → Prop} {w : World} (h : F116 a0 K w) : callT Tryz.prog 116 #[(.int .i64 a0)] (.one (.one (.int .i64))) K w := tied tabOk Tryz.func116 h116 [(.int .i64 a0)] h
noncomputable def F117 (a0 : Int) (K : Int → World → Prop) : World → Prop :=
 join (S := Bool × Unit) (fun J1 =>
 sif (a0 == (2381 : Int)) (
 J1 ((a0 == (2381 : Int)), ())) (
 sif (a0 == (2509 : Int)) (
 J1 ((a0 == (2509 : Int)), ())) (
 sif (a0 == (2765 : Int)) (
 J1 ((a0 == (2765 : Int)), ())) (
 sif (a0 == (2893 : Int)) (
 J1 ((a0 == (2893 : Int)), ())) (
 sif (a0 == (3149 : Int)) (
 J1 ((a0 == (3149 : Int)), ())) (
 J1 ((a0 == (3405 : Int)), ()))))))) fun (s2 : Bool × Unit) =>
 sif s2.1 (
 K (3 : Int)) (
 sif (a0 == (8204 : Int)) (
 K (0 : Int)) (
 join (S := Unit) (fun J3 =>
 callT Tryz.prog 116 #[(.int .i64 a0)] (.one (.one (.int .i64))) fun (x5 : Int) =>
 join (S := Bool × Unit) (fun J6 =>
 sif (x5 == (4 : Int)) (
 J6 ((x5 == (4 : Int)), ())) (
 J6 ((x5 == (5 : Int)), ()))) fun (s7 : Bool × Unit) =>
 sif s7.1 (
 K (2 : Int)) (
 sif (x5 == (0 : Int)) (
 callT Tryz.prog 149 #[(.int .i64 a0)] (.one (.one .bool)) fun (x8 : Bool) =>
 sif x8 (
 callT Tryz.prog 150 #[(.string bs_29aed6ba), (.int .i64 a0)] (.one (.one (.int .i64))) fun (x9 : Int) =>
 K x9) (
 J3 ())) (
 J3 ()))) fun (s4 : Unit) =>
 K (0 : Int)))
noncomputable def h117 : Hint := (hS (hR 1) (hS (hS (hR 1) (.block (hJ (2032, [(4, tB)]) (hS (hR 2) (hC hL (hS (hR 2) (hC hL (hS (hR 2) (hC hL (hS (hR 2) (hC hL (hS (hR 2) (hC hL (hR 2))))))))))) (hC (hS (hR 1) hL) (hS (hR 2) (hC (hS (hR 1) hL) hL)))))) (hJ (16769028, []) (hS (hR 2) (.block (hJ (229376, [(15, tB)]) (hS (hR 2) (hC hL (hR 2))) (hC (hS (hR 1) hL) (hS (hR 2) (hC (hS (hR 2) (hC (hS (hR 3) hL) hL)) hL)))))) (hS (hR 1) hL))))
theorem F117_calls {a0 : Int} {K : Int → World → Prop} {w : World} (h : F117 a0 K w) : callT Tryz.prog 117 #[(.int .i64 a0)] (.one (.one (.int .i64))) K w := tied tabOk Tryz.func117 h117 [(.int .i64 a0)] h
noncomputable def F118 (a0 : Int) (K : Bool → World → Prop) : World → Prop :=
 sif (a0 == (1 : Int)) (
 K true) (
 sif (a0 == (2 : Int)) (
 K true) (
 K (a0 == (3 : Int))))
noncomputable def h118 : Hint := (hS (hR 1) (hS (.region [] (.ops 3 (.split 5 (.skips 2 (.ops 2 (.skips 2 (hO 2)))) (.ops 4 (.split 9 (.skips 2 (hO 2)) (hO 4)))))) hL))
theorem F118_calls {a0 : Int} {K : Bool → World → Prop} {w : World} (h : F118 a0 K w) : callT Tryz.prog 118 #[(.int .i64 a0)] (.one (.one .bool)) K w := tied tabOk Tryz.func118 h118 [(.int .i64 a0)] h
noncomputable def F119 (a0 : Int) (a1 : Int) (K : Bool → World → Prop) : World → Prop :=
 join (S := Unit) (fun J1 =>
 join (S := Bool × Unit) (fun J3 =>
 sif (a1 == (9 : Int)) (
 J3 ((a1 == (9 : Int)), ())) (
 sif (a1 == (12 : Int)) (
 J3 ((a1 == (12 : Int)), ())) (
 J3 ((a1 == (13 : Int)), ())))) fun (s4 : Bool × Unit) =>
 sif s4.1 (
 K (a0 == (9 : Int))) (
 sif (a1 == (10 : Int)) (
 sif (a0 == (9 : Int)) (
 K true) (
 J1 ())) (
 sif (a1 == (11 : Int)) (
 J1 ()) (
 K false)))) fun (s2 : Unit) =>
 join (S := Bool × Unit) (fun J5 =>
 sif (a0 == (12 : Int)) (
 J5 (true, ())) (
 J5 ((a0 == (10 : Int)), ()))) fun (s6 : Bool × Unit) =>
 sif s6.1 (
 K true) (
 sif (a1 == (11 : Int)) (
 sif (a0 == (13 : Int)) (
 K true) (
 K (a0 == (11 : Int)))) (
 K false))
noncomputable def h119 : Hint := (hS (hR 1) (hS (hS (hR 1) (.block (hJ (262096, []) (.block (hS (.block (hS (.block (hS (hS (hJ (960, [(6, tB)]) (hS (hR 2) (hC hL (hS (hR 2) (hC hL (hR 2))))) (hC hL hL)) (hS (hS (hR 2) (hC hL hL)) (hS (hR 2) (hC hL hL)))) hL)) (hS (hS (hR 3) hL) hL))) (hS (hR 2) (hC (hS (hR 1) hL) hL)))) (hS (hS (hJ (16515072, [(23, tB)]) (.region [] (.ops 3 (.split 20 (.skips 2 (hO 1)) (hO 3)))) (hC (hS (hR 1) hL) hL)) (hS (.region [] (.ops 3 (.split 26 (.ops 3 (.split 29 (.skips 2 (hO 3)) (hO 5))) (.skips 6 (hO 2))))) hL)) hL)))) (hS (hR 1) hL)))
theorem F119_calls {a0 : Int} {a1 : Int} {K : Bool → World → Prop} {w : World} (h : F119 a0 a1 K w) : callT Tryz.prog 119 #[(.int .i64 a0), (.int .i64 a1)] (.one (.one .bool)) K w := tied tabOk Tryz.func119 h119 [(.int .i64 a0), (.int .i64 a1)] h
noncomputable def F149 (a0 : Int) (K : Bool → World → Prop) : World → Prop :=
 sif (decide (a0 ≥ (0 : Int))) (
 sif (decide (a0 < (55296 : Int))) (
 K true) (
 sif (decide (a0 > (57343 : Int))) (
 K (decide (a0 ≤ (1114111 : Int)))) (
 K false))) (
 sif (decide (a0 > (57343 : Int))) (
 K (decide (a0 ≤ (1114111 : Int)))) (
 K false))
noncomputable def h149 : Hint := (hS (hR 1) (hS (.region [] (.ops 3 (.split 5 (.ops 4 (.split 9 (.skips 6 (hO 2)) (.ops 3 (.split 12 (hO 5) (.skips 2 (hO 3)))))) (.skips 2 (.ops 5 (.split 12 (hO 5) (.skips 2 (hO 3)))))))) hL))
theorem F149_calls {a0 : Int} {K : Bool → World → Prop} {w : World} (h : F149 a0 K w) : callT Tryz.prog 149 #[(.int .i64 a0)] (.one (.one .bool)) K w := tied tabOk Tryz.func149 h149 [(.int .i64 a0)] h
noncomputable def F150 (a0 : ByteArray) (a1 : Int) (K : Int → World → Prop) : World → Prop :=
 chk ((11 : Int) ≠ 0) <|
 join (S := Unit) (fun J1 =>
 sloop (S := Int × Int × Unit) (fun (s3 : Int × Int × Unit) again4 =>
 sif (decide (s3.1 < s3.2.1)) (
 chk ((2 : Int) ≠ 0) <|
 chk (0 ≤ (IntKind.wrap .i64 ((IntKind.wrap .i64 (Int.tdiv (IntKind.wrap .i64 (s3.1 + s3.2.1)) (2 : Int))) * (11 : Int))) ∧ (IntKind.wrap .i64 ((IntKind.wrap .i64 (Int.tdiv (IntKind.wrap .i64 (s3.1 + s3.2.1)) (2 : Int))) * (11 : Int))) ≤ (IntKind.wrap .i64 ((IntKind.wrap .i64 ((IntKind.wrap .i64 (Int.tdiv (IntKind.wrap .i64 (s3.1 + s3.2.1)) (2 : Int))) + (1 : Int))) * (11 : Int))) ∧ (IntKind.wrap .i64 ((IntKind.wrap .i64 ((IntKind.wrap .i64 (Int.tdiv (IntKind.wrap .i64 (s3.1 + s3.2.1)) (2 : Int))) + (1 : Int))) * (11 : Int))) ≤ ((a0.size : Nat) : Int)) <|
 chk (0 ≤ (0 : Int) ∧ (0 : Int) ≤ (5 : Int) ∧ (5 : Int) ≤ (((a0.extract (Int.toNat (IntKind.wrap .i64 ((IntKind.wrap .i64 (Int.tdiv (IntKind.wrap .i64 (s3.1 + s3.2.1)) (2 : Int))) * (11 : Int)))) (Int.toNat (IntKind.wrap .i64 ((IntKind.wrap .i64 ((IntKind.wrap .i64 (Int.tdiv (IntKind.wrap .i64 (s3.1 + s3.2.1)) (2 : Int))) + (1 : Int))) * (11 : Int))))).size : Nat) : Int)) <|
 callT Tryz.prog 161 #[(.string ((a0.extract (Int.toNat (IntKind.wrap .i64 ((IntKind.wrap .i64 (Int.tdiv (IntKind.wrap .i64 (s3.1 + s3.2.1)) (2 : Int))) * (11 : Int)))) (Int.toNat (IntKind.wrap .i64 ((IntKind.wrap .i64 ((IntKind.wrap .i64 (Int.tdiv (IntKind.wrap .i64 (s3.1 + s3.2.1)) (2 : Int))) + (1 : Int))) * (11 : Int))))).extract (Int.toNat 0) (Int.toNat (5 : Int))))] (.one (.one (.int .i64))) fun (x5 : Int) =>
 sif (decide (a1 < x5)) (
 again4 (s3.1, (IntKind.wrap .i64 (Int.tdiv (IntKind.wrap .i64 (s3.1 + s3.2.1)) (2 : Int))), ())) (
 chk (0 ≤ (5 : Int) ∧ (5 : Int) ≤ (10 : Int) ∧ (10 : Int) ≤ (((a0.extract (Int.toNat (IntKind.wrap .i64 ((IntKind.wrap .i64 (Int.tdiv (IntKind.wrap .i64 (s3.1 + s3.2.1)) (2 : Int))) * (11 : Int)))) (Int.toNat (IntKind.wrap .i64 ((IntKind.wrap .i64 ((IntKind.wrap .i64 (Int.tdiv (IntKind.wrap .i64 (s3.1 + s3.2.1)) (2 : Int))) + (1 : Int))) * (11 : Int))))).size : Nat) : Int)) <|
 callT Tryz.prog 161 #[(.string ((a0.extract (Int.toNat (IntKind.wrap .i64 ((IntKind.wrap .i64 (Int.tdiv (IntKind.wrap .i64 (s3.1 + s3.2.1)) (2 : Int))) * (11 : Int)))) (Int.toNat (IntKind.wrap .i64 ((IntKind.wrap .i64 ((IntKind.wrap .i64 (Int.tdiv (IntKind.wrap .i64 (s3.1 + s3.2.1)) (2 : Int))) + (1 : Int))) * (11 : Int))))).extract (Int.toNat (5 : Int)) (Int.toNat (10 : Int))))] (.one (.one (.int .i64))) fun (x6 : Int) =>
 sif (decide (a1 > x6)) (
 again4 ((IntKind.wrap .i64 ((IntKind.wrap .i64 (Int.tdiv (IntKind.wrap .i64 (s3.1 + s3.2.1)) (2 : Int))) + (1 : Int))), s3.2.1, ())) (
 chk (0 ≤ (10 : Int) ∧ (10 : Int) ≤ (((a0.extract (Int.toNat (IntKind.wrap .i64 ((IntKind.wrap .i64 (Int.tdiv (IntKind.wrap .i64 (s3.1 + s3.2.1)) (2 : Int))) * (11 : Int)))) (Int.toNat (IntKind.wrap .i64 ((IntKind.wrap .i64 ((IntKind.wrap .i64 (Int.tdiv (IntKind.wrap .i64 (s3.1 + s3.2.1)) (2 : Int))) + (1 : Int))) * (11 : Int))))).size : Nat) : Int) ∧ (((a0.extract (Int.toNat (IntKind.wrap .i64 ((IntKind.wrap .i64 (Int.tdiv (IntKind.wrap .i64 (s3.1 + s3.2.1)) (2 : Int))) * (11 : Int)))) (Int.toNat (IntKind.wrap .i64 ((IntKind.wrap .i64 ((IntKind.wrap .i64 (Int.tdiv (IntKind.wrap .i64 (s3.1 + s3.2.1)) (2 : Int))) + (1 : Int))) * (11 : Int))))).size : Nat) : Int) ≤ (((a0.extract (Int.toNat (IntKind.wrap .i64 ((IntKind.wrap .i64 (Int.tdiv (IntKind.wrap .i64 (s3.1 + s3.2.1)) (2 : Int))) * (11 : Int)))) (Int.toNat (IntKind.wrap .i64 ((IntKind.wrap .i64 ((IntKind.wrap .i64 (Int.tdiv (IntKind.wrap .i64 (s3.1 + s3.2.1)) (2 : Int))) + (1 : Int))) * (11 : Int))))).size : Nat) : Int)) <|
 callT Tryz.prog 161 #[(.string ((a0.extract (Int.toNat (IntKind.wrap .i64 ((IntKind.wrap .i64 (Int.tdiv (IntKind.wrap .i64 (s3.1 + s3.2.1)) (2 : Int))) * (11 : Int)))) (Int.toNat (IntKind.wrap .i64 ((IntKind.wrap .i64 ((IntKind.wrap .i64 (Int.tdiv (IntKind.wrap .i64 (s3.1 + s3.2.1)) (2 : Int))) + (1 : Int))) * (11 : Int))))).extract (Int.toNat (10 : Int)) (Int.toNat (((a0.extract (Int.toNat (IntKind.wrap .i64 ((IntKind.wrap .i64 (Int.tdiv (IntKind.wrap .i64 (s3.1 + s3.2.1)) (2 : Int))) * (11 : Int)))) (Int.toNat (IntKind.wrap .i64 ((IntKind.wrap .i64 ((IntKind.wrap .i64 (Int.tdiv (IntKind.wrap .i64 (s3.1 + s3.2.1)) (2 : Int))) + (1 : Int))) * (11 : Int))))).size : Nat) : Int))))] (.one (.one (.int .i64))) fun (x7 : Int) =>
 K x7))) (
 J1 ())) ((0 : Int), (IntKind.wrap .i64 (Int.tdiv ((ByteArray.size a0 : Nat) : Int) (11 : Int))), ())) fun (s2 : Unit) =>
 K (0 : Int)
noncomputable def h150 : Hint := (hS (hR 1) (hS (hR 5) (hJ (17592186040816, []) (.block (.loop 17592186040816 [(5, tI), (6, tI)] (hS (hS (hR 3) (hC hL hL)) (.block (hS (hR 5) (hS (hR 8) (.block (hS (hR 6) (hC (hR 2) (hS (hR 6) (hC (hR 3) (hS (hR 4) hL)))))))))))) (hS (hR 1) hL))))
theorem F150_calls {a0 : ByteArray} {a1 : Int} {K : Int → World → Prop} {w : World} (h : F150 a0 a1 K w) : callT Tryz.prog 150 #[(.string a0), (.int .i64 a1)] (.one (.one (.int .i64))) K w := tied tabOk Tryz.func150 h150 [(.string a0), (.int .i64 a1)] h
noncomputable def F158 (a0 : Int) (K : Int → World → Prop) : World → Prop :=
 callT Tryz.prog 149 #[(.int .i64 a0)] (.one (.one .bool)) fun (x1 : Bool) =>
 sif (!x1) (
 K (1 : Int)) (
 callT Tryz.prog 150 #[(.string bs_94cae01e), (.int .i64 a0)] (.one (.one (.int .i64))) fun (x2 : Int) =>
 sif (x2 == (2 : Int)) (
 K (2 : Int)) (
 sif (x2 == (1 : Int)) (
 K (0 : Int)) (
 K (1 : Int))))
noncomputable def h158 : Hint := (hS (hR 1) (hS (hS (hR 3) (hC (hS (hR 1) hL) hL)) (hS (hS (hR 2) (.block (hS (hR 2) (hC (hS (hR 1) hL) (hS (hR 2) (hC (hS (hR 1) hL) hL)))))) (hS (hR 1) hL))))
theorem F158_calls {a0 : Int} {K : Int → World → Prop} {w : World} (h : F158 a0 K w) : callT Tryz.prog 158 #[(.int .i64 a0)] (.one (.one (.int .i64))) K w := tied tabOk Tryz.func158 h158 [(.int .i64 a0)] h
noncomputable def F161 (a0 : ByteArray) (K : Int → World → Prop) : World → Prop :=
 join (S := Int × Unit) (fun J1 =>
 rawT Tryz.prog (.one (.one .ptr)) (Instr.range 9 (.string a0)) fun (x3 : Option Addr) =>
 sloop (S := Int × Unit) (fun (s4 : Int × Unit) again5 =>
 nextS Tryz.prog (Instr.next (.pointer x3) true 0) (fun p6 c7 =>
 sif true (
 join (S := Int × Unit) (fun J8 =>
 sif (decide (c7 > (57 : Int))) (
 J8 ((IntKind.wrap .i64 ((IntKind.wrap .i64 (IntKind.wrap .i32 (c7 - (65 : Int)))) + (10 : Int))), ())) (
 J8 ((IntKind.wrap .i64 (IntKind.wrap .i32 (c7 - (48 : Int)))), ()))) fun (s9 : Int × Unit) =>
 again5 ((IntKind.wrap .i64 ((IntKind.wrap .i64 (s4.1 * (16 : Int))) + s9.1)), ())) (
 J1 (s4.1, ()))) (
 sif false (
 fun _ => False) (
 J1 (s4.1, ())))) ((0 : Int), ())) fun (s2 : Int × Unit) =>
 K s2.1
noncomputable def h161 : Hint := (hS (hR 1) (hS (hR 1) (hJ (33554408, [(3, tI)]) (hS (hR 2) (.block (.loop 33554024 [(3, tI)] (hS (hR 2) (hS (hC hL hL) (.block (hS (hR 2) (hS (hR 4) (hJ (2064448, [(6, tI)]) (hS (hR 2) (hC (hR 5) hL)) (hR 5)))))))))) (hS (hR 2) hL))))
theorem F161_calls {a0 : ByteArray} {K : Int → World → Prop} {w : World} (h : F161 a0 K w) : callT Tryz.prog 161 #[(.string a0)] (.one (.one (.int .i64))) K w := tied tabOk Tryz.func161 h161 [(.string a0)] h
theorem nat_ofInt {b : Nat} {a : Int} (h0 : 0 ≤ a) (h : a < 2 ^ b) : (BitVec.ofInt b a).toNat = a.toNat := by
 rw [BitVec.toNat_ofInt]
 have e : ((2 ^ b : Nat) : Int) = (2 : Int) ^ b := by simp
 rw [e, Int.emod_eq_of_lt h0 h]
theorem and_lo {b k : Nat} {a m : Int} (h0 : 0 ≤ a) (h : a < 2 ^ b) (hm : m = 2 ^ k - 1) (hk : k ≤ b) : ((BitVec.toNat (BitVec.ofInt b a &&& BitVec.ofInt b m) : Nat) : Int) = a % 2 ^ k := by
 have h1 : (1 : Int) ≤ 2 ^ k := by have : (0 : Int) < 2 ^ k := Int.pow_pos (by decide); omega
 have h2 : (2 : Int) ^ k ≤ 2 ^ b := by
  have : (2 : Nat) ^ k ≤ 2 ^ b := Nat.pow_le_pow_right (by decide) hk
  exact_mod_cast this
 rw [BitVec.toNat_and, nat_ofInt h0 h, nat_ofInt (by omega) (by omega)]
 have : m.toNat = 2 ^ k - 1 := by
  have e : ((2 ^ k : Nat) : Int) = (2 : Int) ^ k := by simp
  omega
 rw [this, Nat.and_two_pow_sub_one_eq_mod]
 have e : ((2 ^ k : Nat) : Int) = (2 : Int) ^ k := by simp
 rw [Int.natCast_emod, e, Int.toNat_of_nonneg h0]
theorem or_shift {b k : Nat} {a c : Int} (h0 : 0 ≤ a) (hc0 : 0 ≤ c) (hc : c < 2 ^ k) (h : a * 2 ^ k + c < 2 ^ b) : ((BitVec.toNat (BitVec.ofInt b (a * 2 ^ k) ||| BitVec.ofInt b c) : Nat) : Int) = a * 2 ^ k + c := by
 have hp : (0 : Int) < 2 ^ k := Int.pow_pos (by decide)
 have hak : 0 ≤ a * 2 ^ k := Int.mul_nonneg h0 (by omega)
 rw [BitVec.toNat_or, nat_ofInt hak (by omega), nat_ofInt hc0 (by omega)]
 have e : ((2 ^ k : Nat) : Int) = (2 : Int) ^ k := by simp
 have e1 : (a * 2 ^ k).toNat = a.toNat <<< k := by
  rw [Nat.shiftLeft_eq]
  have : ((a * 2 ^ k).toNat : Int) = ((a.toNat * 2 ^ k : Nat) : Int) := by
   rw [Int.toNat_of_nonneg hak, Int.natCast_mul, e, Int.toNat_of_nonneg h0]
  exact_mod_cast this
 rw [e1, ← Nat.shiftLeft_add_eq_or_of_lt (by omega), ← e1, Int.natCast_add, Int.toNat_of_nonneg hak, Int.toNat_of_nonneg hc0]
theorem or_shift' {b k : Nat} {a c : Int} (h0 : 0 ≤ a) (hc0 : 0 ≤ c) (hc : c < 2 ^ k) (h : a * 2 ^ k + c < 2 ^ b) : ((BitVec.toNat (BitVec.ofInt b c ||| BitVec.ofInt b (a * 2 ^ k)) : Nat) : Int) = a * 2 ^ k + c := by
 rw [BitVec.or_comm]; exact or_shift h0 hc0 hc h
theorem and_hi {a m : Int} (h0 : 0 ≤ a) (h : a < 2 ^ 63) (hm : m = 1023) : ((BitVec.toNat (BitVec.ofInt 64 a &&& ~~~(BitVec.ofInt 64 m)) : Nat) : Int) = a / 1024 * 1024 := by
 subst hm
 have e0 : (~~~(BitVec.ofInt 64 1023) : BitVec 64).toNat = (2 ^ 54 - 1) <<< 10 := by decide
 rw [BitVec.toNat_and, nat_ofInt h0 (by omega), e0]
 have : a.toNat &&& (2 ^ 54 - 1) <<< 10 = (a.toNat >>> 10) <<< 10 := by
  apply Nat.eq_of_testBit_eq
  intro i
  rw [Nat.testBit_and, Nat.testBit_shiftLeft, Nat.testBit_shiftLeft, Nat.testBit_two_pow_sub_one, Nat.testBit_shiftRight]
  by_cases hi : 10 ≤ i
  ·have e : 10 + (i - 10) = i := by omega
   rw [e]
   by_cases h64 : i < 64
   ·have : i - 10 < 54 := by omega
    simp [hi, this]
   ·have hb : a.toNat.testBit i = false := Nat.testBit_lt_two_pow (Nat.lt_of_lt_of_le (by omega : a.toNat < 2 ^ 63) (Nat.pow_le_pow_right (by decide) (by omega)))
    simp [hb]
  ·simp [hi]
 rw [this, Nat.shiftLeft_eq, Nat.shiftRight_eq_div_pow]
 omega
theorem wrap64 {a : Int} (h0 : -(2 ^ 63) ≤ a) (h : a < 2 ^ 63) : IntKind.wrap .i64 a = a := by
 simp only [IntKind.wrap, IntKind.signed, IntKind.bits]
 simp [Int.bmod_def]; omega
theorem wrap8 {a : Int} (h0 : 0 ≤ a) (h : a < 256) : IntKind.wrap .u8 a = a := by
 simp only [IntKind.wrap, IntKind.signed, IntKind.bits]
 simp; omega
theorem wrap8m {a : Int} : IntKind.wrap .u8 a = a % 256 := by
 simp only [IntKind.wrap, IntKind.signed, IntKind.bits]
 simp
noncomputable def F23 (a0 : Int) (a1 : Sl) (a2 : Int) (K : (Option Addr × Int × Unit) → World → Prop) : World → Prop :=
 join (S := Bool × Unit) (fun J1 =>
 sif (decide (a0 < (1 : Int))) (
 J1 (true, ())) (
 J1 ((decide (a0 > (4 : Int))), ()))) fun (s2 : Bool × Unit) =>
 sif s2.1 (
 K (none, (10 : Int), ())) (
 join (S := Bool × Unit) (fun J3 =>
 sif (decide (a2 < (0 : Int))) (
 J3 (true, ())) (
 J3 ((decide (a2 > (65536 : Int))), ()))) fun (s4 : Bool × Unit) =>
 sif s4.1 (
 K (none, (1 : Int), ())) (
 sif (decide (((a1.len : Nat) : Int) > a2)) (
 K (none, (50 : Int), ())) (
 rawT Tryz.prog (.one (.one .sl)) (Instr.makeSlice 22 (.int .i64 ((a1.len : Nat) : Int)) (.int .i64 ((a1.len : Nat) : Int))) fun (x5 : Sl) =>
 rawT Tryz.prog (.one (.one (.int .i64))) (Builtin.copy_ #[22, 22] 3 #[(.slice x5.a x5.len x5.cap), (.slice a1.a a1.len a1.cap)]) fun (x6 : Int) =>
 newO (.cells #[(.int .i64 a0), (.int .i64 a2), (.pointer none), (.slice none 0 0)] 86) fun b7 =>
 join (S := Sl × Unit) (fun J8 =>
 sloop (S := Sl × Int × Unit) (fun (s10 : Sl × Int × Unit) again11 =>
 sif (decide (s10.2.1 < ((x5.len : Nat) : Int))) (
 join (S := Int × Unit) (fun J12 =>
 sloop (S := Int × Int × Unit) (fun (s14 : Int × Int × Unit) again15 =>
 join (S := Bool × Unit) (fun J16 =>
 sif (decide (s14.1 < ((x5.len : Nat) : Int))) (
 J16 ((decide (s14.2.1 < (128 : Int))), ())) (
 J16 (false, ()))) fun (s17 : Bool × Unit) =>
 sif s17.1 (
 callT Tryz.prog 53 #[(.int .i64 a0), (.slice x5.a x5.len x5.cap), (.int .i64 s14.1)] (.tup [(.one (.int .i64)), (.one (.int .i64))]) fun (x18 : (Int × Int × Unit)) =>
 again15 ((IntKind.wrap .i64 (s14.1 + x18.2.1)), (IntKind.wrap .i64 (s14.2.1 + (1 : Int))), ())) (
 J12 (s14.1, ()))) (s10.2.1, (0 : Int), ())) fun (s13 : Int × Unit) =>
 slc x5.a s10.2.1 s13.1 s13.1 x5.cap 1 fun x19 =>
 callT Tryz.prog 54 #[(.int .i64 a0), (.slice x19.a x19.len x19.cap), (.int .i64 s10.2.1)] (.one (.agg c93)) fun (x20 : (Sl × Int × Int × Int × Int × Bool × Bool × Unit)) =>
 newO (.cells #[(.slice x20.1.a x20.1.len x20.1.cap), (.int .i64 x20.2.1), (.int .i64 x20.2.2.1), (.int .i64 x20.2.2.2.1), (.int .i64 x20.2.2.2.2.1), (.bool x20.2.2.2.2.2.1), (.bool x20.2.2.2.2.2.2.1)] 93) fun b21 =>
 rawT Tryz.prog (.one (.one .sl)) (Builtin.append_ #[87, 87] 87 #[(.slice s10.1.a s10.1.len s10.1.cap), (.slice (some (at0 b21)) 1 1)]) fun (x22 : Sl) =>
 again11 (x22, s13.1, ())) (
 J8 (s10.1, ()))) (⟨none, 0, 0⟩, (0 : Int), ())) fun (s9 : Sl × Unit) =>
 callT Tryz.prog 55 #[(.slice s9.1.a s9.1.len s9.1.cap)] (.one (.agg c84)) fun (x23 : (Option Addr × Unit)) =>
 nn (some (at0 b7)) fun p24 =>
 aggSt (p24.add 2) (.agg (Cells.vals c84 x23).toArray) 1 <|
 K ((some (at0 b7)), (0 : Int), ()))))
noncomputable def h23 : Hint := (hS (hR 2) (hS (.block (hJ (8323072, [(16, tB)]) (.region [] (.ops 3 (.split 19 (.skips 2 (hO 2)) (hO 4)))) (hC (hS (hR 2) hL) (hJ (1065353216, [(23, tB)]) (.region [] (.ops 3 (.split 26 (.skips 2 (hO 2)) (hO 4)))) (hC (hS (hR 2) hL) (hS (hR 5) (hC (hS (hR 2) hL) hL))))))) (hS (hR 4) (hS (hR 3) (hS (hR 5) (hS (hR 1) (hJ (4835703278423332326800384, [(10, tS)]) (hS (hR 1) (.block (.loop 4835703278423332326800384 [(10, tS), (11, tI)] (hS (hS (hR 4) (hC hL hL)) (.block (hS (hR 3) (hJ (1180590494817504522240, [(12, tI)]) (.block (.loop 1180590494817504522240 [(12, tI), (13, tI)] (hS (hJ (287104476244869120, [(57, tB)]) (.region [] (.ops 5 (.split 54 (hO 3) (.skips 2 (hO 1))))) (hC hL hL)) (hS (.block (hS (hR 9) (hR 4))) (hR 3))))) (hS (hR 12) (hR 2))))))))) (hS (hR 6) (hS (hR 3) hL)))))))))
theorem F23_calls {a0 : Int} {a1 : Sl} {a2 : Int} {K : (Option Addr × Int × Unit) → World → Prop} {w : World} (h : F23 a0 a1 a2 K w) : callT Tryz.prog 23 #[(.int .i64 a0), (.slice a1.a a1.len a1.cap), (.int .i64 a2)] (.tup [(.one .ptr), (.one (.int .i64))]) K w := tied tabOk Tryz.func23 h23 [(.int .i64 a0), (.slice a1.a a1.len a1.cap), (.int .i64 a2)] h
noncomputable def F25 (a0 : Option Addr) (a1 : Int) (a2 : Int) (K : Sl → World → Prop) : World → Prop :=
 newO (.cells #[(.slice none 0 0)] 37) fun b1 =>
 callT Tryz.prog 57 #[(.pointer a0), (.int .i64 a1), (.int .i64 a2), (.func (Fn.func 58) #[] #[(.pointer (some (at0 b1)))])] (.tup []) fun (x2 : (Unit)) =>
 ld (.sl) (at0 b1) fun (x3 : Sl) =>
 K x3
noncomputable def h25 : Hint := (hS (hR 1) (hS (hR 1) (hS (hR 5) (hS (hR 2) hL))))
theorem F25_calls {a0 : Option Addr} {a1 : Int} {a2 : Int} {K : Sl → World → Prop} {w : World} (h : F25 a0 a1 a2 K w) : callT Tryz.prog 25 #[(.pointer a0), (.int .i64 a1), (.int .i64 a2)] (.one (.one .sl)) K w := tied tabOk Tryz.func25 h25 [(.pointer a0), (.int .i64 a1), (.int .i64 a2)] h
noncomputable def F34 (a0 : Option Addr) (a1 : Sl) (K : Int → World → Prop) : World → Prop :=
 callT Tryz.prog 63 #[(.pointer a0), (.slice a1.a a1.len a1.cap)] (.one (.one (.int .i64))) fun (x1 : Int) =>
 sif (x1 != (0 : Int)) (
 K x1) (
 join (S := Unit) (fun J2 =>
 sloop (S := Int × Unit) (fun (s4 : Int × Unit) again5 =>
 sif (decide (s4.1 ≥ (0 : Int))) (
 join (S := Unit) (fun J6 =>
 ix a1.a a1.len s4.1 fun p8 =>
 lds c103 (p8.add (scaled (Int.toNat s4.1) 3)) fun (x9 : (Int × Int × Sl × Unit)) =>
 newO (.cells #[(.int .i64 (0 : Int)), (.int .i64 (0 : Int)), (.slice none 0 0)] 103) fun b10 =>
 aggSt (at0 b10) (.agg (Cells.vals c103 x9).toArray) 3 <|
 join (S := Bool × Unit) (fun J11 =>
 ld (.int .i64) (at0 b10) fun (x13 : Int) =>
 ld (.int .i64) (⟨b10, 1, none⟩ : Addr) fun (x14 : Int) =>
 sif (decide (x13 < x14)) (
 J11 (true, ())) (
 ld (.sl) (⟨b10, 2, none⟩ : Addr) fun (x15 : Sl) =>
 J11 ((decide (((x15.len : Nat) : Int) > (0 : Int))), ()))) fun (s12 : Bool × Unit) =>
 sif s12.1 (
 ld (.int .i64) (at0 b10) fun (x16 : Int) =>
 ld (.int .i64) (⟨b10, 1, none⟩ : Addr) fun (x17 : Int) =>
 ld (.sl) (⟨b10, 2, none⟩ : Addr) fun (x18 : Sl) =>
 callT Tryz.prog 64 #[(.pointer a0), (.int .i64 x16), (.int .i64 x17), (.slice x18.a x18.len x18.cap)] (.tup []) fun (x19 : (Unit)) =>
 J6 ()) (
 J6 ())) fun (s7 : Unit) =>
 again5 ((IntKind.wrap .i64 (s4.1 - (1 : Int))), ())) (
 J2 ())) ((IntKind.wrap .i64 (((a1.len : Nat) : Int) - (1 : Int))), ())) fun (s3 : Unit) =>
 K (0 : Int))
noncomputable def h34 : Hint := (hS (hR 1) (hS (hS (hR 4) (hS (hR 2) (hC (hS (hR 2) hL) hL))) (hJ (17592186028224, []) (hS (hR 4) (.block (.loop 17592185913536 [(6, tI)] (hS (hS (hR 2) (hC hL hL)) (hJ (17592183947392, []) (.block (hS (hR 6) (hJ (68685922304, [(35, tB)]) (.region [] (.ops 6 (.split 30 (.skips 4 (hO 1)) (hO 5)))) (hC (hR 8) hL)))) (hR 3)))))) (hS (hR 1) hL))))
theorem F34_calls {a0 : Option Addr} {a1 : Sl} {K : Int → World → Prop} {w : World} (h : F34 a0 a1 K w) : callT Tryz.prog 34 #[(.pointer a0), (.slice a1.a a1.len a1.cap)] (.one (.one (.int .i64))) K w := tied tabOk Tryz.func34 h34 [(.pointer a0), (.slice a1.a a1.len a1.cap)] h
noncomputable def F37 (a0 : Option Addr) (K : Int → World → Prop) : World → Prop :=
 nn a0 fun p1 =>
 lds c84 (p1.add 2) fun (x2 : (Option Addr × Unit)) =>
 callT Tryz.prog 65 #[(.agg (Cells.vals c84 x2).toArray)] (.one (.agg c91)) fun (x3 : (Int × Int × Int × Bool × Bool × Unit)) =>
 K x3.1
noncomputable def h37 : Hint := (hS (hR 1) (hS (hR 7) hL))
theorem F37_calls {a0 : Option Addr} {K : Int → World → Prop} {w : World} (h : F37 a0 K w) : callT Tryz.prog 37 #[(.pointer a0)] (.one (.one (.int .i64))) K w := tied tabOk Tryz.func37 h37 [(.pointer a0)] h
noncomputable def F50 (a0 : Option Addr) (a1 : Int) (K : Int → World → Prop) : World → Prop :=
 sif (decide (a1 ≤ (0 : Int))) (
 K (0 : Int)) (
 callT Tryz.prog 37 #[(.pointer a0)] (.one (.one (.int .i64))) fun (x1 : Int) =>
 sif (decide (a1 ≥ x1)) (
 nn a0 fun p2 =>
 lds c84 (p2.add 2) fun (x3 : (Option Addr × Unit)) =>
 callT Tryz.prog 65 #[(.agg (Cells.vals c84 x3).toArray)] (.one (.agg c91)) fun (x4 : (Int × Int × Int × Bool × Bool × Unit)) =>
 K x4.2.2.1) (
 callT Tryz.prog 83 #[(.pointer a0), (.int .i64 a1)] (.one (.agg c91)) fun (x5 : (Int × Int × Int × Bool × Bool × Unit)) =>
 newO (.cells #[(.int .i64 (0 : Int)), (.int .i64 (0 : Int)), (.int .i64 (0 : Int)), (.bool false), (.bool false)] 91) fun b6 =>
 aggSt (at0 b6) (.agg (Cells.vals c91 x5).toArray) 5 <|
 join (S := Bool × Unit) (fun J7 =>
 ld (.bool) (⟨b6, 4, none⟩ : Addr) fun (x9 : Bool) =>
 sif x9 (
 callT Tryz.prog 25 #[(.pointer a0), (.int .i64 a1), (.int .i64 (IntKind.wrap .i64 (a1 + (1 : Int))))] (.one (.one .sl)) fun (x10 : Sl) =>
 ix x10.a x10.len (0 : Int) fun p11 =>
 ld (.int .i64) (p11.add (scaled (Int.toNat (0 : Int)) 1)) fun (x12 : Int) =>
 J7 ((x12 == (10 : Int)), ())) (
 J7 (false, ()))) fun (s8 : Bool × Unit) =>
 sif s8.1 (
 ld (.int .i64) (⟨b6, 2, none⟩ : Addr) fun (x13 : Int) =>
 K (IntKind.wrap .i64 (x13 - (1 : Int)))) (
 ld (.int .i64) (⟨b6, 2, none⟩ : Addr) fun (x14 : Int) =>
 K x14)))
noncomputable def h50 : Hint := (hS (hR 1) (hS (.block (hS (hR 3) (hC (hS (hR 1) hL) (hS (hR 5) (hC (hS (hR 7) hL) hL))))) (hS (hR 5) (hS (hJ (34351349760, [(34, tB)]) (.region [] (.ops 3 (.split 25 (hO 9) (.skips 8 (hO 1))))) (hC (hS (hR 4) hL) hL)) (hS (hR 3) hL)))))
theorem F50_calls {a0 : Option Addr} {a1 : Int} {K : Int → World → Prop} {w : World} (h : F50 a0 a1 K w) : callT Tryz.prog 50 #[(.pointer a0), (.int .i64 a1)] (.one (.one (.int .i64))) K w := tied tabOk Tryz.func50 h50 [(.pointer a0), (.int .i64 a1)] h
noncomputable def F53 (a0 : Int) (a1 : Sl) (a2 : Int) (K : (Int × Int × Unit) → World → Prop) : World → Prop :=
 callT Tryz.prog 92 #[(.int .i64 a0)] (.one (.one .any)) fun (x1 : Value) =>
 join (S := Bool × Unit) (fun J2 =>
 rdB Tryz.prog (do eqGuard .eql 118 (Operand.tmp 11) (Operand.const Value.nilIface) x1 .nilIface; binOp .eql 118 x1 .nilIface : Sem Value) fun r4 =>
 sif r4 (
 J2 (true, ())) (
 sif (decide (a2 < (0 : Int))) (
 J2 (true, ())) (
 J2 ((decide (a2 ≥ ((a1.len : Nat) : Int))), ())))) fun (s3 : Bool × Unit) =>
 sif s3.1 (
 K ((0 : Int), (0 : Int), ())) (
 drew <|
 slc a1.a a2 ((a1.len : Nat) : Int) ((a1.cap : Nat) : Int) a1.cap 1 fun x5 =>
 chk (methOk Tryz.prog x1 "copyist/codec.first") <|
 callX Tryz.prog (invoke (.fn (.method "copyist/codec.first") #[]) (#[x1] ++ #[(.slice x5.a x5.len x5.cap)])) (.tup [(.one (.int .i64)), (.one (.int .i64))]) fun (x6 : (Int × Int × Unit)) =>
 K (x6.1, x6.2.1, ()))
noncomputable def h53 : Hint := (hS (hR 2) (hS (hR 3) (hS (hJ (8386560, [(22, tB)]) (.region [] (.ops 3 (.split 13 (.skips 2 (.ops 2 (.skips 4 (hO 1)))) (.ops 4 (.split 17 (.skips 4 (hO 1)) (hO 5)))))) (hC (hS (hR 2) hL) hL)) (hS (.region [0, 1, 2, 3, 4, 5, 6, 7, 8, 9, 10, 11] (hO 12)) hL))))
theorem F53_calls {a0 : Int} {a1 : Sl} {a2 : Int} {K : (Int × Int × Unit) → World → Prop} {w : World} (h : F53 a0 a1 a2 K w) : callT Tryz.prog 53 #[(.int .i64 a0), (.slice a1.a a1.len a1.cap), (.int .i64 a2)] (.tup [(.one (.int .i64)), (.one (.int .i64))]) K w := tied tabOk Tryz.func53 h53 [(.int .i64 a0), (.slice a1.a a1.len a1.cap), (.int .i64 a2)] h
noncomputable def F54 (a0 : Int) (a1 : Sl) (a2 : Int) (K : (Sl × Int × Int × Int × Int × Bool × Bool × Unit) → World → Prop) : World → Prop :=
 newO (.cells #[(.slice none 0 0), (.int .i64 (0 : Int)), (.int .i64 (0 : Int)), (.int .i64 (0 : Int)), (.int .i64 (0 : Int)), (.bool false), (.bool false)] 93) fun b1 =>
 newO (.cells #[(.slice none 0 0), (.int .i64 (0 : Int)), (.int .i64 (0 : Int)), (.int .i64 (0 : Int)), (.int .i64 (0 : Int)), (.bool false), (.bool false)] 93) fun b2 =>
 aggSt (at0 b2) (.agg #[(.slice a1.a a1.len a1.cap), (.int .i64 a2), (.int .i64 (0 : Int)), (.int .i64 (0 : Int)), (.int .i64 (0 : Int)), (.bool false), (.bool false)]) 7 <|
 join (S := Unit) (fun J3 =>
 sloop (S := Int × Unit) (fun (s5 : Int × Unit) again6 =>
 sif (decide (s5.1 < ((a1.len : Nat) : Int))) (
 callT Tryz.prog 53 #[(.int .i64 a0), (.slice a1.a a1.len a1.cap), (.int .i64 s5.1)] (.tup [(.one (.int .i64)), (.one (.int .i64))]) fun (x7 : (Int × Int × Unit)) =>
 drew <|
 lds c91 (⟨b2, 2, none⟩ : Addr) fun (x8 : (Int × Int × Int × Bool × Bool × Unit)) =>
 callT Tryz.prog 94 #[(.int .i64 x7.1), (.int .i64 x7.2.1)] (.one (.agg c91)) fun (x9 : (Int × Int × Int × Bool × Bool × Unit)) =>
 keep (fun w => cellsAt w (⟨b2, 2, none⟩ : Addr) 0 (Cells.vals c91 x8)) <|
 callT Tryz.prog 93 #[(.agg (Cells.vals c91 x8).toArray), (.agg (Cells.vals c91 x9).toArray)] (.one (.agg c91)) fun (x10 : (Int × Int × Int × Bool × Bool × Unit)) =>
 aggSt (⟨b2, 2, none⟩ : Addr) (.agg (Cells.vals c91 x10).toArray) 5 <|
 again6 ((IntKind.wrap .i64 (s5.1 + x7.2.1)), ())) (
 J3 ())) ((0 : Int), ())) fun (s4 : Unit) =>
 lds c93 (at0 b2) fun (x11 : (Sl × Int × Int × Int × Int × Bool × Bool × Unit)) =>
 aggSt (at0 b1) (.agg (Cells.vals c93 x11).toArray) 7 <|
 lds c93 (at0 b1) fun (x12 : (Sl × Int × Int × Int × Int × Bool × Bool × Unit)) =>
 K x12
noncomputable def h54 : Hint := (hS (hR 1) (hS (hR 5) (hJ (34359723776, []) (hS (hR 1) (.block (.loop 34359723776 [(8, tI)] (hS (hS (hR 4) (hC hL hL)) (.block (hS (hR 9) (hS (.region [0, 1, 2, 3, 4, 5, 6, 7] (hO 8)) (hR 4)))))))) (hS (hR 2) hL))))
theorem F54_calls {a0 : Int} {a1 : Sl} {a2 : Int} {K : (Sl × Int × Int × Int × Int × Bool × Bool × Unit) → World → Prop} {w : World} (h : F54 a0 a1 a2 K w) : callT Tryz.prog 54 #[(.int .i64 a0), (.slice a1.a a1.len a1.cap), (.int .i64 a2)] (.one (.agg c93)) K w := tied tabOk Tryz.func54 h54 [(.int .i64 a0), (.slice a1.a a1.len a1.cap), (.int .i64 a2)] h
noncomputable def F55 (a0 : Sl) (K : (Option Addr × Unit) → World → Prop) : World → Prop :=
 newO (.cells #[(.pointer none)] 84) fun b1 =>
 callT Tryz.prog 95 #[(.slice a0.a a0.len a0.cap)] (.one (.one .ptr)) fun (x2 : Option Addr) =>
 aggSt (at0 b1) (.agg #[(.pointer x2)]) 1 <|
 lds c84 (at0 b1) fun (x3 : (Option Addr × Unit)) =>
 K x3
noncomputable def h55 : Hint := (hS (hR 1) (hS (hR 4) hL))
theorem F55_calls {a0 : Sl} {K : (Option Addr × Unit) → World → Prop} {w : World} (h : F55 a0 K w) : callT Tryz.prog 55 #[(.slice a0.a a0.len a0.cap)] (.one (.agg c84)) K w := tied tabOk Tryz.func55 h55 [(.slice a0.a a0.len a0.cap)] h
noncomputable def F57 (a0 : Option Addr) (a1 : Int) (a2 : Int) (a3 : Value) (K : Unit → World → Prop) : World → Prop :=
 newO (.cells #[(.pointer a0)] 27) fun b1 =>
 chk (oneAll [a3] = true) <|
 newO (.cells #[a3] 97) fun b2 =>
 ld (.ptr) (at0 b1) fun (x3 : Option Addr) =>
 callT Tryz.prog 37 #[(.pointer x3)] (.one (.one (.int .i64))) fun (x4 : Int) =>
 sif (decide ((if (0 : Int) > a1 then (0 : Int) else a1) ≥ (if x4 < a2 then x4 else a2))) (
 K ()) (
 ld (.ptr) (at0 b1) fun (x5 : Option Addr) =>
 callT Tryz.prog 99 #[(.pointer x5), (.int .i64 (if (0 : Int) > a1 then (0 : Int) else a1))] (.tup [(.one (.int .i64)), (.one (.int .i64))]) fun (x6 : (Int × Int × Unit)) =>
 newO (.cells #[(.int .i64 (0 : Int))] 3) fun b7 =>
 stC (at0 b7) (.int .i64 x6.2.1) <|
 newO (.cells #[(.int .i64 (0 : Int))] 3) fun b8 =>
 stC (at0 b8) (.int .i64 (IntKind.wrap .i64 ((if x4 < a2 then x4 else a2) - (if (0 : Int) > a1 then (0 : Int) else a1)))) <|
 ld (.ptr) (at0 b1) fun (x9 : Option Addr) =>
 nn x9 fun p10 =>
 lds c84 (p10.add 2) fun (x11 : (Option Addr × Unit)) =>
 callT Tryz.prog 100 #[(.agg (Cells.vals c84 x11).toArray), (.int .i64 x6.1)] (.one (.one .any)) fun (x12 : Value) =>
 rangeE (S := (Sl × Int × Int × Int × Int × Bool × Bool × Unit) × Unit) Tryz.prog (Slots.vals [(39, (.agg c93))]) x12 (fun l13 rc14 R15 (s16 : (Sl × Int × Int × Int × Int × Bool × Bool × Unit) × Unit) =>
 newO (.cells #[(.slice none 0 0), (.int .i64 (0 : Int)), (.int .i64 (0 : Int)), (.int .i64 (0 : Int)), (.int .i64 (0 : Int)), (.bool false), (.bool false)] 93) fun b18 =>
 aggSt (at0 b18) (.agg (Cells.vals c93 s16.1).toArray) 7 <|
 begR l13 rc14 <|
 sloop (S := Int × Unit) (fun (s19 : Int × Unit) again20 =>
 ld (.sl) (at0 b18) fun (x21 : Sl) =>
 sif (decide (s19.1 < ((x21.len : Nat) : Int))) (
 drew <|
 ld (.ptr) (at0 b1) fun (x22 : Option Addr) =>
 nn x22 fun p23 =>
 ld (.int .i64) p23 fun (x24 : Int) =>
 ld (.sl) (at0 b18) fun (x25 : Sl) =>
 callT Tryz.prog 53 #[(.int .i64 x24), (.slice x25.a x25.len x25.cap), (.int .i64 s19.1)] (.tup [(.one (.int .i64)), (.one (.int .i64))]) fun (x26 : (Int × Int × Unit)) =>
 join (S := Unit) (fun J27 =>
 ld (.int .i64) (at0 b7) fun (x29 : Int) =>
 sif (decide (x29 > (0 : Int))) (
 ld (.int .i64) (at0 b7) fun (x30 : Int) =>
 stC (at0 b7) (.int .i64 (IntKind.wrap .i64 (x30 - (1 : Int)))) <|
 J27 ()) (
 join (S := Unit) (fun J31 =>
 ld (.int .i64) (⟨b18, 1, none⟩ : Addr) fun (x33 : Int) =>
 sif (decide (x33 < (0 : Int))) (
 ld (.any) (at0 b2) fun (x34 : Value) =>
 callX Tryz.prog (do let d ← Deferred.ofValue x34 #[(.int .i64 x26.1), (.int .i64 (-1 : Int))]; invoke d.target d.args : Sem Next) (.tup []) fun (x35 : (Unit)) =>
 J31 ()) (
 ld (.any) (at0 b2) fun (x36 : Value) =>
 ld (.int .i64) (⟨b18, 1, none⟩ : Addr) fun (x37 : Int) =>
 callX Tryz.prog (do let d ← Deferred.ofValue x36 #[(.int .i64 x26.1), (.int .i64 (IntKind.wrap .i64 (x37 + s19.1)))]; invoke d.target d.args : Sem Next) (.tup []) fun (x38 : (Unit)) =>
 J31 ())) fun (s32 : Unit) =>
 ld (.int .i64) (at0 b8) fun (x39 : Int) =>
 stC (at0 b8) (.int .i64 (IntKind.wrap .i64 (x39 - (1 : Int)))) <|
 ld (.int .i64) (at0 b8) fun (x40 : Int) =>
 sif (x40 == (0 : Int)) (
 endR l13 rc14 (some .ret) R15) (
 J27 ()))) fun (s28 : Unit) =>
 again20 ((IntKind.wrap .i64 (s19.1 + x26.2.1)), ())) (
 endR l13 rc14 none R15)) ((0 : Int), ())) fun D17 => aft (
 endM D17 <|
 K ()) (fun i41 =>
 onE i41 0 (
 endM D17 <|
 K ()) (
 fun _ => False)) (
 endM D17 <|
 K ()))
noncomputable def h57 : Hint := (hS (hR 2) (hS (hR 8) (hS (hS (hR 3) (hC hL hL)) (hS (hR 9) (hS (hR 5) (hS (hR 6) (.block (.range [(39, (.agg c93))] (hR 2) (.block (hS (hR 1) (.block (.loop 1208925819613529663107072 [(12, tI)] (hS (hS (hR 5) (hC hL hL)) (.block (hS (.region [0, 1, 2, 3, 4, 5, 6, 7, 8, 9, 10, 11, 12] (hO 13)) (hJ (151115655394234608910336, []) (hS (hR 2) (hC (hR 3) (hJ (9443580044234683580416, []) (hS (hR 3) (hC (hR 3) (hR 7))) (hS (hR 3) (hS (hR 2) (hC hL hL)))))) (hR 4)))))))))))))))))
theorem F57_calls {a0 : Option Addr} {a1 : Int} {a2 : Int} {a3 : Value} {K : Unit → World → Prop} {w : World} (h : F57 a0 a1 a2 a3 K w) : callT Tryz.prog 57 #[(.pointer a0), (.int .i64 a1), (.int .i64 a2), a3] (.tup []) K w := tied tabOk Tryz.func57 h57 [(.pointer a0), (.int .i64 a1), (.int .i64 a2), a3] h
noncomputable def F58 (a0 : Int) (a1 : Int) (v0 : Addr) (K : Unit → World → Prop) : World → Prop :=
 ld (.sl) v0 fun (x1 : Sl) =>
 newO (.cells #[(.int .i64 a0)] 3) fun b2 =>
 rawT Tryz.prog (.one (.one .sl)) (Builtin.append_ #[37, 37] 37 #[(.slice x1.a x1.len x1.cap), (.slice (some (at0 b2)) 1 1)]) fun (x3 : Sl) =>
 stC v0 (.slice x3.a x3.len x3.cap) <|
 K ()
noncomputable def h58 : Hint := (hR 5)
theorem F58_calls {a0 : Int} {a1 : Int} {v0 : Addr} {K : Unit → World → Prop} {w : World} (h : F58 a0 a1 v0 K w) : callT Tryz.prog 58 #[(.int .i64 a0), (.int .i64 a1), (.pointer (some v0))] (.tup []) K w := tied tabOk Tryz.func58 h58 [(.int .i64 a0), (.int .i64 a1), (.pointer (some v0))] h
noncomputable def F63 (a0 : Option Addr) (a1 : Sl) (K : Int → World → Prop) : World → Prop :=
 sif (decide (((a1.len : Nat) : Int) > (70000 : Int))) (
 K (3 : Int)) (
 callT Tryz.prog 37 #[(.pointer a0)] (.one (.one (.int .i64))) fun (x1 : Int) =>
 join (S := Unit) (fun J2 =>
 sloop (S := Int × Int × Unit) (fun (s4 : Int × Int × Unit) again5 =>
 sif (decide (s4.2.1 < ((a1.len : Nat) : Int))) (
 ix a1.a a1.len s4.2.1 fun p6 =>
 lds c103 (p6.add (scaled (Int.toNat s4.2.1) 3)) fun (x7 : (Int × Int × Sl × Unit)) =>
 newO (.cells #[(.int .i64 (0 : Int)), (.int .i64 (0 : Int)), (.slice none 0 0)] 103) fun b8 =>
 aggSt (at0 b8) (.agg (Cells.vals c103 x7).toArray) 3 <|
 join (S := Bool × Unit) (fun J9 =>
 ld (.int .i64) (at0 b8) fun (x11 : Int) =>
 sif (decide (x11 < s4.1)) (
 J9 (true, ())) (
 ld (.int .i64) (⟨b8, 1, none⟩ : Addr) fun (x12 : Int) =>
 ld (.int .i64) (at0 b8) fun (x13 : Int) =>
 sif (decide (x12 < x13)) (
 J9 (true, ())) (
 ld (.int .i64) (⟨b8, 1, none⟩ : Addr) fun (x14 : Int) =>
 J9 ((decide (x14 > x1)), ())))) fun (s10 : Bool × Unit) =>
 sif s10.1 (
 K (2 : Int)) (
 ld (.int .i64) (⟨b8, 1, none⟩ : Addr) fun (x15 : Int) =>
 again5 (x15, (IntKind.wrap .i64 (s4.2.1 + (1 : Int))), ()))) (
 J2 ())) ((0 : Int), (0 : Int), ())) fun (s3 : Unit) =>
 callT Tryz.prog 106 #[(.pointer a0)] (.one (.one (.int .i64))) fun (x16 : Int) =>
 join (S := Int × Unit) (fun J17 =>
 sloop (S := Int × Int × Unit) (fun (s19 : Int × Int × Unit) again20 =>
 sif (decide (s19.2.1 < ((a1.len : Nat) : Int))) (
 join (S := Int × Unit) (fun J21 =>
 ix a1.a a1.len s19.2.1 fun p23 =>
 lds c103 (p23.add (scaled (Int.toNat s19.2.1) 3)) fun (x24 : (Int × Int × Sl × Unit)) =>
 newO (.cells #[(.int .i64 (0 : Int)), (.int .i64 (0 : Int)), (.slice none 0 0)] 103) fun b25 =>
 aggSt (at0 b25) (.agg (Cells.vals c103 x24).toArray) 3 <|
 ld (.sl) (⟨b25, 2, none⟩ : Addr) fun (x26 : Sl) =>
 sloop (S := Int × Int × Unit) (fun (s27 : Int × Int × Unit) again28 =>
 sif (decide (s27.2.1 < ((x26.len : Nat) : Int))) (
 ix x26.a x26.len s27.2.1 fun p29 =>
 ld (.int .i64) (p29.add (scaled (Int.toNat s27.2.1) 1)) fun (x30 : Int) =>
 nn a0 fun p31 =>
 ld (.int .i64) p31 fun (x32 : Int) =>
 callT Tryz.prog 107 #[(.int .i64 x32), (.int .i64 x30)] (.one (.one (.int .i64))) fun (x33 : Int) =>
 sif (x33 == (0 : Int)) (
 K (11 : Int)) (
 again28 ((IntKind.wrap .i64 (s27.1 + x33)), (IntKind.wrap .i64 (s27.2.1 + (1 : Int))), ()))) (
 J21 (s27.1, ()))) (s19.1, (0 : Int), ())) fun (s22 : Int × Unit) =>
 again20 (s22.1, (IntKind.wrap .i64 (s19.2.1 + (1 : Int))), ())) (
 J17 (s19.1, ()))) (x16, (0 : Int), ())) fun (s18 : Int × Unit) =>
 join (S := Int × Unit) (fun J34 =>
 sloop (S := Int × Int × Unit) (fun (s36 : Int × Int × Unit) again37 =>
 sif (decide (s36.2.1 < ((a1.len : Nat) : Int))) (
 join (S := Int × Unit) (fun J38 =>
 ix a1.a a1.len s36.2.1 fun p40 =>
 lds c103 (p40.add (scaled (Int.toNat s36.2.1) 3)) fun (x41 : (Int × Int × Sl × Unit)) =>
 newO (.cells #[(.int .i64 (0 : Int)), (.int .i64 (0 : Int)), (.slice none 0 0)] 103) fun b42 =>
 aggSt (at0 b42) (.agg (Cells.vals c103 x41).toArray) 3 <|
 ld (.int .i64) (⟨b42, 1, none⟩ : Addr) fun (x43 : Int) =>
 ld (.int .i64) (at0 b42) fun (x44 : Int) =>
 sif (decide (x43 > x44)) (
 drew <|
 ld (.int .i64) (⟨b42, 1, none⟩ : Addr) fun (x45 : Int) =>
 ld (.int .i64) (at0 b42) fun (x46 : Int) =>
 callT Tryz.prog 83 #[(.pointer a0), (.int .i64 x45)] (.one (.agg c91)) fun (x47 : (Int × Int × Int × Bool × Bool × Unit)) =>
 keep (fun w => w.cell? (at0 b42) = some (Cell.val (.int .i64) x46)) <|
 callT Tryz.prog 83 #[(.pointer a0), (.int .i64 x46)] (.one (.agg c91)) fun (x48 : (Int × Int × Int × Bool × Bool × Unit)) =>
 J38 ((IntKind.wrap .i64 (s36.1 - (IntKind.wrap .i64 (x47.2.1 - x48.2.1)))), ())) (
 J38 (s36.1, ()))) fun (s39 : Int × Unit) =>
 again37 (s39.1, (IntKind.wrap .i64 (s36.2.1 + (1 : Int))), ())) (
 J34 (s36.1, ()))) (s18.1, (0 : Int), ())) fun (s35 : Int × Unit) =>
 nn a0 fun p49 =>
 ld (.int .i64) (p49.add 1) fun (x50 : Int) =>
 sif (decide (s35.1 > x50)) (
 K (50 : Int)) (
 K (0 : Int)))
noncomputable def h63 : Hint := (hS (hR 1) (hS (hS (hR 3) (hC (hS (hR 1) hL) hL)) (hS (hR 4) (hJ (281474972516656, []) (hS (hR 3) (.block (.loop 281474959933744 [(5, tI), (24, tI)] (hS (hR 1) (hS (hC hL hL) (hS (.block (hS (hR 4) (hS (hJ (35184103653376, [(44, tB)]) (.region [] (.ops 5 (.split 32 (.skips 5 (.ops 2 (.skips 4 (hO 1)))) (.ops 7 (.split 39 (.skips 4 (hO 1)) (hO 5)))))) (hC (hS (hR 1) hL) hL)) (hR 3)))) (hR 2))))))) (hS (hR 3) (hJ (75557862600014416603664, [(9, tI)]) (hS (hR 3) (.block (.loop 75557859222314696075792 [(9, tI), (52, tI)] (hS (hR 1) (hS (hC hL hL) (hJ (37778913848558652254736, [(9, tI)]) (.block (hS (hR 4) (hS (hR 4) (.block (.loop 37778355402204858311184 [(9, tI), (59, tI)] (hS (hR 1) (hS (hC hL hL) (hS (.block (hS (hR 3) (hS (hR 7) (hS (hS (hR 2) (hC (hS (hR 1) hL) hL)) (hR 4))))) (hR 2))))))))) (hR 2))))))) (hJ (2535301124898595077079083057664, [(9, tI)]) (hS (hR 3) (.block (.loop 2535300898225003899336112800256 [(9, tI), (78, tI)] (hS (hR 1) (hS (hC hL hL) (hJ (1267649391302409786867528565248, [(9, tI)]) (.block (hS (hR 4) (hS (hR 5) (hC (.region [0, 1, 2, 3, 6, 7, 8, 4, 5, 9, 10, 11, 12, 13] (hO 14)) hL)))) (hR 2))))))) (hS (hS (hR 6) (hC (hS (hR 1) hL) hL)) (hS (hR 1) hL)))))))))
theorem F63_calls {a0 : Option Addr} {a1 : Sl} {K : Int → World → Prop} {w : World} (h : F63 a0 a1 K w) : callT Tryz.prog 63 #[(.pointer a0), (.slice a1.a a1.len a1.cap)] (.one (.one (.int .i64))) K w := tied tabOk Tryz.func63 h63 [(.pointer a0), (.slice a1.a a1.len a1.cap)] h
noncomputable def F64 (a0 : Option Addr) (a1 : Int) (a2 : Int) (a3 : Sl) (K : Unit → World → Prop) : World → Prop :=
 callT Tryz.prog 99 #[(.pointer a0), (.int .i64 a1)] (.tup [(.one (.int .i64)), (.one (.int .i64))]) fun (x1 : (Int × Int × Unit)) =>
 callT Tryz.prog 99 #[(.pointer a0), (.int .i64 a2)] (.tup [(.one (.int .i64)), (.one (.int .i64))]) fun (x2 : (Int × Int × Unit)) =>
 join (S := Sl × Unit) (fun J3 =>
 nn a0 fun p5 =>
 lds c84 (p5.add 2) fun (x6 : (Option Addr × Unit)) =>
 callT Tryz.prog 108 #[(.agg (Cells.vals c84 x6).toArray), (.int .i64 x1.1)] (.tup [(.agg c93), (.one .bool)]) fun (x7 : ((Sl × Int × Int × Int × Int × Bool × Bool × Unit) × Bool × Unit)) =>
 newO (.cells #[(.slice none 0 0), (.int .i64 (0 : Int)), (.int .i64 (0 : Int)), (.int .i64 (0 : Int)), (.int .i64 (0 : Int)), (.bool false), (.bool false)] 93) fun b8 =>
 aggSt (at0 b8) (.agg (Cells.vals c93 x7.1).toArray) 7 <|
 join (S := Bool × Unit) (fun J9 =>
 sif x7.2.1 (
 J9 ((decide (x1.2.1 > (0 : Int))), ())) (
 J9 (false, ()))) fun (s10 : Bool × Unit) =>
 sif s10.1 (
 join (S := Addr × Unit) (fun J11 =>
 drew <|
 lds c93 (at0 b8) fun (x13 : (Sl × Int × Int × Int × Int × Bool × Bool × Unit)) =>
 nn a0 fun p14 =>
 ld (.int .i64) p14 fun (x15 : Int) =>
 both (
 newO (.cells #[(.slice none 0 0), (.int .i64 (0 : Int)), (.int .i64 (0 : Int)), (.int .i64 (0 : Int)), (.int .i64 (0 : Int)), (.bool false), (.bool false)] 93) fun b16 =>
 keep (fun w => w.cell? p14 = some (Cell.val (.int .i64) x15)) <|
 keep (fun w => cellsAt w (at0 b8) 0 (Cells.vals c93 x13)) <|
 both (
 newO (.cells #[(.slice none 0 0), (.int .i64 (0 : Int)), (.int .i64 (0 : Int)), (.int .i64 (0 : Int)), (.int .i64 (0 : Int)), (.bool false), (.bool false)] 93) fun b17 =>
 keep (fun w => w.cell? p14 = some (Cell.val (.int .i64) x15)) <|
 keep (fun w => cellsAt w (at0 b8) 0 (Cells.vals c93 x13)) <|
 callT Tryz.prog 109 #[(.agg (Cells.vals c93 x13).toArray), (.int .i64 x15), (.int .i64 x1.2.1)] (.tup [(.agg c93), (.agg c93)]) fun (x18 : ((Sl × Int × Int × Int × Int × Bool × Bool × Unit) × (Sl × Int × Int × Int × Int × Bool × Bool × Unit) × Unit)) =>
 aggSt (at0 b16) (.agg (Cells.vals c93 x18.1).toArray) 7 <|
 aggSt (at0 b17) (.agg (Cells.vals c93 x18.2.1).toArray) 7 <|
 J11 ((at0 b16), ())) <|
 callT Tryz.prog 109 #[(.agg (Cells.vals c93 x13).toArray), (.int .i64 x15), (.int .i64 x1.2.1)] (.tup [(.agg c93), (.agg c93)]) fun (x19 : ((Sl × Int × Int × Int × Int × Bool × Bool × Unit) × (Sl × Int × Int × Int × Int × Bool × Bool × Unit) × Unit)) =>
 both (
 newO (.cells #[(.slice none 0 0), (.int .i64 (0 : Int)), (.int .i64 (0 : Int)), (.int .i64 (0 : Int)), (.int .i64 (0 : Int)), (.bool false), (.bool false)] 93) fun b20 =>
 keep (fun w => w.cell? p14 = some (Cell.val (.int .i64) x15)) <|
 keep (fun w => cellsAt w (at0 b8) 0 (Cells.vals c93 x13)) <|
 aggSt (at0 b16) (.agg (Cells.vals c93 x19.1).toArray) 7 <|
 aggSt (at0 b20) (.agg (Cells.vals c93 x19.2.1).toArray) 7 <|
 J11 ((at0 b16), ())) <|
 nothing) <|
 both (
 newO (.cells #[(.slice none 0 0), (.int .i64 (0 : Int)), (.int .i64 (0 : Int)), (.int .i64 (0 : Int)), (.int .i64 (0 : Int)), (.bool false), (.bool false)] 93) fun b21 =>
 keep (fun w => w.cell? p14 = some (Cell.val (.int .i64) x15)) <|
 keep (fun w => cellsAt w (at0 b8) 0 (Cells.vals c93 x13)) <|
 both (
 newO (.cells #[(.slice none 0 0), (.int .i64 (0 : Int)), (.int .i64 (0 : Int)), (.int .i64 (0 : Int)), (.int .i64 (0 : Int)), (.bool false), (.bool false)] 93) fun b22 =>
 keep (fun w => w.cell? p14 = some (Cell.val (.int .i64) x15)) <|
 keep (fun w => cellsAt w (at0 b8) 0 (Cells.vals c93 x13)) <|
 callT Tryz.prog 109 #[(.agg (Cells.vals c93 x13).toArray), (.int .i64 x15), (.int .i64 x1.2.1)] (.tup [(.agg c93), (.agg c93)]) fun (x23 : ((Sl × Int × Int × Int × Int × Bool × Bool × Unit) × (Sl × Int × Int × Int × Int × Bool × Bool × Unit) × Unit)) =>
 aggSt (at0 b22) (.agg (Cells.vals c93 x23.1).toArray) 7 <|
 aggSt (at0 b21) (.agg (Cells.vals c93 x23.2.1).toArray) 7 <|
 J11 ((at0 b22), ())) <|
 callT Tryz.prog 109 #[(.agg (Cells.vals c93 x13).toArray), (.int .i64 x15), (.int .i64 x1.2.1)] (.tup [(.agg c93), (.agg c93)]) fun (x24 : ((Sl × Int × Int × Int × Int × Bool × Bool × Unit) × (Sl × Int × Int × Int × Int × Bool × Bool × Unit) × Unit)) =>
 both (
 newO (.cells #[(.slice none 0 0), (.int .i64 (0 : Int)), (.int .i64 (0 : Int)), (.int .i64 (0 : Int)), (.int .i64 (0 : Int)), (.bool false), (.bool false)] 93) fun b25 =>
 keep (fun w => w.cell? p14 = some (Cell.val (.int .i64) x15)) <|
 keep (fun w => cellsAt w (at0 b8) 0 (Cells.vals c93 x13)) <|
 aggSt (at0 b25) (.agg (Cells.vals c93 x24.1).toArray) 7 <|
 aggSt (at0 b21) (.agg (Cells.vals c93 x24.2.1).toArray) 7 <|
 J11 ((at0 b25), ())) <|
 nothing) <|
 callT Tryz.prog 109 #[(.agg (Cells.vals c93 x13).toArray), (.int .i64 x15), (.int .i64 x1.2.1)] (.tup [(.agg c93), (.agg c93)]) fun (x26 : ((Sl × Int × Int × Int × Int × Bool × Bool × Unit) × (Sl × Int × Int × Int × Int × Bool × Bool × Unit) × Unit)) =>
 both (
 newO (.cells #[(.slice none 0 0), (.int .i64 (0 : Int)), (.int .i64 (0 : Int)), (.int .i64 (0 : Int)), (.int .i64 (0 : Int)), (.bool false), (.bool false)] 93) fun b27 =>
 keep (fun w => w.cell? p14 = some (Cell.val (.int .i64) x15)) <|
 keep (fun w => cellsAt w (at0 b8) 0 (Cells.vals c93 x13)) <|
 both (
 newO (.cells #[(.slice none 0 0), (.int .i64 (0 : Int)), (.int .i64 (0 : Int)), (.int .i64 (0 : Int)), (.int .i64 (0 : Int)), (.bool false), (.bool false)] 93) fun b28 =>
 keep (fun w => w.cell? p14 = some (Cell.val (.int .i64) x15)) <|
 keep (fun w => cellsAt w (at0 b8) 0 (Cells.vals c93 x13)) <|
 aggSt (at0 b27) (.agg (Cells.vals c93 x26.1).toArray) 7 <|
 aggSt (at0 b28) (.agg (Cells.vals c93 x26.2.1).toArray) 7 <|
 J11 ((at0 b27), ())) <|
 nothing) <|
 both (
 newO (.cells #[(.slice none 0 0), (.int .i64 (0 : Int)), (.int .i64 (0 : Int)), (.int .i64 (0 : Int)), (.int .i64 (0 : Int)), (.bool false), (.bool false)] 93) fun b29 =>
 keep (fun w => w.cell? p14 = some (Cell.val (.int .i64) x15)) <|
 keep (fun w => cellsAt w (at0 b8) 0 (Cells.vals c93 x13)) <|
 both (
 newO (.cells #[(.slice none 0 0), (.int .i64 (0 : Int)), (.int .i64 (0 : Int)), (.int .i64 (0 : Int)), (.int .i64 (0 : Int)), (.bool false), (.bool false)] 93) fun b30 =>
 keep (fun w => w.cell? p14 = some (Cell.val (.int .i64) x15)) <|
 keep (fun w => cellsAt w (at0 b8) 0 (Cells.vals c93 x13)) <|
 aggSt (at0 b30) (.agg (Cells.vals c93 x26.1).toArray) 7 <|
 aggSt (at0 b29) (.agg (Cells.vals c93 x26.2.1).toArray) 7 <|
 J11 ((at0 b30), ())) <|
 nothing) <|
 nothing) fun (s12 : Addr × Unit) =>
 lds c93 s12.1 fun (x31 : (Sl × Int × Int × Int × Int × Bool × Bool × Unit)) =>
 newO (.cells #[(.slice x31.1.a x31.1.len x31.1.cap), (.int .i64 x31.2.1), (.int .i64 x31.2.2.1), (.int .i64 x31.2.2.2.1), (.int .i64 x31.2.2.2.2.1), (.bool x31.2.2.2.2.2.1), (.bool x31.2.2.2.2.2.2.1)] 93) fun b32 =>
 rawT Tryz.prog (.one (.one .sl)) (Builtin.append_ #[87, 87] 87 #[(.slice none 0 0), (.slice (some (at0 b32)) 1 1)]) fun (x33 : Sl) =>
 J3 (x33, ())) (
 J3 (⟨none, 0, 0⟩, ()))) fun (s4 : Sl × Unit) =>
 callT Tryz.prog 110 #[(.pointer a0), (.slice a3.a a3.len a3.cap)] (.one (.one .sl)) fun (x34 : Sl) =>
 rawT Tryz.prog (.one (.one .sl)) (Builtin.append_ #[87, 87] 87 #[(.slice s4.1.a s4.1.len s4.1.cap), (.slice x34.a x34.len x34.cap)]) fun (x35 : Sl) =>
 join (S := Sl × Unit) (fun J36 =>
 nn a0 fun p38 =>
 lds c84 (p38.add 2) fun (x39 : (Option Addr × Unit)) =>
 callT Tryz.prog 108 #[(.agg (Cells.vals c84 x39).toArray), (.int .i64 x2.1)] (.tup [(.agg c93), (.one .bool)]) fun (x40 : ((Sl × Int × Int × Int × Int × Bool × Bool × Unit) × Bool × Unit)) =>
 newO (.cells #[(.slice none 0 0), (.int .i64 (0 : Int)), (.int .i64 (0 : Int)), (.int .i64 (0 : Int)), (.int .i64 (0 : Int)), (.bool false), (.bool false)] 93) fun b41 =>
 aggSt (at0 b41) (.agg (Cells.vals c93 x40.1).toArray) 7 <|
 sif x40.2.1 (
 join (S := Addr × Unit) (fun J42 =>
 drew <|
 lds c93 (at0 b41) fun (x44 : (Sl × Int × Int × Int × Int × Bool × Bool × Unit)) =>
 nn a0 fun p45 =>
 ld (.int .i64) p45 fun (x46 : Int) =>
 both (
 newO (.cells #[(.slice none 0 0), (.int .i64 (0 : Int)), (.int .i64 (0 : Int)), (.int .i64 (0 : Int)), (.int .i64 (0 : Int)), (.bool false), (.bool false)] 93) fun b47 =>
 keep (fun w => w.cell? p45 = some (Cell.val (.int .i64) x46)) <|
 keep (fun w => cellsAt w (at0 b41) 0 (Cells.vals c93 x44)) <|
 both (
 newO (.cells #[(.slice none 0 0), (.int .i64 (0 : Int)), (.int .i64 (0 : Int)), (.int .i64 (0 : Int)), (.int .i64 (0 : Int)), (.bool false), (.bool false)] 93) fun b48 =>
 keep (fun w => w.cell? p45 = some (Cell.val (.int .i64) x46)) <|
 keep (fun w => cellsAt w (at0 b41) 0 (Cells.vals c93 x44)) <|
 callT Tryz.prog 109 #[(.agg (Cells.vals c93 x44).toArray), (.int .i64 x46), (.int .i64 x2.2.1)] (.tup [(.agg c93), (.agg c93)]) fun (x49 : ((Sl × Int × Int × Int × Int × Bool × Bool × Unit) × (Sl × Int × Int × Int × Int × Bool × Bool × Unit) × Unit)) =>
 aggSt (at0 b47) (.agg (Cells.vals c93 x49.1).toArray) 7 <|
 aggSt (at0 b48) (.agg (Cells.vals c93 x49.2.1).toArray) 7 <|
 J42 ((at0 b48), ())) <|
 callT Tryz.prog 109 #[(.agg (Cells.vals c93 x44).toArray), (.int .i64 x46), (.int .i64 x2.2.1)] (.tup [(.agg c93), (.agg c93)]) fun (x50 : ((Sl × Int × Int × Int × Int × Bool × Bool × Unit) × (Sl × Int × Int × Int × Int × Bool × Bool × Unit) × Unit)) =>
 both (
 newO (.cells #[(.slice none 0 0), (.int .i64 (0 : Int)), (.int .i64 (0 : Int)), (.int .i64 (0 : Int)), (.int .i64 (0 : Int)), (.bool false), (.bool false)] 93) fun b51 =>
 keep (fun w => w.cell? p45 = some (Cell.val (.int .i64) x46)) <|
 keep (fun w => cellsAt w (at0 b41) 0 (Cells.vals c93 x44)) <|
 aggSt (at0 b47) (.agg (Cells.vals c93 x50.1).toArray) 7 <|
 aggSt (at0 b51) (.agg (Cells.vals c93 x50.2.1).toArray) 7 <|
 J42 ((at0 b51), ())) <|
 nothing) <|
 both (
 newO (.cells #[(.slice none 0 0), (.int .i64 (0 : Int)), (.int .i64 (0 : Int)), (.int .i64 (0 : Int)), (.int .i64 (0 : Int)), (.bool false), (.bool false)] 93) fun b52 =>
 keep (fun w => w.cell? p45 = some (Cell.val (.int .i64) x46)) <|
 keep (fun w => cellsAt w (at0 b41) 0 (Cells.vals c93 x44)) <|
 both (
 newO (.cells #[(.slice none 0 0), (.int .i64 (0 : Int)), (.int .i64 (0 : Int)), (.int .i64 (0 : Int)), (.int .i64 (0 : Int)), (.bool false), (.bool false)] 93) fun b53 =>
 keep (fun w => w.cell? p45 = some (Cell.val (.int .i64) x46)) <|
 keep (fun w => cellsAt w (at0 b41) 0 (Cells.vals c93 x44)) <|
 callT Tryz.prog 109 #[(.agg (Cells.vals c93 x44).toArray), (.int .i64 x46), (.int .i64 x2.2.1)] (.tup [(.agg c93), (.agg c93)]) fun (x54 : ((Sl × Int × Int × Int × Int × Bool × Bool × Unit) × (Sl × Int × Int × Int × Int × Bool × Bool × Unit) × Unit)) =>
 aggSt (at0 b53) (.agg (Cells.vals c93 x54.1).toArray) 7 <|
 aggSt (at0 b52) (.agg (Cells.vals c93 x54.2.1).toArray) 7 <|
 J42 ((at0 b52), ())) <|
 callT Tryz.prog 109 #[(.agg (Cells.vals c93 x44).toArray), (.int .i64 x46), (.int .i64 x2.2.1)] (.tup [(.agg c93), (.agg c93)]) fun (x55 : ((Sl × Int × Int × Int × Int × Bool × Bool × Unit) × (Sl × Int × Int × Int × Int × Bool × Bool × Unit) × Unit)) =>
 both (
 newO (.cells #[(.slice none 0 0), (.int .i64 (0 : Int)), (.int .i64 (0 : Int)), (.int .i64 (0 : Int)), (.int .i64 (0 : Int)), (.bool false), (.bool false)] 93) fun b56 =>
 keep (fun w => w.cell? p45 = some (Cell.val (.int .i64) x46)) <|
 keep (fun w => cellsAt w (at0 b41) 0 (Cells.vals c93 x44)) <|
 aggSt (at0 b56) (.agg (Cells.vals c93 x55.1).toArray) 7 <|
 aggSt (at0 b52) (.agg (Cells.vals c93 x55.2.1).toArray) 7 <|
 J42 ((at0 b52), ())) <|
 nothing) <|
 callT Tryz.prog 109 #[(.agg (Cells.vals c93 x44).toArray), (.int .i64 x46), (.int .i64 x2.2.1)] (.tup [(.agg c93), (.agg c93)]) fun (x57 : ((Sl × Int × Int × Int × Int × Bool × Bool × Unit) × (Sl × Int × Int × Int × Int × Bool × Bool × Unit) × Unit)) =>
 both (
 newO (.cells #[(.slice none 0 0), (.int .i64 (0 : Int)), (.int .i64 (0 : Int)), (.int .i64 (0 : Int)), (.int .i64 (0 : Int)), (.bool false), (.bool false)] 93) fun b58 =>
 keep (fun w => w.cell? p45 = some (Cell.val (.int .i64) x46)) <|
 keep (fun w => cellsAt w (at0 b41) 0 (Cells.vals c93 x44)) <|
 both (
 newO (.cells #[(.slice none 0 0), (.int .i64 (0 : Int)), (.int .i64 (0 : Int)), (.int .i64 (0 : Int)), (.int .i64 (0 : Int)), (.bool false), (.bool false)] 93) fun b59 =>
 keep (fun w => w.cell? p45 = some (Cell.val (.int .i64) x46)) <|
 keep (fun w => cellsAt w (at0 b41) 0 (Cells.vals c93 x44)) <|
 aggSt (at0 b58) (.agg (Cells.vals c93 x57.1).toArray) 7 <|
 aggSt (at0 b59) (.agg (Cells.vals c93 x57.2.1).toArray) 7 <|
 J42 ((at0 b59), ())) <|
 nothing) <|
 both (
 newO (.cells #[(.slice none 0 0), (.int .i64 (0 : Int)), (.int .i64 (0 : Int)), (.int .i64 (0 : Int)), (.int .i64 (0 : Int)), (.bool false), (.bool false)] 93) fun b60 =>
 keep (fun w => w.cell? p45 = some (Cell.val (.int .i64) x46)) <|
 keep (fun w => cellsAt w (at0 b41) 0 (Cells.vals c93 x44)) <|
 both (
 newO (.cells #[(.slice none 0 0), (.int .i64 (0 : Int)), (.int .i64 (0 : Int)), (.int .i64 (0 : Int)), (.int .i64 (0 : Int)), (.bool false), (.bool false)] 93) fun b61 =>
 keep (fun w => w.cell? p45 = some (Cell.val (.int .i64) x46)) <|
 keep (fun w => cellsAt w (at0 b41) 0 (Cells.vals c93 x44)) <|
 aggSt (at0 b61) (.agg (Cells.vals c93 x57.1).toArray) 7 <|
 aggSt (at0 b60) (.agg (Cells.vals c93 x57.2.1).toArray) 7 <|
 J42 ((at0 b60), ())) <|
 nothing) <|
 nothing) fun (s43 : Addr × Unit) =>
 ld (.int .i64) (s43.1.add 2) fun (x62 : Int) =>
 sif (decide (x62 > (0 : Int))) (
 lds c93 s43.1 fun (x63 : (Sl × Int × Int × Int × Int × Bool × Bool × Unit)) =>
 newO (.cells #[(.slice x63.1.a x63.1.len x63.1.cap), (.int .i64 x63.2.1), (.int .i64 x63.2.2.1), (.int .i64 x63.2.2.2.1), (.int .i64 x63.2.2.2.2.1), (.bool x63.2.2.2.2.2.1), (.bool x63.2.2.2.2.2.2.1)] 93) fun b64 =>
 rawT Tryz.prog (.one (.one .sl)) (Builtin.append_ #[87, 87] 87 #[(.slice x35.a x35.len x35.cap), (.slice (some (at0 b64)) 1 1)]) fun (x65 : Sl) =>
 J36 (x65, ())) (
 J36 (x35, ()))) (
 J36 (x35, ()))) fun (s37 : Sl × Unit) =>
 drew <|
 nn a0 fun p66 =>
 lds c84 (p66.add 2) fun (x67 : (Option Addr × Unit)) =>
 nn a0 fun p68 =>
 lds c84 (p68.add 2) fun (x69 : (Option Addr × Unit)) =>
 callT Tryz.prog 112 #[(.agg (Cells.vals c84 x69).toArray)] (.one (.one (.int .i64))) fun (x70 : Int) =>
 keep (fun w => cellsAt w (p66.add 2) 0 (Cells.vals c84 x67)) <|
 callT Tryz.prog 111 #[(.agg (Cells.vals c84 x67).toArray), (.int .i64 x1.1), (.int .i64 (if x70 < (IntKind.wrap .i64 (x2.1 + (1 : Int))) then x70 else (IntKind.wrap .i64 (x2.1 + (1 : Int))))), (.slice s37.1.a s37.1.len s37.1.cap)] (.tup [(.agg c84), (.one (.int .i64))]) fun (x71 : ((Option Addr × Unit) × Int × Unit)) =>
 nn a0 fun p72 =>
 aggSt (p72.add 2) (.agg (Cells.vals c84 x71.1).toArray) 1 <|
 K ()
noncomputable def h64 : Hint := (hS (hR 8) (hS (hR 8) (hS (hR 1) (hJ (2305843000623886336, [(12, tS)]) (hS (hR 12) (hJ (136339441844224, [(46, tB)]) (.region [] (.ops 2 (.split 43 (hO 3) (.skips 2 (hO 1))))) (hC (hJ (143974450587598848, [(15, (.one .addr))]) (.region [0, 1, 2, 3, 4, 5, 6, 7, 8, 9, 12, 13] (.float [10, 11] (.ops 6 (.alt none (.alt none (.plain (hO 6)) (.ops 4 (.alt none (.plain (hO 2)) .stop))) (.alt none (.alt none (.plain (hO 6)) (.ops 4 (.alt none (.plain (hO 2)) .stop))) (.ops 4 (.alt none (.alt none (.plain (hO 2)) .stop) (.alt none (.alt none (.plain (hO 2)) .stop) .stop)))))))) (hR 5)) hL))) (hS (hR 6) (hJ (19807040554779108103549751296, [(12, tS)]) (hS (hR 12) (hS (hR 1) (hC (hJ (77295694591610352859348992, [(20, (.one .addr))]) (.region [0, 1, 2, 3, 4, 5, 6, 7, 8, 9, 12, 13] (.float [10, 11] (.ops 6 (.alt none (.alt none (.plain (hO 6)) (.ops 4 (.alt none (.plain (hO 2)) .stop))) (.alt none (.alt none (.plain (hO 6)) (.ops 4 (.alt none (.plain (hO 2)) .stop))) (.ops 4 (.alt none (.alt none (.plain (hO 2)) .stop) (.alt none (.alt none (.plain (hO 2)) .stop) .stop)))))))) (hS (hR 4) (hC (hR 5) hL))) hL))) (.region [0, 1, 2, 3, 4, 5, 6, 7, 8, 9, 10, 11, 14, 12, 13, 15, 16, 17, 18, 19, 20, 21] (hO 22))))))))
theorem F64_calls {a0 : Option Addr} {a1 : Int} {a2 : Int} {a3 : Sl} {K : Unit → World → Prop} {w : World} (h : F64 a0 a1 a2 a3 K w) : callT Tryz.prog 64 #[(.pointer a0), (.int .i64 a1), (.int .i64 a2), (.slice a3.a a3.len a3.cap)] (.tup []) K w := tied tabOk Tryz.func64 h64 [(.pointer a0), (.int .i64 a1), (.int .i64 a2), (.slice a3.a a3.len a3.cap)] h
noncomputable def F65 (a0 : (Option Addr × Unit)) (K : (Int × Int × Int × Bool × Bool × Unit) → World → Prop) : World → Prop :=
 newO (.cells #[(.pointer a0.1)] 84) fun b1 =>
 newO (.cells #[(.int .i64 (0 : Int)), (.int .i64 (0 : Int)), (.int .i64 (0 : Int)), (.bool false), (.bool false)] 91) fun b2 =>
 ld (.ptr) (at0 b1) fun (x3 : Option Addr) =>
 sif (Option.isNone x3) (
 newO (.cells #[(.int .i64 (0 : Int)), (.int .i64 (0 : Int)), (.int .i64 (0 : Int)), (.bool false), (.bool false)] 91) fun b4 =>
 lds c91 (at0 b4) fun (x5 : (Int × Int × Int × Bool × Bool × Unit)) =>
 aggSt (at0 b2) (.agg (Cells.vals c91 x5).toArray) 5 <|
 lds c91 (at0 b2) fun (x6 : (Int × Int × Int × Bool × Bool × Unit)) =>
 K x6) (
 ld (.ptr) (at0 b1) fun (x7 : Option Addr) =>
 nn x7 fun p8 =>
 lds c91 (p8.add 11) fun (x9 : (Int × Int × Int × Bool × Bool × Unit)) =>
 aggSt (at0 b2) (.agg (Cells.vals c91 x9).toArray) 5 <|
 lds c91 (at0 b2) fun (x10 : (Int × Int × Int × Bool × Bool × Unit)) =>
 K x10)
noncomputable def h65 : Hint := (hS (hR 2) (hS (hS (hR 3) (hC (hS (hR 1) (hS (hR 2) hL)) hL)) (hS (hR 6) hL)))
theorem F65_calls {a0 : (Option Addr × Unit)} {K : (Int × Int × Int × Bool × Bool × Unit) → World → Prop} {w : World} (h : F65 a0 K w) : callT Tryz.prog 65 #[(.agg (Cells.vals c84 a0).toArray)] (.one (.agg c91)) K w := tied tabOk Tryz.func65 h65 [(.agg (Cells.vals c84 a0).toArray)] h
noncomputable def F66 (a0 : Option Addr) (a1 : Int) (K : Int → World → Prop) : World → Prop :=
 sif (a1 == (0 : Int)) (
 K (0 : Int)) (
 join (S := Bool × Unit) (fun J1 =>
 sif (decide (a1 < (0 : Int))) (
 J1 (true, ())) (
 nn a0 fun p3 =>
 lds c84 (p3.add 2) fun (x4 : (Option Addr × Unit)) =>
 callT Tryz.prog 65 #[(.agg (Cells.vals c84 x4).toArray)] (.one (.agg c91)) fun (x5 : (Int × Int × Int × Bool × Bool × Unit)) =>
 J1 ((decide (a1 > x5.2.2.1)), ()))) fun (s2 : Bool × Unit) =>
 sif s2.1 (
 K (-1 : Int)) (
 nn a0 fun p6 =>
 lds c84 (p6.add 2) fun (x7 : (Option Addr × Unit)) =>
 callT Tryz.prog 113 #[(.agg (Cells.vals c84 x7).toArray), (.int .i64 (1 : Int)), (.int .i64 a1)] (.one (.one (.int .i64))) fun (x8 : Int) =>
 nn a0 fun p9 =>
 lds c84 (p9.add 2) fun (x10 : (Option Addr × Unit)) =>
 callT Tryz.prog 114 #[(.agg (Cells.vals c84 x10).toArray), (.int .i64 (IntKind.wrap .i64 (x8 - (1 : Int))))] (.one (.agg c91)) fun (x11 : (Int × Int × Int × Bool × Bool × Unit)) =>
 newO (.cells #[(.int .i64 (0 : Int)), (.int .i64 (0 : Int)), (.int .i64 (0 : Int)), (.bool false), (.bool false)] 91) fun b12 =>
 aggSt (at0 b12) (.agg (Cells.vals c91 x11).toArray) 5 <|
 nn a0 fun p13 =>
 lds c84 (p13.add 2) fun (x14 : (Option Addr × Unit)) =>
 callT Tryz.prog 108 #[(.agg (Cells.vals c84 x14).toArray), (.int .i64 (IntKind.wrap .i64 (x8 - (1 : Int))))] (.tup [(.agg c93), (.one .bool)]) fun (x15 : ((Sl × Int × Int × Int × Int × Bool × Bool × Unit) × Bool × Unit)) =>
 newO (.cells #[(.slice none 0 0), (.int .i64 (0 : Int)), (.int .i64 (0 : Int)), (.int .i64 (0 : Int)), (.int .i64 (0 : Int)), (.bool false), (.bool false)] 93) fun b16 =>
 aggSt (at0 b16) (.agg (Cells.vals c93 x15.1).toArray) 7 <|
 join (S := Unit) (fun J17 =>
 sloop (S := Int × Unit) (fun (s19 : Int × Unit) again20 =>
 join (S := Bool × Unit) (fun J21 =>
 ld (.sl) (at0 b16) fun (x23 : Sl) =>
 sif (decide (s19.1 < ((x23.len : Nat) : Int))) (
 ld (.int .i64) (⟨b12, 2, none⟩ : Addr) fun (x24 : Int) =>
 J21 ((decide (x24 < a1)), ())) (
 J21 (false, ()))) fun (s22 : Bool × Unit) =>
 sif s22.1 (
 drew <|
 nn a0 fun p25 =>
 ld (.int .i64) p25 fun (x26 : Int) =>
 ld (.sl) (at0 b16) fun (x27 : Sl) =>
 callT Tryz.prog 53 #[(.int .i64 x26), (.slice x27.a x27.len x27.cap), (.int .i64 s19.1)] (.tup [(.one (.int .i64)), (.one (.int .i64))]) fun (x28 : (Int × Int × Unit)) =>
 drew <|
 lds c91 (at0 b12) fun (x29 : (Int × Int × Int × Bool × Bool × Unit)) =>
 callT Tryz.prog 94 #[(.int .i64 x28.1), (.int .i64 x28.2.1)] (.one (.agg c91)) fun (x30 : (Int × Int × Int × Bool × Bool × Unit)) =>
 keep (fun w => cellsAt w (at0 b12) 0 (Cells.vals c91 x29)) <|
 callT Tryz.prog 93 #[(.agg (Cells.vals c91 x29).toArray), (.agg (Cells.vals c91 x30).toArray)] (.one (.agg c91)) fun (x31 : (Int × Int × Int × Bool × Bool × Unit)) =>
 aggSt (at0 b12) (.agg (Cells.vals c91 x31).toArray) 5 <|
 again20 ((IntKind.wrap .i64 (s19.1 + x28.2.1)), ())) (
 J17 ())) ((0 : Int), ())) fun (s18 : Unit) =>
 ld (.int .i64) (at0 b12) fun (x32 : Int) =>
 ld (.int .i64) (at0 b12) fun (x33 : Int) =>
 callT Tryz.prog 25 #[(.pointer a0), (.int .i64 x32), (.int .i64 (IntKind.wrap .i64 (x33 + (1 : Int))))] (.one (.one .sl)) fun (x34 : Sl) =>
 join (S := Bool × Unit) (fun J35 =>
 ld (.bool) (⟨b12, 4, none⟩ : Addr) fun (x37 : Bool) =>
 sif x37 (
 sif (((x34.len : Nat) : Int) == (1 : Int)) (
 ix x34.a x34.len (0 : Int) fun p38 =>
 ld (.int .i64) (p38.add (scaled (Int.toNat (0 : Int)) 1)) fun (x39 : Int) =>
 J35 ((x39 == (10 : Int)), ())) (
 J35 (false, ()))) (
 J35 (false, ()))) fun (s36 : Bool × Unit) =>
 sif s36.1 (
 ld (.int .i64) (at0 b12) fun (x40 : Int) =>
 K (IntKind.wrap .i64 (x40 + (1 : Int)))) (
 ld (.int .i64) (at0 b12) fun (x41 : Int) =>
 K x41)))
noncomputable def h66 : Hint := (hS (hR 1) (hS (.block (hS (hR 3) (hC (hS (hR 1) hL) (hJ (536805376, [(16, tB)]) (.region [] (.ops 3 (.split 19 (.skips 8 (hO 2)) (hO 10)))) (hC (hS (hR 1) hL) hL))))) (hS (hR 8) (hS (hR 8) (hS (hR 12) (hJ (2417851636977458535730688, []) (hS (hR 1) (.block (.loop 2417851636977458535730688 [(9, tI)] (hS (hJ (4609434218613702656, [(61, tB)]) (.region [] (.ops 6 (.split 56 (hO 5) (.skips 4 (hO 1))))) (hC hL hL)) (.block (hS (.region [0, 1, 2, 3, 4, 5, 6, 7, 8, 9, 10, 11, 12] (hO 13)) (hS (.region [0, 1, 2, 3, 4, 5] (hO 6)) (hR 4)))))))) (hS (hS (hR 8) (hJ (2534991715446637457924681629696, [(100, tB)]) (.region [] (.ops 3 (.split 90 (.ops 5 (.split 95 (hO 5) (.skips 4 (hO 1)))) (.skips 3 (.ops 2 (.skips 4 (hO 1))))))) (hC (hS (hR 4) hL) hL))) (hS (hR 3) hL))))))))
theorem F66_calls {a0 : Option Addr} {a1 : Int} {K : Int → World → Prop} {w : World} (h : F66 a0 a1 K w) : callT Tryz.prog 66 #[(.pointer a0), (.int .i64 a1)] (.one (.one (.int .i64))) K w := tied tabOk Tryz.func66 h66 [(.pointer a0), (.int .i64 a1)] h
noncomputable def F83 (a0 : Option Addr) (a1 : Int) (K : (Int × Int × Int × Bool × Bool × Unit) → World → Prop) : World → Prop :=
 newO (.cells #[(.int .i64 (0 : Int)), (.int .i64 (0 : Int)), (.int .i64 (0 : Int)), (.bool false), (.bool false)] 91) fun b1 =>
 callT Tryz.prog 99 #[(.pointer a0), (.int .i64 a1)] (.tup [(.one (.int .i64)), (.one (.int .i64))]) fun (x2 : (Int × Int × Unit)) =>
 nn a0 fun p3 =>
 lds c84 (p3.add 2) fun (x4 : (Option Addr × Unit)) =>
 callT Tryz.prog 114 #[(.agg (Cells.vals c84 x4).toArray), (.int .i64 x2.1)] (.one (.agg c91)) fun (x5 : (Int × Int × Int × Bool × Bool × Unit)) =>
 newO (.cells #[(.int .i64 (0 : Int)), (.int .i64 (0 : Int)), (.int .i64 (0 : Int)), (.bool false), (.bool false)] 91) fun b6 =>
 aggSt (at0 b6) (.agg (Cells.vals c91 x5).toArray) 5 <|
 join (S := Unit) (fun J7 =>
 nn a0 fun p9 =>
 lds c84 (p9.add 2) fun (x10 : (Option Addr × Unit)) =>
 callT Tryz.prog 108 #[(.agg (Cells.vals c84 x10).toArray), (.int .i64 x2.1)] (.tup [(.agg c93), (.one .bool)]) fun (x11 : ((Sl × Int × Int × Int × Int × Bool × Bool × Unit) × Bool × Unit)) =>
 newO (.cells #[(.slice none 0 0), (.int .i64 (0 : Int)), (.int .i64 (0 : Int)), (.int .i64 (0 : Int)), (.int .i64 (0 : Int)), (.bool false), (.bool false)] 93) fun b12 =>
 aggSt (at0 b12) (.agg (Cells.vals c93 x11.1).toArray) 7 <|
 sif x11.2.1 (
 join (S := Addr × Unit) (fun J13 =>
 drew <|
 lds c93 (at0 b12) fun (x15 : (Sl × Int × Int × Int × Int × Bool × Bool × Unit)) =>
 nn a0 fun p16 =>
 ld (.int .i64) p16 fun (x17 : Int) =>
 both (
 newO (.cells #[(.slice none 0 0), (.int .i64 (0 : Int)), (.int .i64 (0 : Int)), (.int .i64 (0 : Int)), (.int .i64 (0 : Int)), (.bool false), (.bool false)] 93) fun b18 =>
 keep (fun w => w.cell? p16 = some (Cell.val (.int .i64) x17)) <|
 keep (fun w => cellsAt w (at0 b12) 0 (Cells.vals c93 x15)) <|
 both (
 newO (.cells #[(.slice none 0 0), (.int .i64 (0 : Int)), (.int .i64 (0 : Int)), (.int .i64 (0 : Int)), (.int .i64 (0 : Int)), (.bool false), (.bool false)] 93) fun b19 =>
 keep (fun w => w.cell? p16 = some (Cell.val (.int .i64) x17)) <|
 keep (fun w => cellsAt w (at0 b12) 0 (Cells.vals c93 x15)) <|
 callT Tryz.prog 109 #[(.agg (Cells.vals c93 x15).toArray), (.int .i64 x17), (.int .i64 x2.2.1)] (.tup [(.agg c93), (.agg c93)]) fun (x20 : ((Sl × Int × Int × Int × Int × Bool × Bool × Unit) × (Sl × Int × Int × Int × Int × Bool × Bool × Unit) × Unit)) =>
 aggSt (at0 b18) (.agg (Cells.vals c93 x20.1).toArray) 7 <|
 aggSt (at0 b19) (.agg (Cells.vals c93 x20.2.1).toArray) 7 <|
 J13 ((at0 b18), ())) <|
 callT Tryz.prog 109 #[(.agg (Cells.vals c93 x15).toArray), (.int .i64 x17), (.int .i64 x2.2.1)] (.tup [(.agg c93), (.agg c93)]) fun (x21 : ((Sl × Int × Int × Int × Int × Bool × Bool × Unit) × (Sl × Int × Int × Int × Int × Bool × Bool × Unit) × Unit)) =>
 both (
 newO (.cells #[(.slice none 0 0), (.int .i64 (0 : Int)), (.int .i64 (0 : Int)), (.int .i64 (0 : Int)), (.int .i64 (0 : Int)), (.bool false), (.bool false)] 93) fun b22 =>
 keep (fun w => w.cell? p16 = some (Cell.val (.int .i64) x17)) <|
 keep (fun w => cellsAt w (at0 b12) 0 (Cells.vals c93 x15)) <|
 aggSt (at0 b18) (.agg (Cells.vals c93 x21.1).toArray) 7 <|
 aggSt (at0 b22) (.agg (Cells.vals c93 x21.2.1).toArray) 7 <|
 J13 ((at0 b18), ())) <|
 nothing) <|
 both (
 newO (.cells #[(.slice none 0 0), (.int .i64 (0 : Int)), (.int .i64 (0 : Int)), (.int .i64 (0 : Int)), (.int .i64 (0 : Int)), (.bool false), (.bool false)] 93) fun b23 =>
 keep (fun w => w.cell? p16 = some (Cell.val (.int .i64) x17)) <|
 keep (fun w => cellsAt w (at0 b12) 0 (Cells.vals c93 x15)) <|
 both (
 newO (.cells #[(.slice none 0 0), (.int .i64 (0 : Int)), (.int .i64 (0 : Int)), (.int .i64 (0 : Int)), (.int .i64 (0 : Int)), (.bool false), (.bool false)] 93) fun b24 =>
 keep (fun w => w.cell? p16 = some (Cell.val (.int .i64) x17)) <|
 keep (fun w => cellsAt w (at0 b12) 0 (Cells.vals c93 x15)) <|
 callT Tryz.prog 109 #[(.agg (Cells.vals c93 x15).toArray), (.int .i64 x17), (.int .i64 x2.2.1)] (.tup [(.agg c93), (.agg c93)]) fun (x25 : ((Sl × Int × Int × Int × Int × Bool × Bool × Unit) × (Sl × Int × Int × Int × Int × Bool × Bool × Unit) × Unit)) =>
 aggSt (at0 b24) (.agg (Cells.vals c93 x25.1).toArray) 7 <|
 aggSt (at0 b23) (.agg (Cells.vals c93 x25.2.1).toArray) 7 <|
 J13 ((at0 b24), ())) <|
 callT Tryz.prog 109 #[(.agg (Cells.vals c93 x15).toArray), (.int .i64 x17), (.int .i64 x2.2.1)] (.tup [(.agg c93), (.agg c93)]) fun (x26 : ((Sl × Int × Int × Int × Int × Bool × Bool × Unit) × (Sl × Int × Int × Int × Int × Bool × Bool × Unit) × Unit)) =>
 both (
 newO (.cells #[(.slice none 0 0), (.int .i64 (0 : Int)), (.int .i64 (0 : Int)), (.int .i64 (0 : Int)), (.int .i64 (0 : Int)), (.bool false), (.bool false)] 93) fun b27 =>
 keep (fun w => w.cell? p16 = some (Cell.val (.int .i64) x17)) <|
 keep (fun w => cellsAt w (at0 b12) 0 (Cells.vals c93 x15)) <|
 aggSt (at0 b27) (.agg (Cells.vals c93 x26.1).toArray) 7 <|
 aggSt (at0 b23) (.agg (Cells.vals c93 x26.2.1).toArray) 7 <|
 J13 ((at0 b27), ())) <|
 nothing) <|
 callT Tryz.prog 109 #[(.agg (Cells.vals c93 x15).toArray), (.int .i64 x17), (.int .i64 x2.2.1)] (.tup [(.agg c93), (.agg c93)]) fun (x28 : ((Sl × Int × Int × Int × Int × Bool × Bool × Unit) × (Sl × Int × Int × Int × Int × Bool × Bool × Unit) × Unit)) =>
 both (
 newO (.cells #[(.slice none 0 0), (.int .i64 (0 : Int)), (.int .i64 (0 : Int)), (.int .i64 (0 : Int)), (.int .i64 (0 : Int)), (.bool false), (.bool false)] 93) fun b29 =>
 keep (fun w => w.cell? p16 = some (Cell.val (.int .i64) x17)) <|
 keep (fun w => cellsAt w (at0 b12) 0 (Cells.vals c93 x15)) <|
 both (
 newO (.cells #[(.slice none 0 0), (.int .i64 (0 : Int)), (.int .i64 (0 : Int)), (.int .i64 (0 : Int)), (.int .i64 (0 : Int)), (.bool false), (.bool false)] 93) fun b30 =>
 keep (fun w => w.cell? p16 = some (Cell.val (.int .i64) x17)) <|
 keep (fun w => cellsAt w (at0 b12) 0 (Cells.vals c93 x15)) <|
 aggSt (at0 b29) (.agg (Cells.vals c93 x28.1).toArray) 7 <|
 aggSt (at0 b30) (.agg (Cells.vals c93 x28.2.1).toArray) 7 <|
 J13 ((at0 b29), ())) <|
 nothing) <|
 both (
 newO (.cells #[(.slice none 0 0), (.int .i64 (0 : Int)), (.int .i64 (0 : Int)), (.int .i64 (0 : Int)), (.int .i64 (0 : Int)), (.bool false), (.bool false)] 93) fun b31 =>
 keep (fun w => w.cell? p16 = some (Cell.val (.int .i64) x17)) <|
 keep (fun w => cellsAt w (at0 b12) 0 (Cells.vals c93 x15)) <|
 both (
 newO (.cells #[(.slice none 0 0), (.int .i64 (0 : Int)), (.int .i64 (0 : Int)), (.int .i64 (0 : Int)), (.int .i64 (0 : Int)), (.bool false), (.bool false)] 93) fun b32 =>
 keep (fun w => w.cell? p16 = some (Cell.val (.int .i64) x17)) <|
 keep (fun w => cellsAt w (at0 b12) 0 (Cells.vals c93 x15)) <|
 aggSt (at0 b32) (.agg (Cells.vals c93 x28.1).toArray) 7 <|
 aggSt (at0 b31) (.agg (Cells.vals c93 x28.2.1).toArray) 7 <|
 J13 ((at0 b32), ())) <|
 nothing) <|
 nothing) fun (s14 : Addr × Unit) =>
 lds c91 (at0 b6) fun (x33 : (Int × Int × Int × Bool × Bool × Unit)) =>
 lds c91 (s14.1.add 2) fun (x34 : (Int × Int × Int × Bool × Bool × Unit)) =>
 callT Tryz.prog 93 #[(.agg (Cells.vals c91 x33).toArray), (.agg (Cells.vals c91 x34).toArray)] (.one (.agg c91)) fun (x35 : (Int × Int × Int × Bool × Bool × Unit)) =>
 aggSt (at0 b6) (.agg (Cells.vals c91 x35).toArray) 5 <|
 J7 ()) (
 J7 ())) fun (s8 : Unit) =>
 lds c91 (at0 b6) fun (x36 : (Int × Int × Int × Bool × Bool × Unit)) =>
 aggSt (at0 b1) (.agg (Cells.vals c91 x36).toArray) 5 <|
 lds c91 (at0 b1) fun (x37 : (Int × Int × Int × Bool × Bool × Unit)) =>
 K x37
noncomputable def h83 : Hint := (hS (hR 1) (hS (hR 8) (hS (hR 8) (hJ (281474959937280, []) (hS (hR 12) (hS (hR 1) (hC (hJ (17575006178304, [(10, (.one .addr))]) (.region [0, 1, 2, 3, 4, 5, 6, 7, 8, 9, 12, 13] (.float [10, 11] (.ops 6 (.alt none (.alt none (.plain (hO 6)) (.ops 4 (.alt none (.plain (hO 2)) .stop))) (.alt none (.alt none (.plain (hO 6)) (.ops 4 (.alt none (.plain (hO 2)) .stop))) (.ops 4 (.alt none (.alt none (.plain (hO 2)) .stop) (.alt none (.alt none (.plain (hO 2)) .stop) .stop)))))))) (hR 5)) hL))) (hS (hR 2) hL)))))
theorem F83_calls {a0 : Option Addr} {a1 : Int} {K : (Int × Int × Int × Bool × Bool × Unit) → World → Prop} {w : World} (h : F83 a0 a1 K w) : callT Tryz.prog 83 #[(.pointer a0), (.int .i64 a1)] (.one (.agg c91)) K w := tied tabOk Tryz.func83 h83 [(.pointer a0), (.int .i64 a1)] h
noncomputable def F92 (a0 : Int) (K : Value → World → Prop) : World → Prop :=
 sif (a0 == (1 : Int)) (
 K (.iface 146 (.agg #[]))) (
 sif (a0 == (2 : Int)) (
 K (.iface 148 (.agg #[(.int .i64 (0 : Int))]))) (
 sif (a0 == (3 : Int)) (
 K (.iface 148 (.agg #[(.int .i64 (1 : Int))]))) (
 sif (a0 == (4 : Int)) (
 K (.iface 149 (.agg #[]))) (
 K .nilIface))))
noncomputable def h92 : Hint := (hS (hR 1) (hS (hS (hR 1) (.block (hS (hR 2) (hC (hS (hR 3) hL) (hS (hR 2) (hC (hS (hR 3) hL) (hS (hR 2) (hC (hS (hR 3) hL) (hS (hR 2) (hC (hS (hR 3) hL) hL)))))))))) (hS (hR 1) hL)))
theorem F92_calls {a0 : Int} {K : Value → World → Prop} {w : World} (h : F92 a0 K w) : callT Tryz.prog 92 #[(.int .i64 a0)] (.one (.one .any)) K w := tied tabOk Tryz.func92 h92 [(.int .i64 a0)] h
noncomputable def F93 (a0 : (Int × Int × Int × Bool × Bool × Unit)) (a1 : (Int × Int × Int × Bool × Bool × Unit)) (K : (Int × Int × Int × Bool × Bool × Unit) → World → Prop) : World → Prop :=
 newO (.cells #[(.int .i64 a0.1), (.int .i64 a0.2.1), (.int .i64 a0.2.2.1), (.bool a0.2.2.2.1), (.bool a0.2.2.2.2.1)] 91) fun b1 =>
 newO (.cells #[(.int .i64 a1.1), (.int .i64 a1.2.1), (.int .i64 a1.2.2.1), (.bool a1.2.2.2.1), (.bool a1.2.2.2.2.1)] 91) fun b2 =>
 newO (.cells #[(.int .i64 (0 : Int)), (.int .i64 (0 : Int)), (.int .i64 (0 : Int)), (.bool false), (.bool false)] 91) fun b3 =>
 ld (.int .i64) (at0 b1) fun (x4 : Int) =>
 sif (x4 == (0 : Int)) (
 lds c91 (at0 b2) fun (x5 : (Int × Int × Int × Bool × Bool × Unit)) =>
 aggSt (at0 b3) (.agg (Cells.vals c91 x5).toArray) 5 <|
 lds c91 (at0 b3) fun (x6 : (Int × Int × Int × Bool × Bool × Unit)) =>
 K x6) (
 ld (.int .i64) (at0 b2) fun (x7 : Int) =>
 sif (x7 == (0 : Int)) (
 lds c91 (at0 b1) fun (x8 : (Int × Int × Int × Bool × Bool × Unit)) =>
 aggSt (at0 b3) (.agg (Cells.vals c91 x8).toArray) 5 <|
 lds c91 (at0 b3) fun (x9 : (Int × Int × Int × Bool × Bool × Unit)) =>
 K x9) (
 ld (.int .i64) (at0 b1) fun (x10 : Int) =>
 ld (.int .i64) (at0 b2) fun (x11 : Int) =>
 ld (.int .i64) (⟨b1, 1, none⟩ : Addr) fun (x12 : Int) =>
 ld (.int .i64) (⟨b2, 1, none⟩ : Addr) fun (x13 : Int) =>
 ld (.int .i64) (⟨b1, 2, none⟩ : Addr) fun (x14 : Int) =>
 ld (.int .i64) (⟨b2, 2, none⟩ : Addr) fun (x15 : Int) =>
 ld (.bool) (⟨b1, 3, none⟩ : Addr) fun (x16 : Bool) =>
 ld (.bool) (⟨b2, 4, none⟩ : Addr) fun (x17 : Bool) =>
 newO (.cells #[(.int .i64 (0 : Int)), (.int .i64 (0 : Int)), (.int .i64 (0 : Int)), (.bool false), (.bool false)] 91) fun b18 =>
 aggSt (at0 b18) (.agg #[(.int .i64 (IntKind.wrap .i64 (x10 + x11))), (.int .i64 (IntKind.wrap .i64 (x12 + x13))), (.int .i64 (IntKind.wrap .i64 (x14 + x15))), (.bool x16), (.bool x17)]) 5 <|
 join (S := Unit) (fun J19 =>
 join (S := Bool × Unit) (fun J21 =>
 ld (.bool) (⟨b1, 4, none⟩ : Addr) fun (x23 : Bool) =>
 sif x23 (
 ld (.bool) (⟨b2, 3, none⟩ : Addr) fun (x24 : Bool) =>
 J21 (x24, ())) (
 J21 (false, ()))) fun (s22 : Bool × Unit) =>
 sif s22.1 (
 ld (.int .i64) (⟨b18, 2, none⟩ : Addr) fun (x25 : Int) =>
 stC (⟨b18, 2, none⟩ : Addr) (.int .i64 (IntKind.wrap .i64 (x25 - (1 : Int)))) <|
 J19 ()) (
 J19 ())) fun (s20 : Unit) =>
 lds c91 (at0 b18) fun (x26 : (Int × Int × Int × Bool × Bool × Unit)) =>
 aggSt (at0 b3) (.agg (Cells.vals c91 x26).toArray) 5 <|
 lds c91 (at0 b3) fun (x27 : (Int × Int × Int × Bool × Bool × Unit)) =>
 K x27))
noncomputable def h93 : Hint := (hS (hR 3) (hS (hS (hR 3) (hC (hS (hR 2) hL) hL)) (hS (hS (hR 3) (hC (hS (hR 2) hL) hL)) (hS (hR 22) (hJ (17575006175232, []) (hJ (1082331758592, [(39, tB)]) (.region [] (.ops 3 (.split 36 (hO 3) (.skips 2 (hO 1))))) (hC (hR 5) hL)) (hS (hR 2) hL))))))
theorem F93_calls {a0 : (Int × Int × Int × Bool × Bool × Unit)} {a1 : (Int × Int × Int × Bool × Bool × Unit)} {K : (Int × Int × Int × Bool × Bool × Unit) → World → Prop} {w : World} (h : F93 a0 a1 K w) : callT Tryz.prog 93 #[(.agg (Cells.vals c91 a0).toArray), (.agg (Cells.vals c91 a1).toArray)] (.one (.agg c91)) K w := tied tabOk Tryz.func93 h93 [(.agg (Cells.vals c91 a0).toArray), (.agg (Cells.vals c91 a1).toArray)] h
noncomputable def F94 (a0 : Int) (a1 : Int) (K : (Int × Int × Int × Bool × Bool × Unit) → World → Prop) : World → Prop :=
 newO (.cells #[(.int .i64 (0 : Int)), (.int .i64 (0 : Int)), (.int .i64 (0 : Int)), (.bool false), (.bool false)] 91) fun b1 =>
 newO (.cells #[(.int .i64 (0 : Int)), (.int .i64 (0 : Int)), (.int .i64 (0 : Int)), (.bool false), (.bool false)] 91) fun b2 =>
 aggSt (at0 b2) (.agg #[(.int .i64 (1 : Int)), (.int .i64 a1), (.int .i64 (0 : Int)), (.bool (a0 == (10 : Int))), (.bool (a0 == (13 : Int)))]) 5 <|
 join (S := Unit) (fun J3 =>
 join (S := Bool × Unit) (fun J5 =>
 ld (.bool) (⟨b2, 3, none⟩ : Addr) fun (x7 : Bool) =>
 sif x7 (
 J5 (true, ())) (
 ld (.bool) (⟨b2, 4, none⟩ : Addr) fun (x8 : Bool) =>
 J5 (x8, ()))) fun (s6 : Bool × Unit) =>
 sif s6.1 (
 stC (⟨b2, 2, none⟩ : Addr) (.int .i64 (1 : Int)) <|
 J3 ()) (
 J3 ())) fun (s4 : Unit) =>
 lds c91 (at0 b2) fun (x9 : (Int × Int × Int × Bool × Bool × Unit)) =>
 aggSt (at0 b1) (.agg (Cells.vals c91 x9).toArray) 5 <|
 lds c91 (at0 b1) fun (x10 : (Int × Int × Int × Bool × Bool × Unit)) =>
 K x10
noncomputable def h94 : Hint := (hS (hR 1) (hS (hR 8) (hJ (520192, []) (hJ (258048, [(17, tB)]) (.region [] (.ops 3 (.split 14 (.skips 2 (hO 1)) (hO 3)))) (hC (hR 2) hL)) (hS (hR 2) hL))))
theorem F94_calls {a0 : Int} {a1 : Int} {K : (Int × Int × Int × Bool × Bool × Unit) → World → Prop} {w : World} (h : F94 a0 a1 K w) : callT Tryz.prog 94 #[(.int .i64 a0), (.int .i64 a1)] (.one (.agg c91)) K w := tied tabOk Tryz.func94 h94 [(.int .i64 a0), (.int .i64 a1)] h
noncomputable def F95 (a0 : Sl) (K : Option Addr → World → Prop) : World → Prop :=
 sif (((a0.len : Nat) : Int) == (0 : Int)) (
 K none) (
 chk ((2 : Int) ≠ 0) <|
 drew <|
 slc a0.a 0 (IntKind.wrap .i64 (Int.tdiv ((a0.len : Nat) : Int) (2 : Int))) ((a0.cap : Nat) : Int) a0.cap 7 fun x1 =>
 ix a0.a a0.len (IntKind.wrap .i64 (Int.tdiv ((a0.len : Nat) : Int) (2 : Int))) fun p2 =>
 lds c93 (p2.add (scaled (Int.toNat (IntKind.wrap .i64 (Int.tdiv ((a0.len : Nat) : Int) (2 : Int)))) 7)) fun (x3 : (Sl × Int × Int × Int × Int × Bool × Bool × Unit)) =>
 slc a0.a (IntKind.wrap .i64 ((IntKind.wrap .i64 (Int.tdiv ((a0.len : Nat) : Int) (2 : Int))) + (1 : Int))) ((a0.len : Nat) : Int) ((a0.cap : Nat) : Int) a0.cap 7 fun x4 =>
 callT Tryz.prog 95 #[(.slice x1.a x1.len x1.cap)] (.one (.one .ptr)) fun (x5 : Option Addr) =>
 keep (fun w => cellsAt w (p2.add (scaled (Int.toNat (IntKind.wrap .i64 (Int.tdiv ((a0.len : Nat) : Int) (2 : Int)))) 7)) 0 (Cells.vals c93 x3)) <|
 callT Tryz.prog 95 #[(.slice x4.a x4.len x4.cap)] (.one (.one .ptr)) fun (x6 : Option Addr) =>
 keep (fun w => cellsAt w (p2.add (scaled (Int.toNat (IntKind.wrap .i64 (Int.tdiv ((a0.len : Nat) : Int) (2 : Int)))) 7)) 0 (Cells.vals c93 x3)) <|
 callT Tryz.prog 129 #[(.pointer x5), (.agg (Cells.vals c93 x3).toArray), (.pointer x6)] (.one (.one .ptr)) fun (x7 : Option Addr) =>
 K x7)
noncomputable def h95 : Hint := (hS (hR 1) (hS (hS (hR 3) (hC (hS (hR 1) hL) hL)) (hS (hR 4) (hS (.region [0, 1, 2, 4, 5, 6, 7, 8, 9, 10, 11, 3, 12, 13, 14] (hO 15)) hL))))
theorem F95_calls {a0 : Sl} {K : Option Addr → World → Prop} {w : World} (h : F95 a0 K w) : callT Tryz.prog 95 #[(.slice a0.a a0.len a0.cap)] (.one (.one .ptr)) K w := tied tabOk Tryz.func95 h95 [(.slice a0.a a0.len a0.cap)] h
noncomputable def F99 (a0 : Option Addr) (a1 : Int) (K : (Int × Int × Unit) → World → Prop) : World → Prop :=
 sif (decide (a1 ≤ (0 : Int))) (
 K ((0 : Int), (0 : Int), ())) (
 nn a0 fun p1 =>
 lds c84 (p1.add 2) fun (x2 : (Option Addr × Unit)) =>
 callT Tryz.prog 113 #[(.agg (Cells.vals c84 x2).toArray), (.int .i64 (0 : Int)), (.int .i64 a1)] (.one (.one (.int .i64))) fun (x3 : Int) =>
 nn a0 fun p4 =>
 lds c84 (p4.add 2) fun (x5 : (Option Addr × Unit)) =>
 callT Tryz.prog 114 #[(.agg (Cells.vals c84 x5).toArray), (.int .i64 (IntKind.wrap .i64 (x3 - (1 : Int))))] (.one (.agg c91)) fun (x6 : (Int × Int × Int × Bool × Bool × Unit)) =>
 K ((IntKind.wrap .i64 (x3 - (1 : Int))), (IntKind.wrap .i64 (a1 - x6.1)), ()))
noncomputable def h99 : Hint := (hS (hR 2) (hS (hS (hR 2) (hC (hS (hR 2) hL) hL)) (hS (hR 8) (hS (hR 12) hL))))
theorem F99_calls {a0 : Option Addr} {a1 : Int} {K : (Int × Int × Unit) → World → Prop} {w : World} (h : F99 a0 a1 K w) : callT Tryz.prog 99 #[(.pointer a0), (.int .i64 a1)] (.tup [(.one (.int .i64)), (.one (.int .i64))]) K w := tied tabOk Tryz.func99 h99 [(.pointer a0), (.int .i64 a1)] h
noncomputable def F100 (a0 : (Option Addr × Unit)) (a1 : Int) (K : Value → World → Prop) : World → Prop :=
 newO (.cells #[(.pointer a0.1)] 84) fun b1 =>
 newO (.cells #[(.int .i64 a1)] 3) fun b2 =>
 K (.func (Fn.func 135) #[] #[(.pointer (some (at0 b1))), (.pointer (some (at0 b2)))])
noncomputable def h100 : Hint := (hS (hR 3) (hS (hR 2) hL))
theorem F100_calls {a0 : (Option Addr × Unit)} {a1 : Int} {K : Value → World → Prop} {w : World} (h : F100 a0 a1 K w) : callT Tryz.prog 100 #[(.agg (Cells.vals c84 a0).toArray), (.int .i64 a1)] (.one (.one .any)) K w := tied tabOk Tryz.func100 h100 [(.agg (Cells.vals c84 a0).toArray), (.int .i64 a1)] h
noncomputable def F106 (a0 : Option Addr) (K : Int → World → Prop) : World → Prop :=
 nn a0 fun p1 =>
 lds c84 (p1.add 2) fun (x2 : (Option Addr × Unit)) =>
 callT Tryz.prog 65 #[(.agg (Cells.vals c84 x2).toArray)] (.one (.agg c91)) fun (x3 : (Int × Int × Int × Bool × Bool × Unit)) =>
 K x3.2.1
noncomputable def h106 : Hint := (hS (hR 1) (hS (hR 7) hL))
theorem F106_calls {a0 : Option Addr} {K : Int → World → Prop} {w : World} (h : F106 a0 K w) : callT Tryz.prog 106 #[(.pointer a0)] (.one (.one (.int .i64))) K w := tied tabOk Tryz.func106 h106 [(.pointer a0)] h
noncomputable def F107 (a0 : Int) (a1 : Int) (K : Int → World → Prop) : World → Prop :=
 callT Tryz.prog 92 #[(.int .i64 a0)] (.one (.one .any)) fun (x1 : Value) =>
 rdB Tryz.prog (do eqGuard .eql 118 (Operand.tmp 8) (Operand.const Value.nilIface) x1 .nilIface; binOp .eql 118 x1 .nilIface : Sem Value) fun r2 =>
 sif r2 (
 K (0 : Int)) (
 callX Tryz.prog (invoke (.fn (.method "copyist/codec.size") #[]) (#[x1] ++ #[(.int .i64 a1)])) (.one (.one (.int .i64))) fun (x3 : Int) =>
 K x3)
noncomputable def h107 : Hint := (hS (hR 1) (hS (hR 3) (hS (hS (hR 2) (hC (hS (hR 1) hL) hL)) (hS (hR 4) hL))))
theorem F107_calls {a0 : Int} {a1 : Int} {K : Int → World → Prop} {w : World} (h : F107 a0 a1 K w) : callT Tryz.prog 107 #[(.int .i64 a0), (.int .i64 a1)] (.one (.one (.int .i64))) K w := tied tabOk Tryz.func107 h107 [(.int .i64 a0), (.int .i64 a1)] h
noncomputable def F108 (a0 : (Option Addr × Unit)) (a1 : Int) (K : ((Sl × Int × Int × Int × Int × Bool × Bool × Unit) × Bool × Unit) → World → Prop) : World → Prop :=
 newO (.cells #[(.pointer a0.1)] 84) fun b1 =>
 newO (.cells #[(.slice none 0 0), (.int .i64 (0 : Int)), (.int .i64 (0 : Int)), (.int .i64 (0 : Int)), (.int .i64 (0 : Int)), (.bool false), (.bool false)] 93) fun b2 =>
 join (S := Unit) (fun J3 =>
 ld (.ptr) (at0 b1) fun (x5 : Option Addr) =>
 sloop (S := Int × Option Addr × Unit) (fun (s6 : Int × Option Addr × Unit) again7 =>
 join (S := Bool × Unit) (fun J8 =>
 sif (!(Option.isNone s6.2.1)) (
 J8 ((decide (s6.1 ≥ (0 : Int))), ())) (
 J8 (false, ()))) fun (s9 : Bool × Unit) =>
 sif s9.1 (
 nn s6.2.1 fun p10 =>
 ld (.ptr) p10 fun (x11 : Option Addr) =>
 callT Tryz.prog 137 #[(.pointer x11)] (.one (.one (.int .i64))) fun (x12 : Int) =>
 sif (s6.1 == x12) (
 nn s6.2.1 fun p13 =>
 lds c93 (p13.add 2) fun (x14 : (Sl × Int × Int × Int × Int × Bool × Bool × Unit)) =>
 aggSt (at0 b2) (.agg (Cells.vals c93 x14).toArray) 7 <|
 lds c93 (at0 b2) fun (x15 : (Sl × Int × Int × Int × Int × Bool × Bool × Unit)) =>
 K (x15, true, ())) (
 sif (decide (s6.1 < x12)) (
 nn s6.2.1 fun p16 =>
 ld (.ptr) p16 fun (x17 : Option Addr) =>
 again7 (s6.1, x17, ())) (
 nn s6.2.1 fun p18 =>
 ld (.ptr) (p18.add 1) fun (x19 : Option Addr) =>
 again7 ((IntKind.wrap .i64 ((IntKind.wrap .i64 (s6.1 - x12)) - (1 : Int))), x19, ())))) (
 J3 ())) (a1, x5, ())) fun (s4 : Unit) =>
 newO (.cells #[(.slice none 0 0), (.int .i64 (0 : Int)), (.int .i64 (0 : Int)), (.int .i64 (0 : Int)), (.int .i64 (0 : Int)), (.bool false), (.bool false)] 93) fun b20 =>
 lds c93 (at0 b20) fun (x21 : (Sl × Int × Int × Int × Int × Bool × Bool × Unit)) =>
 aggSt (at0 b2) (.agg (Cells.vals c93 x21).toArray) 7 <|
 lds c93 (at0 b2) fun (x22 : (Sl × Int × Int × Int × Int × Bool × Bool × Unit)) =>
 K (x22, false, ())
noncomputable def h108 : Hint := (hS (hR 3) (hJ (70368744177378, []) (hS (hR 3) (.block (.loop 70368744175842 [(1, tI), (6, tP)] (hS (hJ (129024, [(16, tB)]) (.region [] (.ops 3 (.split 13 (hO 3) (.skips 2 (hO 1))))) (hC hL hL)) (.block (hS (hR 6) (.block (hS (hR 4) (hC (hS (hR 6) hL) (hS (hR 4) (hC (hR 5) (hR 10)))))))))))) (hS (hR 1) (hS (hR 3) hL))))
theorem F108_calls {a0 : (Option Addr × Unit)} {a1 : Int} {K : ((Sl × Int × Int × Int × Int × Bool × Bool × Unit) × Bool × Unit) → World → Prop} {w : World} (h : F108 a0 a1 K w) : callT Tryz.prog 108 #[(.agg (Cells.vals c84 a0).toArray), (.int .i64 a1)] (.tup [(.agg c93), (.one .bool)]) K w := tied tabOk Tryz.func108 h108 [(.agg (Cells.vals c84 a0).toArray), (.int .i64 a1)] h
noncomputable def F109 (a0 : (Sl × Int × Int × Int × Int × Bool × Bool × Unit)) (a1 : Int) (a2 : Int) (K : ((Sl × Int × Int × Int × Int × Bool × Bool × Unit) × (Sl × Int × Int × Int × Int × Bool × Bool × Unit) × Unit) → World → Prop) : World → Prop :=
 newO (.cells #[(.slice a0.1.a a0.1.len a0.1.cap), (.int .i64 a0.2.1), (.int .i64 a0.2.2.1), (.int .i64 a0.2.2.2.1), (.int .i64 a0.2.2.2.2.1), (.bool a0.2.2.2.2.2.1), (.bool a0.2.2.2.2.2.2.1)] 93) fun b1 =>
 newO (.cells #[(.slice none 0 0), (.int .i64 (0 : Int)), (.int .i64 (0 : Int)), (.int .i64 (0 : Int)), (.int .i64 (0 : Int)), (.bool false), (.bool false)] 93) fun b2 =>
 newO (.cells #[(.slice none 0 0), (.int .i64 (0 : Int)), (.int .i64 (0 : Int)), (.int .i64 (0 : Int)), (.int .i64 (0 : Int)), (.bool false), (.bool false)] 93) fun b3 =>
 join (S := Int × Unit) (fun J4 =>
 sloop (S := Int × Int × Unit) (fun (s6 : Int × Int × Unit) again7 =>
 join (S := Bool × Unit) (fun J8 =>
 sif (decide (s6.1 > (0 : Int))) (
 ld (.sl) (at0 b1) fun (x10 : Sl) =>
 J8 ((decide (s6.2.1 < ((x10.len : Nat) : Int))), ())) (
 J8 (false, ()))) fun (s9 : Bool × Unit) =>
 sif s9.1 (
 ld (.sl) (at0 b1) fun (x11 : Sl) =>
 callT Tryz.prog 53 #[(.int .i64 a1), (.slice x11.a x11.len x11.cap), (.int .i64 s6.2.1)] (.tup [(.one (.int .i64)), (.one (.int .i64))]) fun (x12 : (Int × Int × Unit)) =>
 again7 ((IntKind.wrap .i64 (s6.1 - (1 : Int))), (IntKind.wrap .i64 (s6.2.1 + x12.2.1)), ())) (
 J4 (s6.2.1, ()))) (a2, (0 : Int), ())) fun (s5 : Int × Unit) =>
 ld (.int .i64) (⟨b1, 1, none⟩ : Addr) fun (x13 : Int) =>
 join (S := Int × Unit) (fun J14 =>
 sif (decide (x13 ≥ (0 : Int))) (
 J14 ((IntKind.wrap .i64 (x13 + s5.1)), ())) (
 J14 (x13, ()))) fun (s15 : Int × Unit) =>
 drew <|
 ld (.sl) (at0 b1) fun (x16 : Sl) =>
 slc x16.a 0 s5.1 s5.1 x16.cap 1 fun x17 =>
 ld (.int .i64) (⟨b1, 1, none⟩ : Addr) fun (x18 : Int) =>
 ld (.sl) (at0 b1) fun (x19 : Sl) =>
 slc x19.a s5.1 ((x19.len : Nat) : Int) ((x19.cap : Nat) : Int) x19.cap 1 fun x20 =>
 callT Tryz.prog 54 #[(.int .i64 a1), (.slice x17.a x17.len x17.cap), (.int .i64 x18)] (.one (.agg c93)) fun (x21 : (Sl × Int × Int × Int × Int × Bool × Bool × Unit)) =>
 keep (fun w => w.cell? (at0 b1) = some (Cell.val (.sl) x19)) <|
 callT Tryz.prog 54 #[(.int .i64 a1), (.slice x20.a x20.len x20.cap), (.int .i64 s15.1)] (.one (.agg c93)) fun (x22 : (Sl × Int × Int × Int × Int × Bool × Bool × Unit)) =>
 aggSt (at0 b2) (.agg (Cells.vals c93 x21).toArray) 7 <|
 aggSt (at0 b3) (.agg (Cells.vals c93 x22).toArray) 7 <|
 lds c93 (at0 b2) fun (x23 : (Sl × Int × Int × Int × Int × Bool × Bool × Unit)) =>
 lds c93 (at0 b3) fun (x24 : (Sl × Int × Int × Int × Int × Bool × Bool × Unit)) =>
 K (x23, x24, ())
noncomputable def h109 : Hint := (hS (hR 3) (hS (hR 1) (hJ (17179866884, [(8, tI)]) (.block (.loop 17179866884 [(2, tI), (8, tI)] (hS (hJ (2093056, [(20, tB)]) (.region [] (.ops 3 (.split 14 (hO 6) (.skips 5 (hO 1))))) (hC hL hL)) (hS (.block (hS (hR 10) (hR 4))) (hR 3))))) (hS (hR 3) (hJ (2130303780864, [(11, tI)]) (hS (hR 2) (hC (hR 4) hL)) (hS (.region [0, 1, 2, 3, 4, 5, 6, 7, 9, 10, 11, 12, 13, 14, 8, 15, 16, 17] (hO 18)) hL))))))
theorem F109_calls {a0 : (Sl × Int × Int × Int × Int × Bool × Bool × Unit)} {a1 : Int} {a2 : Int} {K : ((Sl × Int × Int × Int × Int × Bool × Bool × Unit) × (Sl × Int × Int × Int × Int × Bool × Bool × Unit) × Unit) → World → Prop} {w : World} (h : F109 a0 a1 a2 K w) : callT Tryz.prog 109 #[(.agg (Cells.vals c93 a0).toArray), (.int .i64 a1), (.int .i64 a2)] (.tup [(.agg c93), (.agg c93)]) K w := tied tabOk Tryz.func109 h109 [(.agg (Cells.vals c93 a0).toArray), (.int .i64 a1), (.int .i64 a2)] h
noncomputable def F110 (a0 : Option Addr) (a1 : Sl) (K : Sl → World → Prop) : World → Prop :=
 newO (.cells #[(.pointer a0)] 27) fun b1 =>
 newO (.cells #[(.slice none 0 0)] 87) fun b2 =>
 ld (.ptr) (at0 b1) fun (x3 : Option Addr) =>
 nn x3 fun p4 =>
 ld (.sl) (p4.add 3) fun (x5 : Sl) =>
 newO (.cells #[(.int .i64 (0 : Int))] 3) fun b6 =>
 stC (at0 b6) (.int .i64 ((x5.len : Nat) : Int)) <|
 newO (.cells #[(.int .i64 (0 : Int))] 3) fun b7 =>
 stC (at0 b7) (.int .i64 (0 : Int)) <|
 join (S := Unit) (fun J8 =>
 sloop (S := Int × Unit) (fun (s10 : Int × Unit) again11 =>
 sif (decide (s10.1 < ((a1.len : Nat) : Int))) (
 join (S := Unit) (fun J12 =>
 ix a1.a a1.len s10.1 fun p14 =>
 ld (.int .i64) (p14.add (scaled (Int.toNat s10.1) 1)) fun (x15 : Int) =>
 join (S := Bool × Unit) (fun J16 =>
 sif (decide (x15 ≥ (0 : Int))) (
 sif (decide (x15 < (55296 : Int))) (
 J16 (true, ())) (
 J16 ((decide (x15 > (57343 : Int))), ()))) (
 J16 (false, ()))) fun (s17 : Bool × Unit) =>
 join (S := Unit) (fun J18 =>
 join (S := Bool × Unit) (fun J20 =>
 sif (!s17.1) (
 J20 (true, ())) (
 ld (.int .i64) (at0 b7) fun (x22 : Int) =>
 J20 ((x22 == (128 : Int)), ()))) fun (s21 : Bool × Unit) =>
 sif s21.1 (
 callX Tryz.prog (do let d ← Deferred.ofValue (.func (Fn.func 145) #[] #[(.pointer (some (at0 b1))), (.pointer (some (at0 b6))), (.pointer (some (at0 b2))), (.pointer (some (at0 b7)))]) #[]; invoke d.target d.args : Sem Next) (.tup []) fun (x23 : (Unit)) =>
 J18 ()) (
 J18 ())) fun (s19 : Unit) =>
 ld (.ptr) (at0 b1) fun (x24 : Option Addr) =>
 nn x24 fun p25 =>
 ld (.int .i64) p25 fun (x26 : Int) =>
 newO (.cells #[(.int .i64 x15)] 3) fun b27 =>
 callT Tryz.prog 146 #[(.int .i64 x26), (.slice (some (at0 b27)) 1 1)] (.tup [(.one .sl), (.one (.int .i64)), (.one (.int .i64))]) fun (x28 : (Sl × Int × Int × Unit)) =>
 drew <|
 ld (.ptr) (at0 b1) fun (x29 : Option Addr) =>
 ld (.ptr) (at0 b1) fun (x30 : Option Addr) =>
 nn x30 fun p31 =>
 ld (.sl) (p31.add 3) fun (x32 : Sl) =>
 rawT Tryz.prog (.one (.one .sl)) (Builtin.append_ #[22, 22] 22 #[(.slice x32.a x32.len x32.cap), (.slice x28.1.a x28.1.len x28.1.cap)]) fun (x33 : Sl) =>
 keep (fun w => w.cell? (at0 b1) = some (Cell.val (.ptr) x29)) <|
 nn x29 fun p34 =>
 stC (p34.add 3) (.slice x33.a x33.len x33.cap) <|
 ld (.int .i64) (at0 b7) fun (x35 : Int) =>
 stC (at0 b7) (.int .i64 (IntKind.wrap .i64 (x35 + (1 : Int)))) <|
 sif (!s17.1) (
 callX Tryz.prog (do let d ← Deferred.ofValue (.func (Fn.func 145) #[] #[(.pointer (some (at0 b1))), (.pointer (some (at0 b6))), (.pointer (some (at0 b2))), (.pointer (some (at0 b7)))]) #[]; invoke d.target d.args : Sem Next) (.tup []) fun (x36 : (Unit)) =>
 J12 ()) (
 J12 ())) fun (s13 : Unit) =>
 again11 ((IntKind.wrap .i64 (s10.1 + (1 : Int))), ())) (
 J8 ())) ((0 : Int), ())) fun (s9 : Unit) =>
 callX Tryz.prog (do let d ← Deferred.ofValue (.func (Fn.func 145) #[] #[(.pointer (some (at0 b1))), (.pointer (some (at0 b6))), (.pointer (some (at0 b2))), (.pointer (some (at0 b7)))]) #[]; invoke d.target d.args : Sem Next) (.tup []) fun (x37 : (Unit)) =>
 ld (.sl) (at0 b2) fun (x38 : Sl) =>
 K x38
noncomputable def h110 : Hint := (hS (hR 2) (hS (hR 1) (hS (hR 7) (hS (hR 2) (hS (hR 2) (hJ (4722366482869643148288, []) (hS (hR 3) (.block (.loop 4722366482869636856832 [(23, tI)] (hS (hR 1) (hS (hC hL hL) (hJ (2361183241434789084160, []) (.block (hS (hR 3) (hJ (137304737792, [(11, tB)]) (.region [] (.ops 3 (.split 29 (.ops 3 (.split 32 (.skips 2 (hO 3)) (hO 5))) (.skips 6 (hO 2))))) (hJ (35046933135360, []) (hJ (8658654068736, [(42, tB)]) (.region [] (.ops 3 (.split 39 (.skips 2 (hO 1)) (hO 3)))) (hC (hR 2) hL)) (hS (hR 14) (hS (.region [0, 1, 2, 3, 4, 5, 6, 7, 8, 9] (hO 10)) (hS (hR 3) (hS (hR 2) (hC (hR 2) hL))))))))) (hR 2))))))) (hS (hR 2) (hS (hR 2) hL))))))))
theorem F110_calls {a0 : Option Addr} {a1 : Sl} {K : Sl → World → Prop} {w : World} (h : F110 a0 a1 K w) : callT Tryz.prog 110 #[(.pointer a0), (.slice a1.a a1.len a1.cap)] (.one (.one .sl)) K w := tied tabOk Tryz.func110 h110 [(.pointer a0), (.slice a1.a a1.len a1.cap)] h
noncomputable def F111 (a0 : (Option Addr × Unit)) (a1 : Int) (a2 : Int) (a3 : Sl) (K : ((Option Addr × Unit) × Int × Unit) → World → Prop) : World → Prop :=
 newO (.cells #[(.pointer a0.1)] 84) fun b1 =>
 newO (.cells #[(.pointer none)] 84) fun b2 =>
 join (S := Bool × Unit) (fun J3 =>
 sif (decide (a1 < (0 : Int))) (
 J3 (true, ())) (
 sif (decide (a1 > a2)) (
 J3 (true, ())) (
 lds c84 (at0 b1) fun (x5 : (Option Addr × Unit)) =>
 callT Tryz.prog 112 #[(.agg (Cells.vals c84 x5).toArray)] (.one (.one (.int .i64))) fun (x6 : Int) =>
 J3 ((decide (a2 > x6)), ())))) fun (s4 : Bool × Unit) =>
 sif s4.1 (
 aggSt (at0 b2) (.agg #[(.pointer none)]) 1 <|
 lds c84 (at0 b2) fun (x7 : (Option Addr × Unit)) =>
 K (x7, (1 : Int), ())) (
 ld (.ptr) (at0 b1) fun (x8 : Option Addr) =>
 callT Tryz.prog 147 #[(.pointer x8), (.int .i64 a1)] (.tup [(.one .ptr), (.one .ptr)]) fun (x9 : (Option Addr × Option Addr × Unit)) =>
 ld (.ptr) (at0 b1) fun (x10 : Option Addr) =>
 callT Tryz.prog 147 #[(.pointer x10), (.int .i64 a2)] (.tup [(.one .ptr), (.one .ptr)]) fun (x11 : (Option Addr × Option Addr × Unit)) =>
 callT Tryz.prog 95 #[(.slice a3.a a3.len a3.cap)] (.one (.one .ptr)) fun (x12 : Option Addr) =>
 callT Tryz.prog 148 #[(.pointer x9.1), (.pointer x12)] (.one (.one .ptr)) fun (x13 : Option Addr) =>
 callT Tryz.prog 148 #[(.pointer x13), (.pointer x11.2.1)] (.one (.one .ptr)) fun (x14 : Option Addr) =>
 aggSt (at0 b2) (.agg #[(.pointer x14)]) 1 <|
 lds c84 (at0 b2) fun (x15 : (Option Addr × Unit)) =>
 K (x15, (0 : Int), ()))
noncomputable def h111 : Hint := (hS (hR 3) (hS (hJ (134201344, [(26, tB)]) (.region [] (.ops 3 (.split 16 (.skips 3 (.ops 2 (.skips 4 (hO 1)))) (.ops 5 (.split 21 (.skips 4 (hO 1)) (hO 5)))))) (hC (hS (hR 3) hL) hL)) (hS (hR 9) (hS (hR 9) (hS (hR 9) hL)))))
theorem F111_calls {a0 : (Option Addr × Unit)} {a1 : Int} {a2 : Int} {a3 : Sl} {K : ((Option Addr × Unit) × Int × Unit) → World → Prop} {w : World} (h : F111 a0 a1 a2 a3 K w) : callT Tryz.prog 111 #[(.agg (Cells.vals c84 a0).toArray), (.int .i64 a1), (.int .i64 a2), (.slice a3.a a3.len a3.cap)] (.tup [(.agg c84), (.one (.int .i64))]) K w := tied tabOk Tryz.func111 h111 [(.agg (Cells.vals c84 a0).toArray), (.int .i64 a1), (.int .i64 a2), (.slice a3.a a3.len a3.cap)] h
noncomputable def F112 (a0 : (Option Addr × Unit)) (K : Int → World → Prop) : World → Prop :=
 newO (.cells #[(.pointer a0.1)] 84) fun b1 =>
 ld (.ptr) (at0 b1) fun (x2 : Option Addr) =>
 callT Tryz.prog 137 #[(.pointer x2)] (.one (.one (.int .i64))) fun (x3 : Int) =>
 K x3
noncomputable def h112 : Hint := (hS (hR 2) (hS (hR 4) hL))
theorem F112_calls {a0 : (Option Addr × Unit)} {K : Int → World → Prop} {w : World} (h : F112 a0 K w) : callT Tryz.prog 112 #[(.agg (Cells.vals c84 a0).toArray)] (.one (.one (.int .i64))) K w := tied tabOk Tryz.func112 h112 [(.agg (Cells.vals c84 a0).toArray)] h
noncomputable def F113 (a0 : (Option Addr × Unit)) (a1 : Int) (a2 : Int) (K : Int → World → Prop) : World → Prop :=
 newO (.cells #[(.pointer a0.1)] 84) fun b1 =>
 sif (decide (a2 ≤ (0 : Int))) (
 K (0 : Int)) (
 newO (.cells #[(.int .i64 (0 : Int)), (.int .i64 (0 : Int)), (.int .i64 (0 : Int)), (.bool false), (.bool false)] 91) fun b2 =>
 join (S := Int × Unit) (fun J3 =>
 ld (.ptr) (at0 b1) fun (x5 : Option Addr) =>
 sloop (S := Int × Option Addr × Unit) (fun (s6 : Int × Option Addr × Unit) again7 =>
 sif (!(Option.isNone s6.2.1)) (
 lds c91 (at0 b2) fun (x8 : (Int × Int × Int × Bool × Bool × Unit)) =>
 newO (.cells #[(.int .i64 (0 : Int)), (.int .i64 (0 : Int)), (.int .i64 (0 : Int)), (.bool false), (.bool false)] 91) fun b9 =>
 aggSt (at0 b9) (.agg (Cells.vals c91 x8).toArray) 5 <|
 join (S := Unit) (fun J10 =>
 nn s6.2.1 fun p12 =>
 ld (.ptr) p12 fun (x13 : Option Addr) =>
 sif (!(Option.isNone x13)) (
 drew <|
 lds c91 (at0 b2) fun (x14 : (Int × Int × Int × Bool × Bool × Unit)) =>
 nn s6.2.1 fun p15 =>
 ld (.ptr) p15 fun (x16 : Option Addr) =>
 nn x16 fun p17 =>
 lds c91 (p17.add 11) fun (x18 : (Int × Int × Int × Bool × Bool × Unit)) =>
 callX Tryz.prog (invoke (.fn (.method "Add") #[]) (#[(.iface 91 (.agg (Cells.vals c91 x14).toArray))] ++ #[(.agg (Cells.vals c91 x18).toArray)])) (.one (.agg c91)) fun (x19 : (Int × Int × Int × Bool × Bool × Unit)) =>
 aggSt (at0 b9) (.agg (Cells.vals c91 x19).toArray) 5 <|
 J10 ()) (
 J10 ())) fun (s11 : Unit) =>
 lds c91 (at0 b9) fun (x20 : (Int × Int × Int × Bool × Bool × Unit)) =>
 callX Tryz.prog (invoke (.fn (.method "Key") #[]) (#[(.iface 91 (.agg (Cells.vals c91 x20).toArray))] ++ #[(.int .i64 a1)])) (.one (.one (.int .i64))) fun (x21 : Int) =>
 sif (decide (x21 ≥ a2)) (
 nn s6.2.1 fun p22 =>
 ld (.ptr) p22 fun (x23 : Option Addr) =>
 again7 (s6.1, x23, ())) (
 nn s6.2.1 fun p24 =>
 ld (.ptr) p24 fun (x25 : Option Addr) =>
 callT Tryz.prog 137 #[(.pointer x25)] (.one (.one (.int .i64))) fun (x26 : Int) =>
 drew <|
 lds c91 (at0 b9) fun (x27 : (Int × Int × Int × Bool × Bool × Unit)) =>
 nn s6.2.1 fun p28 =>
 lds c93 (p28.add 2) fun (x29 : (Sl × Int × Int × Int × Int × Bool × Bool × Unit)) =>
 callX Tryz.prog (invoke (.fn (.method "Measure") #[]) (#[(.iface 93 (.agg (Cells.vals c93 x29).toArray))] ++ #[])) (.one (.agg c91)) fun (x30 : (Int × Int × Int × Bool × Bool × Unit)) =>
 keep (fun w => cellsAt w (at0 b9) 0 (Cells.vals c91 x27)) <|
 callX Tryz.prog (invoke (.fn (.method "Add") #[]) (#[(.iface 91 (.agg (Cells.vals c91 x27).toArray))] ++ #[(.agg (Cells.vals c91 x30).toArray)])) (.one (.agg c91)) fun (x31 : (Int × Int × Int × Bool × Bool × Unit)) =>
 aggSt (at0 b2) (.agg (Cells.vals c91 x31).toArray) 5 <|
 lds c91 (at0 b2) fun (x32 : (Int × Int × Int × Bool × Bool × Unit)) =>
 callX Tryz.prog (invoke (.fn (.method "Key") #[]) (#[(.iface 91 (.agg (Cells.vals c91 x32).toArray))] ++ #[(.int .i64 a1)])) (.one (.one (.int .i64))) fun (x33 : Int) =>
 sif (decide (x33 ≥ a2)) (
 K (IntKind.wrap .i64 (s6.1 + (IntKind.wrap .i64 (x26 + (1 : Int)))))) (
 nn s6.2.1 fun p34 =>
 ld (.ptr) (p34.add 1) fun (x35 : Option Addr) =>
 again7 ((IntKind.wrap .i64 (s6.1 + (IntKind.wrap .i64 (x26 + (1 : Int))))), x35, ())))) (
 J3 (s6.1, ()))) ((0 : Int), x5, ())) fun (s4 : Int × Unit) =>
 K (IntKind.wrap .i64 (s4.1 + (1 : Int))))
noncomputable def h113 : Hint := (hS (hR 2) (hS (hS (hR 2) (hC (hS (hR 1) hL) hL)) (hS (hR 1) (hS (hR 1) (hJ (2361183241434822600512, [(8, tI)]) (hS (hR 3) (.block (.loop 2361183241434822575936 [(8, tI), (9, tP)] (hS (hS (hR 2) (hC hL hL)) (.block (hS (hR 3) (hJ (8589672448, []) (hS (hR 5) (hC (.region [0, 1, 2, 3, 4, 5, 6, 7, 8, 9, 10] (hO 11)) hL)) (hS (hS (hR 6) (hC (hS (hR 5) hL) hL)) (hS (hR 9) (hS (.region [0, 1, 2, 3, 4, 5, 6, 7, 8, 9] (hO 10)) (hS (hS (hR 6) (hC (hS (hR 2) hL) hL)) (hR 5)))))))))))) (hS (hR 3) hL))))))
theorem F113_calls {a0 : (Option Addr × Unit)} {a1 : Int} {a2 : Int} {K : Int → World → Prop} {w : World} (h : F113 a0 a1 a2 K w) : callT Tryz.prog 113 #[(.agg (Cells.vals c84 a0).toArray), (.int .i64 a1), (.int .i64 a2)] (.one (.one (.int .i64))) K w := tied tabOk Tryz.func113 h113 [(.agg (Cells.vals c84 a0).toArray), (.int .i64 a1), (.int .i64 a2)] h
noncomputable def F114 (a0 : (Option Addr × Unit)) (a1 : Int) (K : (Int × Int × Int × Bool × Bool × Unit) → World → Prop) : World → Prop :=
 newO (.cells #[(.pointer a0.1)] 84) fun b1 =>
 newO (.cells #[(.int .i64 (0 : Int)), (.int .i64 (0 : Int)), (.int .i64 (0 : Int)), (.bool false), (.bool false)] 91) fun b2 =>
 newO (.cells #[(.int .i64 (0 : Int)), (.int .i64 (0 : Int)), (.int .i64 (0 : Int)), (.bool false), (.bool false)] 91) fun b3 =>
 lds c84 (at0 b1) fun (x4 : (Option Addr × Unit)) =>
 callT Tryz.prog 112 #[(.agg (Cells.vals c84 x4).toArray)] (.one (.one (.int .i64))) fun (x5 : Int) =>
 join (S := Unit) (fun J6 =>
 ld (.ptr) (at0 b1) fun (x8 : Option Addr) =>
 sloop (S := Int × Option Addr × Unit) (fun (s9 : Int × Option Addr × Unit) again10 =>
 join (S := Bool × Unit) (fun J11 =>
 sif (!(Option.isNone s9.2.1)) (
 J11 ((decide (s9.1 > (0 : Int))), ())) (
 J11 (false, ()))) fun (s12 : Bool × Unit) =>
 sif s12.1 (
 nn s9.2.1 fun p13 =>
 ld (.ptr) p13 fun (x14 : Option Addr) =>
 callT Tryz.prog 137 #[(.pointer x14)] (.one (.one (.int .i64))) fun (x15 : Int) =>
 sif (decide (s9.1 ≤ x15)) (
 nn s9.2.1 fun p16 =>
 ld (.ptr) p16 fun (x17 : Option Addr) =>
 again10 (s9.1, x17, ())) (
 join (S := Unit) (fun J18 =>
 nn s9.2.1 fun p20 =>
 ld (.ptr) p20 fun (x21 : Option Addr) =>
 sif (!(Option.isNone x21)) (
 drew <|
 lds c91 (at0 b3) fun (x22 : (Int × Int × Int × Bool × Bool × Unit)) =>
 nn s9.2.1 fun p23 =>
 ld (.ptr) p23 fun (x24 : Option Addr) =>
 nn x24 fun p25 =>
 lds c91 (p25.add 11) fun (x26 : (Int × Int × Int × Bool × Bool × Unit)) =>
 callX Tryz.prog (invoke (.fn (.method "Add") #[]) (#[(.iface 91 (.agg (Cells.vals c91 x22).toArray))] ++ #[(.agg (Cells.vals c91 x26).toArray)])) (.one (.agg c91)) fun (x27 : (Int × Int × Int × Bool × Bool × Unit)) =>
 aggSt (at0 b3) (.agg (Cells.vals c91 x27).toArray) 5 <|
 J18 ()) (
 J18 ())) fun (s19 : Unit) =>
 drew <|
 lds c91 (at0 b3) fun (x28 : (Int × Int × Int × Bool × Bool × Unit)) =>
 nn s9.2.1 fun p29 =>
 lds c93 (p29.add 2) fun (x30 : (Sl × Int × Int × Int × Int × Bool × Bool × Unit)) =>
 callX Tryz.prog (invoke (.fn (.method "Measure") #[]) (#[(.iface 93 (.agg (Cells.vals c93 x30).toArray))] ++ #[])) (.one (.agg c91)) fun (x31 : (Int × Int × Int × Bool × Bool × Unit)) =>
 keep (fun w => cellsAt w (at0 b3) 0 (Cells.vals c91 x28)) <|
 callX Tryz.prog (invoke (.fn (.method "Add") #[]) (#[(.iface 91 (.agg (Cells.vals c91 x28).toArray))] ++ #[(.agg (Cells.vals c91 x31).toArray)])) (.one (.agg c91)) fun (x32 : (Int × Int × Int × Bool × Bool × Unit)) =>
 aggSt (at0 b3) (.agg (Cells.vals c91 x32).toArray) 5 <|
 nn s9.2.1 fun p33 =>
 ld (.ptr) (p33.add 1) fun (x34 : Option Addr) =>
 again10 ((IntKind.wrap .i64 ((IntKind.wrap .i64 (s9.1 - x15)) - (1 : Int))), x34, ()))) (
 J6 ())) ((if x5 < a1 then x5 else a1), x8, ())) fun (s7 : Unit) =>
 lds c91 (at0 b3) fun (x35 : (Int × Int × Int × Bool × Bool × Unit)) =>
 aggSt (at0 b2) (.agg (Cells.vals c91 x35).toArray) 5 <|
 lds c91 (at0 b2) fun (x36 : (Int × Int × Int × Bool × Bool × Unit)) =>
 K x36
noncomputable def h114 : Hint := (hS (hR 2) (hS (hR 1) (hS (hR 5) (hJ (18446744073709547714, []) (hS (hR 3) (.block (.loop 18446744073709535426 [(1, tI), (6, tP)] (hS (hJ (1032192, [(19, tB)]) (.region [] (.ops 3 (.split 16 (hO 3) (.skips 2 (hO 1))))) (hC hL hL)) (.block (hS (hR 6) (hS (hS (hR 3) (hC (hS (hR 5) hL) hL)) (hJ (140733193388032, []) (hS (hR 5) (hC (.region [0, 1, 2, 3, 4, 5, 6, 7, 8, 9, 10] (hO 11)) hL)) (hS (.region [0, 1, 2, 3, 4, 5, 6, 7, 8, 9] (hO 10)) (hR 10)))))))))) (hS (hR 2) hL)))))
theorem F114_calls {a0 : (Option Addr × Unit)} {a1 : Int} {K : (Int × Int × Int × Bool × Bool × Unit) → World → Prop} {w : World} (h : F114 a0 a1 K w) : callT Tryz.prog 114 #[(.agg (Cells.vals c84 a0).toArray), (.int .i64 a1)] (.one (.agg c91)) K w := tied tabOk Tryz.func114 h114 [(.agg (Cells.vals c84 a0).toArray), (.int .i64 a1)] h
noncomputable def F129 (a0 : Option Addr) (a1 : (Sl × Int × Int × Int × Int × Bool × Bool × Unit)) (a2 : Option Addr) (K : Option Addr → World → Prop) : World → Prop :=
 newO (.cells #[(.slice a1.1.a a1.1.len a1.1.cap), (.int .i64 a1.2.1), (.int .i64 a1.2.2.1), (.int .i64 a1.2.2.2.1), (.int .i64 a1.2.2.2.2.1), (.bool a1.2.2.2.2.2.1), (.bool a1.2.2.2.2.2.2.1)] 93) fun b1 =>
 drew <|
 lds c93 (at0 b1) fun (x2 : (Sl × Int × Int × Int × Int × Bool × Bool × Unit)) =>
 callT Tryz.prog 137 #[(.pointer a0)] (.one (.one (.int .i64))) fun (x3 : Int) =>
 keep (fun w => cellsAt w (at0 b1) 0 (Cells.vals c93 x2)) <|
 callT Tryz.prog 137 #[(.pointer a2)] (.one (.one (.int .i64))) fun (x4 : Int) =>
 keep (fun w => cellsAt w (at0 b1) 0 (Cells.vals c93 x2)) <|
 callT Tryz.prog 152 #[(.pointer a0)] (.one (.one (.int .i64))) fun (x5 : Int) =>
 keep (fun w => cellsAt w (at0 b1) 0 (Cells.vals c93 x2)) <|
 callT Tryz.prog 152 #[(.pointer a2)] (.one (.one (.int .i64))) fun (x6 : Int) =>
 keep (fun w => cellsAt w (at0 b1) 0 (Cells.vals c93 x2)) <|
 newO (.cells (Value.cells (.agg #[(.pointer a0), (.pointer a2), (.slice x2.1.a x2.1.len x2.1.cap), (.int .i64 x2.2.1), (.int .i64 x2.2.2.1), (.int .i64 x2.2.2.2.1), (.int .i64 x2.2.2.2.2.1), (.bool x2.2.2.2.2.2.1), (.bool x2.2.2.2.2.2.2.1), (.int .i64 (IntKind.wrap .i64 ((IntKind.wrap .i64 (x3 + (1 : Int))) + x4))), (.int .i64 (IntKind.wrap .i64 ((if x6 > x5 then x6 else x5) + (1 : Int)))), (.int .i64 (0 : Int)), (.int .i64 (0 : Int)), (.int .i64 (0 : Int)), (.bool false), (.bool false)])) 139) fun b7 =>
 lds c93 (at0 b1) fun (x8 : (Sl × Int × Int × Int × Int × Bool × Bool × Unit)) =>
 callX Tryz.prog (invoke (.fn (.method "Measure") #[]) (#[(.iface 93 (.agg (Cells.vals c93 x8).toArray))] ++ #[])) (.one (.agg c91)) fun (x9 : (Int × Int × Int × Bool × Bool × Unit)) =>
 nn (some (at0 b7)) fun p10 =>
 aggSt (p10.add 11) (.agg (Cells.vals c91 x9).toArray) 5 <|
 join (S := Unit) (fun J11 =>
 sif (!(Option.isNone a0)) (
 drew <|
 nn a0 fun p13 =>
 lds c91 (p13.add 11) fun (x14 : (Int × Int × Int × Bool × Bool × Unit)) =>
 nn (some (at0 b7)) fun p15 =>
 lds c91 (p15.add 11) fun (x16 : (Int × Int × Int × Bool × Bool × Unit)) =>
 callX Tryz.prog (invoke (.fn (.method "Add") #[]) (#[(.iface 91 (.agg (Cells.vals c91 x14).toArray))] ++ #[(.agg (Cells.vals c91 x16).toArray)])) (.one (.agg c91)) fun (x17 : (Int × Int × Int × Bool × Bool × Unit)) =>
 nn (some (at0 b7)) fun p18 =>
 aggSt (p18.add 11) (.agg (Cells.vals c91 x17).toArray) 5 <|
 J11 ()) (
 J11 ())) fun (s12 : Unit) =>
 join (S := Unit) (fun J19 =>
 sif (!(Option.isNone a2)) (
 drew <|
 nn (some (at0 b7)) fun p21 =>
 lds c91 (p21.add 11) fun (x22 : (Int × Int × Int × Bool × Bool × Unit)) =>
 nn a2 fun p23 =>
 lds c91 (p23.add 11) fun (x24 : (Int × Int × Int × Bool × Bool × Unit)) =>
 callX Tryz.prog (invoke (.fn (.method "Add") #[]) (#[(.iface 91 (.agg (Cells.vals c91 x22).toArray))] ++ #[(.agg (Cells.vals c91 x24).toArray)])) (.one (.agg c91)) fun (x25 : (Int × Int × Int × Bool × Bool × Unit)) =>
 nn (some (at0 b7)) fun p26 =>
 aggSt (p26.add 11) (.agg (Cells.vals c91 x25).toArray) 5 <|
 J19 ()) (
 J19 ())) fun (s20 : Unit) =>
 K (some (at0 b7))
noncomputable def h129 : Hint := (hS (hR 2) (hS (.region [0, 1, 2, 3, 6, 9, 11, 4, 5, 7, 8, 10, 12, 13, 14, 15, 16, 17] (hO 18)) (hS (hR 7) (hJ (70366596694016, []) (hS (hR 2) (hC (.region [0, 1, 2, 3, 4, 5, 6, 7, 8, 9, 10, 11, 12, 13] (hO 14)) hL)) (hJ (2305772640469516288, []) (hS (hR 2) (hC (.region [0, 1, 2, 3, 4, 5, 6, 7, 8, 9, 10, 11, 12, 13] (hO 14)) hL)) (hS (hR 2) hL))))))
theorem F129_calls {a0 : Option Addr} {a1 : (Sl × Int × Int × Int × Int × Bool × Bool × Unit)} {a2 : Option Addr} {K : Option Addr → World → Prop} {w : World} (h : F129 a0 a1 a2 K w) : callT Tryz.prog 129 #[(.pointer a0), (.agg (Cells.vals c93 a1).toArray), (.pointer a2)] (.one (.one .ptr)) K w := tied tabOk Tryz.func129 h129 [(.pointer a0), (.agg (Cells.vals c93 a1).toArray), (.pointer a2)] h
noncomputable def F135 (a0 : Value) (v0 : Addr) (v1 : Addr) (K : Unit → World → Prop) : World → Prop :=
 chk (oneAll [a0] = true) <|
 newO (.cells #[a0] 154) fun b1 =>
 newO (.cells #[.nilFunc] 155) fun b2 =>
 chk (isOne (.func (Fn.func 136) #[] #[(.pointer (some (at0 b2))), (.pointer (some (at0 b1)))]) = true) <|
 stC (at0 b2) (.func (Fn.func 136) #[] #[(.pointer (some (at0 b2))), (.pointer (some (at0 b1)))]) <|
 ld (.any) (at0 b2) fun (x3 : Value) =>
 ld (.ptr) v0 fun (x4 : Option Addr) =>
 ld (.int .i64) v1 fun (x5 : Int) =>
 callX Tryz.prog (do let d ← Deferred.ofValue x3 #[(.pointer x4), (.int .i64 (if x5 > (0 : Int) then x5 else (0 : Int)))]; invoke d.target d.args : Sem Next) (.one (.one .bool)) fun (x6 : Bool) =>
 K ()
noncomputable def h135 : Hint := (hS (hR 1) (hS (hR 1) (hS (hR 2) (hR 6))))
theorem F135_calls {a0 : Value} {v0 : Addr} {v1 : Addr} {K : Unit → World → Prop} {w : World} (h : F135 a0 v0 v1 K w) : callT Tryz.prog 135 #[a0, (.pointer (some v0)), (.pointer (some v1))] (.tup []) K w := tied tabOk Tryz.func135 h135 [a0, (.pointer (some v0)), (.pointer (some v1))] h
noncomputable def F136 (a0 : Option Addr) (a1 : Int) (v0 : Addr) (v1 : Addr) (K : Bool → World → Prop) : World → Prop :=
 join (S := Bool × Unit) (fun J1 =>
 sif (Option.isNone a0) (
 J1 (true, ())) (
 nn a0 fun p3 =>
 ld (.int .i64) (p3.add 9) fun (x4 : Int) =>
 J1 ((decide (a1 ≥ x4)), ()))) fun (s2 : Bool × Unit) =>
 sif s2.1 (
 K true) (
 nn a0 fun p5 =>
 ld (.ptr) p5 fun (x6 : Option Addr) =>
 callT Tryz.prog 137 #[(.pointer x6)] (.one (.one (.int .i64))) fun (x7 : Int) =>
 join (S := Bool × Unit) (fun J8 =>
 drew <|
 sif (decide (a1 < x7)) (
 ld (.any) v0 fun (x10 : Value) =>
 nn a0 fun p11 =>
 ld (.ptr) p11 fun (x12 : Option Addr) =>
 callX Tryz.prog (do let d ← Deferred.ofValue x10 #[(.pointer x12), (.int .i64 a1)]; invoke d.target d.args : Sem Next) (.one (.one .bool)) fun (x13 : Bool) =>
 J8 ((!x13), ())) (
 J8 (false, ()))) fun (s9 : Bool × Unit) =>
 sif s9.1 (
 K false) (
 join (S := Bool × Unit) (fun J14 =>
 drew <|
 sif (decide (a1 ≤ x7)) (
 ld (.any) v1 fun (x16 : Value) =>
 nn a0 fun p17 =>
 lds c93 (p17.add 2) fun (x18 : (Sl × Int × Int × Int × Int × Bool × Bool × Unit)) =>
 callX Tryz.prog (do let d ← Deferred.ofValue x16 #[(.agg (Cells.vals c93 x18).toArray)]; invoke d.target d.args : Sem Next) (.one (.one .bool)) fun (x19 : Bool) =>
 J14 ((!x19), ())) (
 J14 (false, ()))) fun (s15 : Bool × Unit) =>
 sif s15.1 (
 K false) (
 drew <|
 ld (.any) v0 fun (x20 : Value) =>
 nn a0 fun p21 =>
 ld (.ptr) (p21.add 1) fun (x22 : Option Addr) =>
 callX Tryz.prog (do let d ← Deferred.ofValue x20 #[(.pointer x22), (.int .i64 (if (IntKind.wrap .i64 ((IntKind.wrap .i64 (a1 - x7)) - (1 : Int))) > (0 : Int) then (IntKind.wrap .i64 ((IntKind.wrap .i64 (a1 - x7)) - (1 : Int))) else (0 : Int)))]; invoke d.target d.args : Sem Next) (.one (.one .bool)) fun (x23 : Bool) =>
 K x23)))
noncomputable def h136 : Hint := (hS (hR 1) (hS (hJ (261888, [(17, tB)]) (.region [] (.ops 3 (.split 10 (.skips 6 (hO 1)) (hO 7)))) (hC (hS (hR 1) hL) hL)) (hS (hR 6) (hS (hJ (68711088128, [(35, tB)]) (.region [0, 1, 2, 3, 4, 5, 6, 7, 8, 9, 10, 11, 12] (.ops 4 (.split 26 (hO 9) (.skips 8 (hO 1))))) (hC (hS (hR 1) hL) hL)) (hS (hJ (281406257233920, [(47, tB)]) (.region [0, 1, 2, 3, 4, 5, 6, 7, 8, 9, 10, 11] (.ops 4 (.split 39 (hO 8) (.skips 7 (hO 1))))) (hC (hS (hR 1) hL) hL)) (hS (.region [0, 1, 2, 3, 4, 5, 6, 7, 8, 9, 10, 11] (hO 12)) hL))))))
theorem F136_calls {a0 : Option Addr} {a1 : Int} {v0 : Addr} {v1 : Addr} {K : Bool → World → Prop} {w : World} (h : F136 a0 a1 v0 v1 K w) : callT Tryz.prog 136 #[(.pointer a0), (.int .i64 a1), (.pointer (some v0)), (.pointer (some v1))] (.one (.one .bool)) K w := tied tabOk Tryz.func136 h136 [(.pointer a0), (.int .i64 a1), (.pointer (some v0)), (.pointer (some v1))] h
noncomputable def F137 (a0 : Option Addr) (K : Int → World → Prop) : World → Prop :=
 sif (Option.isNone a0) (
 K (0 : Int)) (
 nn a0 fun p1 =>
 ld (.int .i64) (p1.add 9) fun (x2 : Int) =>
 K x2)
noncomputable def h137 : Hint := (hS (hR 1) (hS (hS (hR 2) (hC (hS (hR 1) hL) hL)) (hS (hR 5) hL)))
theorem F137_calls {a0 : Option Addr} {K : Int → World → Prop} {w : World} (h : F137 a0 K w) : callT Tryz.prog 137 #[(.pointer a0)] (.one (.one (.int .i64))) K w := tied tabOk Tryz.func137 h137 [(.pointer a0)] h
noncomputable def F145 (v0 : Addr) (v1 : Addr) (v2 : Addr) (v3 : Addr) (K : Unit → World → Prop) : World → Prop :=
 ld (.ptr) v0 fun (x1 : Option Addr) =>
 nn x1 fun p2 =>
 ld (.sl) (p2.add 3) fun (x3 : Sl) =>
 ld (.int .i64) v1 fun (x4 : Int) =>
 sif (decide (((x3.len : Nat) : Int) > x4)) (
 drew <|
 ld (.sl) v2 fun (x5 : Sl) =>
 ld (.ptr) v0 fun (x6 : Option Addr) =>
 nn x6 fun p7 =>
 ld (.int .i64) p7 fun (x8 : Int) =>
 ld (.ptr) v0 fun (x9 : Option Addr) =>
 nn x9 fun p10 =>
 ld (.sl) (p10.add 3) fun (x11 : Sl) =>
 ld (.int .i64) v1 fun (x12 : Int) =>
 slc x11.a x12 ((x3.len : Nat) : Int) ((x3.len : Nat) : Int) x11.cap 1 fun x13 =>
 callT Tryz.prog 54 #[(.int .i64 x8), (.slice x13.a x13.len x13.cap), (.int .i64 (-1 : Int))] (.one (.agg c93)) fun (x14 : (Sl × Int × Int × Int × Int × Bool × Bool × Unit)) =>
 keep (fun w => w.cell? v2 = some (Cell.val (.sl) x5)) <|
 newO (.cells #[(.slice x14.1.a x14.1.len x14.1.cap), (.int .i64 x14.2.1), (.int .i64 x14.2.2.1), (.int .i64 x14.2.2.2.1), (.int .i64 x14.2.2.2.2.1), (.bool x14.2.2.2.2.2.1), (.bool x14.2.2.2.2.2.2.1)] 93) fun b15 =>
 keep (fun w => w.cell? v2 = some (Cell.val (.sl) x5)) <|
 rawT Tryz.prog (.one (.one .sl)) (Builtin.append_ #[87, 87] 87 #[(.slice x5.a x5.len x5.cap), (.slice (some (at0 b15)) 1 1)]) fun (x16 : Sl) =>
 stC v2 (.slice x16.a x16.len x16.cap) <|
 stC v1 (.int .i64 ((x3.len : Nat) : Int)) <|
 stC v3 (.int .i64 (0 : Int)) <|
 K ()) (
 K ())
noncomputable def h145 : Hint := (hS (hR 6) (hS (hR 3) (hC (hS (.region [0, 1, 2, 3, 4, 5, 6, 7, 8, 9, 10, 11, 12, 13, 14, 15, 16] (hO 17)) (hR 3)) hL)))
theorem F145_calls {v0 : Addr} {v1 : Addr} {v2 : Addr} {v3 : Addr} {K : Unit → World → Prop} {w : World} (h : F145 v0 v1 v2 v3 K w) : callT Tryz.prog 145 #[(.pointer (some v0)), (.pointer (some v1)), (.pointer (some v2)), (.pointer (some v3))] (.tup []) K w := tied tabOk Tryz.func145 h145 [(.pointer (some v0)), (.pointer (some v1)), (.pointer (some v2)), (.pointer (some v3))] h
noncomputable def F146 (a0 : Int) (a1 : Sl) (K : (Sl × Int × Int × Unit) → World → Prop) : World → Prop :=
 callT Tryz.prog 92 #[(.int .i64 a0)] (.one (.one .any)) fun (x1 : Value) =>
 rdB Tryz.prog (do eqGuard .eql 118 (Operand.tmp 13) (Operand.const Value.nilIface) x1 .nilIface; binOp .eql 118 x1 .nilIface : Sem Value) fun r2 =>
 sif r2 (
 K (⟨none, 0, 0⟩, (0 : Int), (10 : Int), ())) (
 join (S := Sl × Unit) (fun J3 =>
 sloop (S := Sl × Int × Unit) (fun (s5 : Sl × Int × Unit) again6 =>
 sif (decide (s5.2.1 < ((a1.len : Nat) : Int))) (
 ix a1.a a1.len s5.2.1 fun p7 =>
 ld (.int .i64) (p7.add (scaled (Int.toNat s5.2.1) 1)) fun (x8 : Int) =>
 callX Tryz.prog (invoke (.fn (.method "copyist/codec.size") #[]) (#[x1] ++ #[(.int .i64 x8)])) (.one (.one (.int .i64))) fun (x9 : Int) =>
 sif (x9 == (0 : Int)) (
 K (⟨none, 0, 0⟩, s5.2.1, (11 : Int), ())) (
 callX Tryz.prog (invoke (.fn (.method "copyist/codec.put") #[]) (#[x1] ++ #[(.slice s5.1.a s5.1.len s5.1.cap), (.int .i64 x8)])) (.one (.one .sl)) fun (x10 : Sl) =>
 again6 (x10, (IntKind.wrap .i64 (s5.2.1 + (1 : Int))), ()))) (
 J3 (s5.1, ()))) (⟨none, 0, 0⟩, (0 : Int), ())) fun (s4 : Sl × Unit) =>
 K (s4.1, (0 : Int), (0 : Int), ()))
noncomputable def h146 : Hint := (hS (hR 3) (hS (hR 3) (hS (hS (hR 2) (hC (hS (hR 3) hL) hL)) (hS (hR 1) (hJ (4294936432, [(8, tS)]) (hS (hR 3) (.block (.loop 4294838128 [(8, tS), (17, tI)] (hS (hR 1) (hS (hC hL hL) (hS (.block (hS (hR 5) (hS (hS (hR 4) (hC (hS (hR 4) hL) hL)) (hR 5)))) (hR 2))))))) (hS (hR 4) hL))))))
theorem F146_calls {a0 : Int} {a1 : Sl} {K : (Sl × Int × Int × Unit) → World → Prop} {w : World} (h : F146 a0 a1 K w) : callT Tryz.prog 146 #[(.int .i64 a0), (.slice a1.a a1.len a1.cap)] (.tup [(.one .sl), (.one (.int .i64)), (.one (.int .i64))]) K w := tied tabOk Tryz.func146 h146 [(.int .i64 a0), (.slice a1.a a1.len a1.cap)] h
noncomputable def F147 (a0 : Option Addr) (a1 : Int) (K : (Option Addr × Option Addr × Unit) → World → Prop) : World → Prop :=
 sif (Option.isNone a0) (
 K (none, none, ())) (
 nn a0 fun p1 =>
 ld (.ptr) p1 fun (x2 : Option Addr) =>
 callT Tryz.prog 137 #[(.pointer x2)] (.one (.one (.int .i64))) fun (x3 : Int) =>
 sif (decide (a1 ≤ x3)) (
 nn a0 fun p4 =>
 ld (.ptr) p4 fun (x5 : Option Addr) =>
 callT Tryz.prog 147 #[(.pointer x5), (.int .i64 a1)] (.tup [(.one .ptr), (.one .ptr)]) fun (x6 : (Option Addr × Option Addr × Unit)) =>
 drew <|
 nn a0 fun p7 =>
 lds c93 (p7.add 2) fun (x8 : (Sl × Int × Int × Int × Int × Bool × Bool × Unit)) =>
 nn a0 fun p9 =>
 ld (.ptr) (p9.add 1) fun (x10 : Option Addr) =>
 callT Tryz.prog 159 #[(.pointer x6.2.1), (.agg (Cells.vals c93 x8).toArray), (.pointer x10)] (.one (.one .ptr)) fun (x11 : Option Addr) =>
 K (x6.1, x11, ())) (
 nn a0 fun p12 =>
 ld (.ptr) (p12.add 1) fun (x13 : Option Addr) =>
 callT Tryz.prog 147 #[(.pointer x13), (.int .i64 (IntKind.wrap .i64 ((IntKind.wrap .i64 (a1 - x3)) - (1 : Int))))] (.tup [(.one .ptr), (.one .ptr)]) fun (x14 : (Option Addr × Option Addr × Unit)) =>
 drew <|
 nn a0 fun p15 =>
 ld (.ptr) p15 fun (x16 : Option Addr) =>
 nn a0 fun p17 =>
 lds c93 (p17.add 2) fun (x18 : (Sl × Int × Int × Int × Int × Bool × Bool × Unit)) =>
 callT Tryz.prog 159 #[(.pointer x16), (.agg (Cells.vals c93 x18).toArray), (.pointer x14.1)] (.one (.one .ptr)) fun (x19 : Option Addr) =>
 K (x19, x14.2.1, ())))
noncomputable def h147 : Hint := (hS (hR 2) (hS (hS (hR 2) (hC (hS (hR 2) hL) hL)) (hS (hR 6) (hS (hR 3) (hC (hS (hR 11) (hS (.region [0, 1, 2, 3, 4, 5, 6, 7, 8, 9, 10, 11, 12] (hO 13)) hL)) (hS (hR 14) (hS (.region [0, 1, 2, 3, 4, 5, 6, 7, 8, 10, 9, 11, 12] (hO 13)) hL)))))))
theorem F147_calls {a0 : Option Addr} {a1 : Int} {K : (Option Addr × Option Addr × Unit) → World → Prop} {w : World} (h : F147 a0 a1 K w) : callT Tryz.prog 147 #[(.pointer a0), (.int .i64 a1)] (.tup [(.one .ptr), (.one .ptr)]) K w := tied tabOk Tryz.func147 h147 [(.pointer a0), (.int .i64 a1)] h
noncomputable def F148 (a0 : Option Addr) (a1 : Option Addr) (K : Option Addr → World → Prop) : World → Prop :=
 sif (Option.isNone a1) (
 K a0) (
 callT Tryz.prog 160 #[(.pointer a1)] (.tup [(.agg c93), (.one .ptr)]) fun (x1 : ((Sl × Int × Int × Int × Int × Bool × Bool × Unit) × Option Addr × Unit)) =>
 newO (.cells #[(.slice none 0 0), (.int .i64 (0 : Int)), (.int .i64 (0 : Int)), (.int .i64 (0 : Int)), (.int .i64 (0 : Int)), (.bool false), (.bool false)] 93) fun b2 =>
 aggSt (at0 b2) (.agg (Cells.vals c93 x1.1).toArray) 7 <|
 lds c93 (at0 b2) fun (x3 : (Sl × Int × Int × Int × Int × Bool × Bool × Unit)) =>
 callT Tryz.prog 159 #[(.pointer a0), (.agg (Cells.vals c93 x3).toArray), (.pointer x1.2.1)] (.one (.one .ptr)) fun (x4 : Option Addr) =>
 K x4)
noncomputable def h148 : Hint := (hS (hR 1) (hS (hS (hR 2) (hC (hS (hR 2) hL) hL)) (hS (hR 8) (hS (hR 5) hL))))
theorem F148_calls {a0 : Option Addr} {a1 : Option Addr} {K : Option Addr → World → Prop} {w : World} (h : F148 a0 a1 K w) : callT Tryz.prog 148 #[(.pointer a0), (.pointer a1)] (.one (.one .ptr)) K w := tied tabOk Tryz.func148 h148 [(.pointer a0), (.pointer a1)] h
noncomputable def F152 (a0 : Option Addr) (K : Int → World → Prop) : World → Prop :=
 sif (Option.isNone a0) (
 K (0 : Int)) (
 nn a0 fun p1 =>
 ld (.int .i64) (p1.add 10) fun (x2 : Int) =>
 K x2)
noncomputable def h152 : Hint := (hS (hR 1) (hS (hS (hR 2) (hC (hS (hR 1) hL) hL)) (hS (hR 5) hL)))
theorem F152_calls {a0 : Option Addr} {K : Int → World → Prop} {w : World} (h : F152 a0 K w) : callT Tryz.prog 152 #[(.pointer a0)] (.one (.one (.int .i64))) K w := tied tabOk Tryz.func152 h152 [(.pointer a0)] h
noncomputable def F159 (a0 : Option Addr) (a1 : (Sl × Int × Int × Int × Int × Bool × Bool × Unit)) (a2 : Option Addr) (K : Option Addr → World → Prop) : World → Prop :=
 newO (.cells #[(.slice a1.1.a a1.1.len a1.1.cap), (.int .i64 a1.2.1), (.int .i64 a1.2.2.1), (.int .i64 a1.2.2.2.1), (.int .i64 a1.2.2.2.2.1), (.bool a1.2.2.2.2.2.1), (.bool a1.2.2.2.2.2.2.1)] 93) fun b1 =>
 callT Tryz.prog 152 #[(.pointer a0)] (.one (.one (.int .i64))) fun (x2 : Int) =>
 callT Tryz.prog 152 #[(.pointer a2)] (.one (.one (.int .i64))) fun (x3 : Int) =>
 sif (decide (x2 > (IntKind.wrap .i64 (x3 + (1 : Int))))) (
 drew <|
 nn a0 fun p4 =>
 ld (.ptr) p4 fun (x5 : Option Addr) =>
 nn a0 fun p6 =>
 lds c93 (p6.add 2) fun (x7 : (Sl × Int × Int × Int × Int × Bool × Bool × Unit)) =>
 nn a0 fun p8 =>
 ld (.ptr) (p8.add 1) fun (x9 : Option Addr) =>
 lds c93 (at0 b1) fun (x10 : (Sl × Int × Int × Int × Int × Bool × Bool × Unit)) =>
 callT Tryz.prog 159 #[(.pointer x9), (.agg (Cells.vals c93 x10).toArray), (.pointer a2)] (.one (.one .ptr)) fun (x11 : Option Addr) =>
 keep (fun w => cellsAt w (p6.add 2) 0 (Cells.vals c93 x7)) <|
 keep (fun w => w.cell? p4 = some (Cell.val (.ptr) x5)) <|
 callT Tryz.prog 162 #[(.pointer x5), (.agg (Cells.vals c93 x7).toArray), (.pointer x11)] (.one (.one .ptr)) fun (x12 : Option Addr) =>
 K x12) (
 callT Tryz.prog 152 #[(.pointer a2)] (.one (.one (.int .i64))) fun (x13 : Int) =>
 callT Tryz.prog 152 #[(.pointer a0)] (.one (.one (.int .i64))) fun (x14 : Int) =>
 sif (decide (x13 > (IntKind.wrap .i64 (x14 + (1 : Int))))) (
 drew <|
 lds c93 (at0 b1) fun (x15 : (Sl × Int × Int × Int × Int × Bool × Bool × Unit)) =>
 nn a2 fun p16 =>
 ld (.ptr) p16 fun (x17 : Option Addr) =>
 nn a2 fun p18 =>
 lds c93 (p18.add 2) fun (x19 : (Sl × Int × Int × Int × Int × Bool × Bool × Unit)) =>
 nn a2 fun p20 =>
 ld (.ptr) (p20.add 1) fun (x21 : Option Addr) =>
 callT Tryz.prog 159 #[(.pointer a0), (.agg (Cells.vals c93 x15).toArray), (.pointer x17)] (.one (.one .ptr)) fun (x22 : Option Addr) =>
 keep (fun w => w.cell? (p20.add 1) = some (Cell.val (.ptr) x21)) <|
 keep (fun w => cellsAt w (p18.add 2) 0 (Cells.vals c93 x19)) <|
 callT Tryz.prog 162 #[(.pointer x22), (.agg (Cells.vals c93 x19).toArray), (.pointer x21)] (.one (.one .ptr)) fun (x23 : Option Addr) =>
 K x23) (
 lds c93 (at0 b1) fun (x24 : (Sl × Int × Int × Int × Int × Bool × Bool × Unit)) =>
 callT Tryz.prog 129 #[(.pointer a0), (.agg (Cells.vals c93 x24).toArray), (.pointer a2)] (.one (.one .ptr)) fun (x25 : Option Addr) =>
 K x25))
noncomputable def h159 : Hint := (hS (hR 2) (hS (.block (hS (hR 7) (hC (hS (.region [0, 1, 2, 3, 4, 5, 6, 7, 8, 9, 10, 11, 12, 13, 14, 15, 16] (hO 17)) hL) (hS (hR 7) (hC (hS (.region [0, 1, 2, 3, 4, 5, 7, 8, 9, 10, 11, 12, 13, 14, 6, 15, 16] (hO 17)) hL) hL))))) (hS (hR 5) hL)))
theorem F159_calls {a0 : Option Addr} {a1 : (Sl × Int × Int × Int × Int × Bool × Bool × Unit)} {a2 : Option Addr} {K : Option Addr → World → Prop} {w : World} (h : F159 a0 a1 a2 K w) : callT Tryz.prog 159 #[(.pointer a0), (.agg (Cells.vals c93 a1).toArray), (.pointer a2)] (.one (.one .ptr)) K w := tied tabOk Tryz.func159 h159 [(.pointer a0), (.agg (Cells.vals c93 a1).toArray), (.pointer a2)] h
noncomputable def F160 (a0 : Option Addr) (K : ((Sl × Int × Int × Int × Int × Bool × Bool × Unit) × Option Addr × Unit) → World → Prop) : World → Prop :=
 newO (.cells #[(.slice none 0 0), (.int .i64 (0 : Int)), (.int .i64 (0 : Int)), (.int .i64 (0 : Int)), (.int .i64 (0 : Int)), (.bool false), (.bool false)] 93) fun b1 =>
 nn a0 fun p2 =>
 ld (.ptr) p2 fun (x3 : Option Addr) =>
 sif (Option.isNone x3) (
 drew <|
 nn a0 fun p4 =>
 lds c93 (p4.add 2) fun (x5 : (Sl × Int × Int × Int × Int × Bool × Bool × Unit)) =>
 nn a0 fun p6 =>
 ld (.ptr) (p6.add 1) fun (x7 : Option Addr) =>
 aggSt (at0 b1) (.agg (Cells.vals c93 x5).toArray) 7 <|
 keep (fun w => w.cell? (p6.add 1) = some (Cell.val (.ptr) x7)) <|
 lds c93 (at0 b1) fun (x8 : (Sl × Int × Int × Int × Int × Bool × Bool × Unit)) =>
 K (x8, x7, ())) (
 nn a0 fun p9 =>
 ld (.ptr) p9 fun (x10 : Option Addr) =>
 callT Tryz.prog 160 #[(.pointer x10)] (.tup [(.agg c93), (.one .ptr)]) fun (x11 : ((Sl × Int × Int × Int × Int × Bool × Bool × Unit) × Option Addr × Unit)) =>
 newO (.cells #[(.slice none 0 0), (.int .i64 (0 : Int)), (.int .i64 (0 : Int)), (.int .i64 (0 : Int)), (.int .i64 (0 : Int)), (.bool false), (.bool false)] 93) fun b12 =>
 aggSt (at0 b12) (.agg (Cells.vals c93 x11.1).toArray) 7 <|
 drew <|
 lds c93 (at0 b12) fun (x13 : (Sl × Int × Int × Int × Int × Bool × Bool × Unit)) =>
 nn a0 fun p14 =>
 lds c93 (p14.add 2) fun (x15 : (Sl × Int × Int × Int × Int × Bool × Bool × Unit)) =>
 nn a0 fun p16 =>
 ld (.ptr) (p16.add 1) fun (x17 : Option Addr) =>
 callT Tryz.prog 162 #[(.pointer x11.2.1), (.agg (Cells.vals c93 x15).toArray), (.pointer x17)] (.one (.one .ptr)) fun (x18 : Option Addr) =>
 keep (fun w => cellsAt w (at0 b12) 0 (Cells.vals c93 x13)) <|
 aggSt (at0 b1) (.agg (Cells.vals c93 x13).toArray) 7 <|
 lds c93 (at0 b1) fun (x19 : (Sl × Int × Int × Int × Int × Bool × Bool × Unit)) =>
 K (x19, x18, ()))
noncomputable def h160 : Hint := (hS (hR 2) (hS (hS (hR 5) (hC (hS (.region [0, 1, 2, 3, 4, 5, 6, 7, 8, 9] (hO 10)) hL) hL)) (hS (hR 11) (hS (.region [0, 1, 2, 3, 4, 5, 6, 7, 8, 9, 10, 11, 12] (hO 13)) hL))))
theorem F160_calls {a0 : Option Addr} {K : ((Sl × Int × Int × Int × Int × Bool × Bool × Unit) × Option Addr × Unit) → World → Prop} {w : World} (h : F160 a0 K w) : callT Tryz.prog 160 #[(.pointer a0)] (.tup [(.agg c93), (.one .ptr)]) K w := tied tabOk Tryz.func160 h160 [(.pointer a0)] h
noncomputable def F162 (a0 : Option Addr) (a1 : (Sl × Int × Int × Int × Int × Bool × Bool × Unit)) (a2 : Option Addr) (K : Option Addr → World → Prop) : World → Prop :=
 newO (.cells #[(.slice a1.1.a a1.1.len a1.1.cap), (.int .i64 a1.2.1), (.int .i64 a1.2.2.1), (.int .i64 a1.2.2.2.1), (.int .i64 a1.2.2.2.2.1), (.bool a1.2.2.2.2.2.1), (.bool a1.2.2.2.2.2.2.1)] 93) fun b1 =>
 callT Tryz.prog 152 #[(.pointer a0)] (.one (.one (.int .i64))) fun (x2 : Int) =>
 callT Tryz.prog 152 #[(.pointer a2)] (.one (.one (.int .i64))) fun (x3 : Int) =>
 sif (decide (x2 > (IntKind.wrap .i64 (x3 + (1 : Int))))) (
 drew <|
 nn a0 fun p4 =>
 ld (.ptr) p4 fun (x5 : Option Addr) =>
 nn a0 fun p6 =>
 ld (.ptr) (p6.add 1) fun (x7 : Option Addr) =>
 callT Tryz.prog 152 #[(.pointer x5)] (.one (.one (.int .i64))) fun (x8 : Int) =>
 keep (fun w => w.cell? (p6.add 1) = some (Cell.val (.ptr) x7)) <|
 callT Tryz.prog 152 #[(.pointer x7)] (.one (.one (.int .i64))) fun (x9 : Int) =>
 sif (decide (x8 ≥ x9)) (
 drew <|
 nn a0 fun p10 =>
 ld (.ptr) p10 fun (x11 : Option Addr) =>
 nn a0 fun p12 =>
 lds c93 (p12.add 2) fun (x13 : (Sl × Int × Int × Int × Int × Bool × Bool × Unit)) =>
 nn a0 fun p14 =>
 ld (.ptr) (p14.add 1) fun (x15 : Option Addr) =>
 lds c93 (at0 b1) fun (x16 : (Sl × Int × Int × Int × Int × Bool × Bool × Unit)) =>
 callT Tryz.prog 129 #[(.pointer x15), (.agg (Cells.vals c93 x16).toArray), (.pointer a2)] (.one (.one .ptr)) fun (x17 : Option Addr) =>
 keep (fun w => cellsAt w (p12.add 2) 0 (Cells.vals c93 x13)) <|
 keep (fun w => w.cell? p10 = some (Cell.val (.ptr) x11)) <|
 callT Tryz.prog 129 #[(.pointer x11), (.agg (Cells.vals c93 x13).toArray), (.pointer x17)] (.one (.one .ptr)) fun (x18 : Option Addr) =>
 K x18) (
 nn a0 fun p19 =>
 ld (.ptr) (p19.add 1) fun (x20 : Option Addr) =>
 drew <|
 nn a0 fun p21 =>
 ld (.ptr) p21 fun (x22 : Option Addr) =>
 nn a0 fun p23 =>
 lds c93 (p23.add 2) fun (x24 : (Sl × Int × Int × Int × Int × Bool × Bool × Unit)) =>
 nn x20 fun p25 =>
 ld (.ptr) p25 fun (x26 : Option Addr) =>
 nn x20 fun p27 =>
 lds c93 (p27.add 2) fun (x28 : (Sl × Int × Int × Int × Int × Bool × Bool × Unit)) =>
 nn x20 fun p29 =>
 ld (.ptr) (p29.add 1) fun (x30 : Option Addr) =>
 lds c93 (at0 b1) fun (x31 : (Sl × Int × Int × Int × Int × Bool × Bool × Unit)) =>
 callT Tryz.prog 129 #[(.pointer x22), (.agg (Cells.vals c93 x24).toArray), (.pointer x26)] (.one (.one .ptr)) fun (x32 : Option Addr) =>
 keep (fun w => cellsAt w (at0 b1) 0 (Cells.vals c93 x31)) <|
 keep (fun w => w.cell? (p29.add 1) = some (Cell.val (.ptr) x30)) <|
 keep (fun w => cellsAt w (p27.add 2) 0 (Cells.vals c93 x28)) <|
 callT Tryz.prog 129 #[(.pointer x30), (.agg (Cells.vals c93 x31).toArray), (.pointer a2)] (.one (.one .ptr)) fun (x33 : Option Addr) =>
 keep (fun w => cellsAt w (p27.add 2) 0 (Cells.vals c93 x28)) <|
 callT Tryz.prog 129 #[(.pointer x32), (.agg (Cells.vals c93 x28).toArray), (.pointer x33)] (.one (.one .ptr)) fun (x34 : Option Addr) =>
 K x34)) (
 callT Tryz.prog 152 #[(.pointer a2)] (.one (.one (.int .i64))) fun (x35 : Int) =>
 callT Tryz.prog 152 #[(.pointer a0)] (.one (.one (.int .i64))) fun (x36 : Int) =>
 sif (decide (x35 > (IntKind.wrap .i64 (x36 + (1 : Int))))) (
 drew <|
 nn a2 fun p37 =>
 ld (.ptr) (p37.add 1) fun (x38 : Option Addr) =>
 nn a2 fun p39 =>
 ld (.ptr) p39 fun (x40 : Option Addr) =>
 callT Tryz.prog 152 #[(.pointer x38)] (.one (.one (.int .i64))) fun (x41 : Int) =>
 keep (fun w => w.cell? p39 = some (Cell.val (.ptr) x40)) <|
 callT Tryz.prog 152 #[(.pointer x40)] (.one (.one (.int .i64))) fun (x42 : Int) =>
 sif (decide (x41 ≥ x42)) (
 drew <|
 lds c93 (at0 b1) fun (x43 : (Sl × Int × Int × Int × Int × Bool × Bool × Unit)) =>
 nn a2 fun p44 =>
 ld (.ptr) p44 fun (x45 : Option Addr) =>
 nn a2 fun p46 =>
 lds c93 (p46.add 2) fun (x47 : (Sl × Int × Int × Int × Int × Bool × Bool × Unit)) =>
 nn a2 fun p48 =>
 ld (.ptr) (p48.add 1) fun (x49 : Option Addr) =>
 callT Tryz.prog 129 #[(.pointer a0), (.agg (Cells.vals c93 x43).toArray), (.pointer x45)] (.one (.one .ptr)) fun (x50 : Option Addr) =>
 keep (fun w => w.cell? (p48.add 1) = some (Cell.val (.ptr) x49)) <|
 keep (fun w => cellsAt w (p46.add 2) 0 (Cells.vals c93 x47)) <|
 callT Tryz.prog 129 #[(.pointer x50), (.agg (Cells.vals c93 x47).toArray), (.pointer x49)] (.one (.one .ptr)) fun (x51 : Option Addr) =>
 K x51) (
 nn a2 fun p52 =>
 ld (.ptr) p52 fun (x53 : Option Addr) =>
 drew <|
 lds c93 (at0 b1) fun (x54 : (Sl × Int × Int × Int × Int × Bool × Bool × Unit)) =>
 nn x53 fun p55 =>
 ld (.ptr) p55 fun (x56 : Option Addr) =>
 nn x53 fun p57 =>
 lds c93 (p57.add 2) fun (x58 : (Sl × Int × Int × Int × Int × Bool × Bool × Unit)) =>
 nn x53 fun p59 =>
 ld (.ptr) (p59.add 1) fun (x60 : Option Addr) =>
 nn a2 fun p61 =>
 lds c93 (p61.add 2) fun (x62 : (Sl × Int × Int × Int × Int × Bool × Bool × Unit)) =>
 nn a2 fun p63 =>
 ld (.ptr) (p63.add 1) fun (x64 : Option Addr) =>
 callT Tryz.prog 129 #[(.pointer a0), (.agg (Cells.vals c93 x54).toArray), (.pointer x56)] (.one (.one .ptr)) fun (x65 : Option Addr) =>
 keep (fun w => w.cell? (p63.add 1) = some (Cell.val (.ptr) x64)) <|
 keep (fun w => cellsAt w (p61.add 2) 0 (Cells.vals c93 x62)) <|
 keep (fun w => w.cell? (p59.add 1) = some (Cell.val (.ptr) x60)) <|
 keep (fun w => cellsAt w (p57.add 2) 0 (Cells.vals c93 x58)) <|
 callT Tryz.prog 129 #[(.pointer x60), (.agg (Cells.vals c93 x62).toArray), (.pointer x64)] (.one (.one .ptr)) fun (x66 : Option Addr) =>
 keep (fun w => cellsAt w (p57.add 2) 0 (Cells.vals c93 x58)) <|
 callT Tryz.prog 129 #[(.pointer x65), (.agg (Cells.vals c93 x58).toArray), (.pointer x66)] (.one (.one .ptr)) fun (x67 : Option Addr) =>
 K x67)) (
 lds c93 (at0 b1) fun (x68 : (Sl × Int × Int × Int × Int × Bool × Bool × Unit)) =>
 callT Tryz.prog 129 #[(.pointer a0), (.agg (Cells.vals c93 x68).toArray), (.pointer a2)] (.one (.one .ptr)) fun (x69 : Option Addr) =>
 K x69))
noncomputable def h162 : Hint := (hS (hR 2) (hS (.block (hS (hR 7) (hC (hS (hS (.region [0, 1, 2, 3, 5, 6, 7, 8, 4, 9, 10] (hO 11)) (hC (hS (.region [0, 1, 2, 3, 4, 5, 6, 7, 8, 9, 10, 11, 12, 13, 14, 15, 16] (hO 17)) hL) hL)) (hS (hR 5) (hS (.region [0, 1, 2, 3, 4, 5, 6, 7, 8, 9, 10, 11, 13, 14, 15, 16, 17, 18, 19, 20, 21, 22, 12, 23, 24, 25] (hO 26)) hL))) (hS (hR 7) (hC (hS (hS (.region [0, 1, 2, 3, 5, 6, 7, 8, 4, 9, 10] (hO 11)) (hC (hS (.region [0, 1, 2, 3, 4, 5, 7, 8, 9, 10, 11, 12, 13, 14, 6, 15, 16] (hO 17)) hL) hL)) (hS (hR 5) (hS (.region [0, 1, 2, 3, 4, 5, 7, 8, 9, 10, 11, 12, 13, 14, 15, 16, 17, 18, 19, 20, 21, 22, 6, 23, 24, 25] (hO 26)) hL))) hL))))) (hS (hR 5) hL)))
theorem F162_calls {a0 : Option Addr} {a1 : (Sl × Int × Int × Int × Int × Bool × Bool × Unit)} {a2 : Option Addr} {K : Option Addr → World → Prop} {w : World} (h : F162 a0 a1 a2 K w) : callT Tryz.prog 162 #[(.pointer a0), (.agg (Cells.vals c93 a1).toArray), (.pointer a2)] (.one (.one .ptr)) K w := tied tabOk Tryz.func162 h162 [(.pointer a0), (.agg (Cells.vals c93 a1).toArray), (.pointer a2)] h
noncomputable def F182 (a0 : (Int × Int × Int × Bool × Bool × Unit)) (a1 : Int) (K : Int → World → Prop) : World → Prop :=
 newO (.cells #[(.int .i64 a0.1), (.int .i64 a0.2.1), (.int .i64 a0.2.2.1), (.bool a0.2.2.2.1), (.bool a0.2.2.2.2.1)] 91) fun b1 =>
 sif (a1 == (0 : Int)) (
 ld (.int .i64) (at0 b1) fun (x2 : Int) =>
 K x2) (
 sif (a1 == (1 : Int)) (
 ld (.int .i64) (⟨b1, 2, none⟩ : Addr) fun (x3 : Int) =>
 K x3) (
 K (0 : Int)))
noncomputable def h182 : Hint := (hS (hR 2) (hS (hS (hR 1) (.block (hS (hR 2) (hC (hS (hR 3) hL) (hS (hR 2) (hC (hS (hR 3) hL) hL)))))) (hS (hR 1) hL)))
theorem F182_calls {a0 : (Int × Int × Int × Bool × Bool × Unit)} {a1 : Int} {K : Int → World → Prop} {w : World} (h : F182 a0 a1 K w) : callT Tryz.prog 182 #[(.agg (Cells.vals c91 a0).toArray), (.int .i64 a1)] (.one (.one (.int .i64))) K w := tied tabOk Tryz.func182 h182 [(.agg (Cells.vals c91 a0).toArray), (.int .i64 a1)] h
noncomputable def F183 (a0 : (Sl × Int × Int × Int × Int × Bool × Bool × Unit)) (K : (Int × Int × Int × Bool × Bool × Unit) → World → Prop) : World → Prop :=
 newO (.cells #[(.slice a0.1.a a0.1.len a0.1.cap), (.int .i64 a0.2.1), (.int .i64 a0.2.2.1), (.int .i64 a0.2.2.2.1), (.int .i64 a0.2.2.2.2.1), (.bool a0.2.2.2.2.2.1), (.bool a0.2.2.2.2.2.2.1)] 93) fun b1 =>
 newO (.cells #[(.int .i64 (0 : Int)), (.int .i64 (0 : Int)), (.int .i64 (0 : Int)), (.bool false), (.bool false)] 91) fun b2 =>
 lds c91 (⟨b1, 2, none⟩ : Addr) fun (x3 : (Int × Int × Int × Bool × Bool × Unit)) =>
 aggSt (at0 b2) (.agg (Cells.vals c91 x3).toArray) 5 <|
 lds c91 (at0 b2) fun (x4 : (Int × Int × Int × Bool × Bool × Unit)) =>
 K x4
noncomputable def h183 : Hint := (hS (hR 2) (hS (hR 3) hL))
theorem F183_calls {a0 : (Sl × Int × Int × Int × Int × Bool × Bool × Unit)} {K : (Int × Int × Int × Bool × Bool × Unit) → World → Prop} {w : World} (h : F183 a0 K w) : callT Tryz.prog 183 #[(.agg (Cells.vals c93 a0).toArray)] (.one (.agg c91)) K w := tied tabOk Tryz.func183 h183 [(.agg (Cells.vals c93 a0).toArray)] h
noncomputable def F184 (a0 : (Unit)) (a1 : Sl) (K : (Int × Int × Unit) → World → Prop) : World → Prop :=
 newO (.cells #[] 146) fun b1 =>
 callT Tryz.prog 189 #[(.slice a1.a a1.len a1.cap)] (.tup [(.one (.int .i64)), (.one (.int .i64))]) fun (x2 : (Int × Int × Unit)) =>
 join (S := Bool × Unit) (fun J3 =>
 sif (x2.2.1 == (0 : Int)) (
 J3 (true, ())) (
 J3 ((decide (x2.1 < x2.2.1)), ()))) fun (s4 : Bool × Unit) =>
 sif s4.1 (
 ix a1.a a1.len (0 : Int) fun p5 =>
 ld (.int .u8) (p5.add (scaled (Int.toNat (0 : Int)) 1)) fun (x6 : Int) =>
 K ((IntKind.wrap .i64 ((-1 : Int) - (IntKind.wrap .i64 x6))), (1 : Int), ())) (
 ix a1.a a1.len (0 : Int) fun p7 =>
 ld (.int .u8) (p7.add (scaled (Int.toNat (0 : Int)) 1)) fun (x8 : Int) =>
 join (S := Int × Unit) (fun J9 =>
 sif (x2.2.1 == (2 : Int)) (
 J9 ((IntKind.wrap .i64 ((BitVec.toNat (BitVec.ofInt (IntKind.bits .i64) (IntKind.wrap .i64 x8) &&& BitVec.ofInt (IntKind.bits .i64) (31 : Int)) : Nat) : Int)), ())) (
 sif (x2.2.1 == (3 : Int)) (
 J9 ((IntKind.wrap .i64 ((BitVec.toNat (BitVec.ofInt (IntKind.bits .i64) (IntKind.wrap .i64 x8) &&& BitVec.ofInt (IntKind.bits .i64) (15 : Int)) : Nat) : Int)), ())) (
 sif (x2.2.1 == (4 : Int)) (
 J9 ((IntKind.wrap .i64 ((BitVec.toNat (BitVec.ofInt (IntKind.bits .i64) (IntKind.wrap .i64 x8) &&& BitVec.ofInt (IntKind.bits .i64) (7 : Int)) : Nat) : Int)), ())) (
 J9 ((IntKind.wrap .i64 x8), ()))))) fun (s10 : Int × Unit) =>
 join (S := Int × Unit) (fun J11 =>
 slc a1.a (1 : Int) x2.2.1 ((a1.cap : Nat) : Int) a1.cap 1 fun x13 =>
 sloop (S := Int × Int × Unit) (fun (s14 : Int × Int × Unit) again15 =>
 sif (decide (s14.2.1 < ((x13.len : Nat) : Int))) (
 ix x13.a x13.len s14.2.1 fun p16 =>
 ld (.int .u8) (p16.add (scaled (Int.toNat s14.2.1) 1)) fun (x17 : Int) =>
 chk (0 ≤ (6 : Int)) <|
 again15 ((IntKind.wrap .i64 ((BitVec.toNat (BitVec.ofInt (IntKind.bits .i64) (IntKind.wrap .i64 (s14.1 * 2 ^ (min (Int.toNat (6 : Int)) (IntKind.bits .i64)))) ||| BitVec.ofInt (IntKind.bits .i64) (IntKind.wrap .i64 (IntKind.wrap .u8 ((BitVec.toNat (BitVec.ofInt (IntKind.bits .u8) x17 &&& BitVec.ofInt (IntKind.bits .u8) (63 : Int)) : Nat) : Int)))) : Nat) : Int)), (IntKind.wrap .i64 (s14.2.1 + (1 : Int))), ())) (
 J11 (s14.1, ()))) (s10.1, (0 : Int), ())) fun (s12 : Int × Unit) =>
 K (s12.1, x2.2.1, ()))
noncomputable def h184 : Hint := (hS (hR 3) (hS (hR 7) (hS (hJ (8323072, [(22, tB)]) (.region [] (.ops 3 (.split 18 (.skips 3 (hO 1)) (hO 4)))) (hC (hS (hR 7) hL) hL)) (hS (hR 5) (hJ (35180077121792, [(8, tI)]) (hS (hR 1) (.block (hS (hR 2) (hC (hR 3) (hS (hR 2) (hC (hR 3) (hS (hR 2) (hC (hR 3) hL)))))))) (hJ (1152886320234759424, [(8, tI)]) (hS (hR 5) (.block (.loop 1152358554653426944 [(8, tI), (49, tI)] (hS (hR 1) (hS (hC hL hL) (hS (.block (hS (hR 3) (hR 7))) (hR 2))))))) (hS (hR 4) hL)))))))
theorem F184_calls {a0 : (Unit)} {a1 : Sl} {K : (Int × Int × Unit) → World → Prop} {w : World} (h : F184 a0 a1 K w) : callT Tryz.prog 184 #[(.agg (Cells.vals c146 a0).toArray), (.slice a1.a a1.len a1.cap)] (.tup [(.one (.int .i64)), (.one (.int .i64))]) K w := tied tabOk Tryz.func184 h184 [(.agg (Cells.vals c146 a0).toArray), (.slice a1.a a1.len a1.cap)] h
noncomputable def F187 (a0 : (Unit)) (a1 : Sl) (a2 : Int) (K : Sl → World → Prop) : World → Prop :=
 newO (.cells #[] 146) fun b1 =>
 lds c146 (at0 b1) fun (x2 : (Unit)) =>
 callT Tryz.prog 188 #[(.agg (Cells.vals c146 x2).toArray), (.int .i64 a2)] (.one (.one (.int .i64))) fun (x3 : Int) =>
 sif (decide (a2 < (0 : Int))) (
 newO (.cells #[(.int .u8 (IntKind.wrap .u8 (IntKind.wrap .i64 ((-1 : Int) - a2))))] 5) fun b4 =>
 rawT Tryz.prog (.one (.one .sl)) (Builtin.append_ #[22, 22] 22 #[(.slice a1.a a1.len a1.cap), (.slice (some (at0 b4)) 1 1)]) fun (x5 : Sl) =>
 K x5) (
 sif (x3 == (1 : Int)) (
 newO (.cells #[(.int .u8 (IntKind.wrap .u8 a2))] 5) fun b6 =>
 rawT Tryz.prog (.one (.one .sl)) (Builtin.append_ #[22, 22] 22 #[(.slice a1.a a1.len a1.cap), (.slice (some (at0 b6)) 1 1)]) fun (x7 : Sl) =>
 K x7) (
 newO (.cells #[(.int .u8 (0 : Int)), (.int .u8 (0 : Int)), (.int .u8 (0 : Int)), (.int .u8 (0 : Int)), (.int .u8 (0 : Int))] 187) fun b8 =>
 aggSt (at0 b8) (.agg #[(.int .u8 (0 : Int)), (.int .u8 (0 : Int)), (.int .u8 (192 : Int)), (.int .u8 (224 : Int)), (.int .u8 (240 : Int))]) 5 <|
 drew <|
 chk (0 ≤ x3 ∧ x3 < ((5 : Nat) : Int)) <|
 ld (.int .u8) ((at0 b8).add (scaled (Int.toNat x3) 1)) fun (x9 : Int) =>
 chk (0 ≤ (IntKind.wrap .i64 ((6 : Int) * (IntKind.wrap .i64 (x3 - (1 : Int)))))) <|
 newO (.cells #[(.int .u8 (IntKind.wrap .u8 ((BitVec.toNat (BitVec.ofInt (IntKind.bits .u8) x9 ||| BitVec.ofInt (IntKind.bits .u8) (IntKind.wrap .u8 (Int.fdiv a2 (2 ^ (min (Int.toNat (IntKind.wrap .i64 ((6 : Int) * (IntKind.wrap .i64 (x3 - (1 : Int)))))) (IntKind.bits .i64)))))) : Nat) : Int)))] 5) fun b10 =>
 rawT Tryz.prog (.one (.one .sl)) (Builtin.append_ #[22, 22] 22 #[(.slice a1.a a1.len a1.cap), (.slice (some (at0 b10)) 1 1)]) fun (x11 : Sl) =>
 join (S := Sl × Unit) (fun J12 =>
 sloop (S := Sl × Int × Unit) (fun (s14 : Sl × Int × Unit) again15 =>
 sif (decide (s14.2.1 ≥ (0 : Int))) (
 chk (0 ≤ (IntKind.wrap .i64 ((6 : Int) * s14.2.1))) <|
 newO (.cells #[(.int .u8 (IntKind.wrap .u8 ((BitVec.toNat (BitVec.ofInt (IntKind.bits .u8) (128 : Int) ||| BitVec.ofInt (IntKind.bits .u8) (IntKind.wrap .u8 ((BitVec.toNat (BitVec.ofInt (IntKind.bits .u8) (IntKind.wrap .u8 (Int.fdiv a2 (2 ^ (min (Int.toNat (IntKind.wrap .i64 ((6 : Int) * s14.2.1))) (IntKind.bits .i64))))) &&& BitVec.ofInt (IntKind.bits .u8) (63 : Int)) : Nat) : Int))) : Nat) : Int)))] 5) fun b16 =>
 rawT Tryz.prog (.one (.one .sl)) (Builtin.append_ #[22, 22] 22 #[(.slice s14.1.a s14.1.len s14.1.cap), (.slice (some (at0 b16)) 1 1)]) fun (x17 : Sl) =>
 again15 (x17, (IntKind.wrap .i64 (s14.2.1 - (1 : Int))), ())) (
 J12 (s14.1, ()))) (x11, (IntKind.wrap .i64 (x3 - (2 : Int))), ())) fun (s13 : Sl × Unit) =>
 K s13.1))
noncomputable def h187 : Hint := (hS (hR 2) (hS (hR 4) (hS (hS (hR 2) (hC (hS (hR 7) hL) hL)) (hS (hS (hR 2) (hC (hS (hR 6) hL) hL)) (hS (hR 3) (hS (.region [0, 1, 2, 3, 4, 5, 6, 7, 8, 9, 10, 11, 12, 13] (hO 14)) (hJ (288225978105201154, [(1, tS)]) (hS (hR 3) (.block (.loop 288212783965667842 [(1, tS), (9, tI)] (hS (hS (hR 2) (hC hL hL)) (hS (.block (hR 11)) (hR 3)))))) (hS (hR 2) hL))))))))
theorem F187_calls {a0 : (Unit)} {a1 : Sl} {a2 : Int} {K : Sl → World → Prop} {w : World} (h : F187 a0 a1 a2 K w) : callT Tryz.prog 187 #[(.agg (Cells.vals c146 a0).toArray), (.slice a1.a a1.len a1.cap), (.int .i64 a2)] (.one (.one .sl)) K w := tied tabOk Tryz.func187 h187 [(.agg (Cells.vals c146 a0).toArray), (.slice a1.a a1.len a1.cap), (.int .i64 a2)] h
noncomputable def F188 (a0 : (Unit)) (a1 : Int) (K : Int → World → Prop) : World → Prop :=
 newO (.cells #[] 146) fun b1 =>
 join (S := Bool × Unit) (fun J2 =>
 sif (decide (a1 < (-256 : Int))) (
 J2 (true, ())) (
 sif (decide (a1 > (-129 : Int))) (
 sif (decide (a1 < (0 : Int))) (
 J2 (true, ())) (
 sif (decide (a1 > (1114111 : Int))) (
 J2 (true, ())) (
 sif (decide (a1 ≥ (55296 : Int))) (
 J2 ((decide (a1 ≤ (57343 : Int))), ())) (
 J2 (false, ()))))) (
 sif (decide (a1 > (1114111 : Int))) (
 J2 (true, ())) (
 sif (decide (a1 ≥ (55296 : Int))) (
 J2 ((decide (a1 ≤ (57343 : Int))), ())) (
 J2 (false, ())))))) fun (s3 : Bool × Unit) =>
 sif s3.1 (
 K (0 : Int)) (
 sif (decide (a1 < (128 : Int))) (
 K (1 : Int)) (
 sif (decide (a1 < (2048 : Int))) (
 K (2 : Int)) (
 sif (decide (a1 < (65536 : Int))) (
 K (3 : Int)) (
 K (4 : Int)))))
noncomputable def h188 : Hint := (hS (hR 2) (hS (.block (hJ (268435424, [(5, tB)]) (.region [] (.ops 3 (.split 8 (.skips 6 (.ops 2 (.skips 2 (.ops 2 (.skips 6 (hO 2)))))) (.ops 3 (.split 11 (.ops 5 (.split 16 (.skips 2 (.ops 2 (.skips 6 (hO 2)))) (.ops 4 (.split 20 (.skips 6 (hO 2)) (.ops 3 (.split 23 (hO 5) (.skips 2 (hO 3)))))))) (.skips 2 (.ops 7 (.split 20 (.skips 6 (hO 2)) (.ops 3 (.split 23 (hO 5) (.skips 2 (hO 3)))))))))))) (hC (hS (hR 1) hL) (hS (hR 3) (hC (hS (hR 1) hL) (hS (hR 3) (hC (hS (hR 1) hL) (hS (hR 3) (hC (hS (hR 1) hL) hL))))))))) (hS (hR 1) hL)))
theorem F188_calls {a0 : (Unit)} {a1 : Int} {K : Int → World → Prop} {w : World} (h : F188 a0 a1 K w) : callT Tryz.prog 188 #[(.agg (Cells.vals c146 a0).toArray), (.int .i64 a1)] (.one (.one (.int .i64))) K w := tied tabOk Tryz.func188 h188 [(.agg (Cells.vals c146 a0).toArray), (.int .i64 a1)] h
noncomputable def F189 (a0 : Sl) (K : (Int × Int × Unit) → World → Prop) : World → Prop :=
 ix a0.a a0.len (0 : Int) fun p1 =>
 ld (.int .u8) (p1.add (scaled (Int.toNat (0 : Int)) 1)) fun (x2 : Int) =>
 callT Tryz.prog 190 #[(.int .u8 x2)] (.tup [(.one (.int .i64)), (.one (.int .u8)), (.one (.int .u8))]) fun (x3 : (Int × Int × Int × Unit)) =>
 sif (decide (x3.1 < (2 : Int))) (
 K (x3.1, x3.1, ())) (
 join (S := Bool × Unit) (fun J4 =>
 sif (decide (((a0.len : Nat) : Int) < (2 : Int))) (
 J4 (true, ())) (
 ix a0.a a0.len (1 : Int) fun p6 =>
 ld (.int .u8) (p6.add (scaled (Int.toNat (1 : Int)) 1)) fun (x7 : Int) =>
 sif (decide (x7 < x3.2.1)) (
 J4 (true, ())) (
 ix a0.a a0.len (1 : Int) fun p8 =>
 ld (.int .u8) (p8.add (scaled (Int.toNat (1 : Int)) 1)) fun (x9 : Int) =>
 J4 ((decide (x9 > x3.2.2.1)), ())))) fun (s5 : Bool × Unit) =>
 sif s5.1 (
 K ((1 : Int), x3.1, ())) (
 join (S := Int × Unit) (fun J10 =>
 sloop (S := Int × Unit) (fun (s12 : Int × Unit) again13 =>
 join (S := Bool × Unit) (fun J14 =>
 sif (decide (s12.1 < x3.1)) (
 sif (decide (s12.1 < ((a0.len : Nat) : Int))) (
 ix a0.a a0.len s12.1 fun p16 =>
 ld (.int .u8) (p16.add (scaled (Int.toNat s12.1) 1)) fun (x17 : Int) =>
 J14 (((IntKind.wrap .u8 ((BitVec.toNat (BitVec.ofInt (IntKind.bits .u8) x17 &&& BitVec.ofInt (IntKind.bits .u8) (192 : Int)) : Nat) : Int)) == (128 : Int)), ())) (
 J14 (false, ()))) (
 J14 (false, ()))) fun (s15 : Bool × Unit) =>
 sif s15.1 (
 again13 ((IntKind.wrap .i64 (s12.1 + (1 : Int))), ())) (
 J10 (s12.1, ()))) ((2 : Int), ())) fun (s11 : Int × Unit) =>
 K (s11.1, x3.1, ())))
noncomputable def h189 : Hint := (hS (hR 2) (hS (hR 11) (hS (hS (hR 2) (hC (hS (hR 4) hL) hL)) (hS (hJ (137437904896, [(36, tB)]) (.region [] (.ops 4 (.split 23 (.skips 5 (.ops 2 (.skips 5 (hO 1)))) (.ops 7 (.split 30 (.skips 5 (hO 1)) (hO 6)))))) (hC (hS (hR 3) hL) hL)) (hS (hR 1) (hJ (144114913197949056, [(7, tI)]) (.block (.loop 144114913197949056 [(7, tI)] (hS (hJ (36028522141057024, [(54, tB)]) (.region [] (.ops 4 (.split 41 (.ops 6 (.split 47 (hO 7) (.skips 6 (hO 1)))) (.skips 4 (.ops 2 (.skips 6 (hO 1))))))) (hC hL hL)) (.block (hR 3))))) (hS (hR 4) hL)))))))
theorem F189_calls {a0 : Sl} {K : (Int × Int × Unit) → World → Prop} {w : World} (h : F189 a0 K w) : callT Tryz.prog 189 #[(.slice a0.a a0.len a0.cap)] (.tup [(.one (.int .i64)), (.one (.int .i64))]) K w := tied tabOk Tryz.func189 h189 [(.slice a0.a a0.len a0.cap)] h
noncomputable def F190 (a0 : Int) (K : (Int × Int × Int × Unit) → World → Prop) : World → Prop :=
 sif (decide (a0 < (128 : Int))) (
 K ((1 : Int), (0 : Int), (0 : Int), ())) (
 sif (decide (a0 < (194 : Int))) (
 K ((0 : Int), (0 : Int), (0 : Int), ())) (
 sif (decide (a0 < (224 : Int))) (
 K ((2 : Int), (128 : Int), (191 : Int), ())) (
 sif (a0 == (224 : Int)) (
 K ((3 : Int), (160 : Int), (191 : Int), ())) (
 sif (a0 == (237 : Int)) (
 K ((3 : Int), (128 : Int), (159 : Int), ())) (
 sif (decide (a0 < (240 : Int))) (
 K ((3 : Int), (128 : Int), (191 : Int), ())) (
 sif (a0 == (240 : Int)) (
 K ((4 : Int), (144 : Int), (191 : Int), ())) (
 sif (decide (a0 < (244 : Int))) (
 K ((4 : Int), (128 : Int), (191 : Int), ())) (
 sif (a0 == (244 : Int)) (
 K ((4 : Int), (128 : Int), (143 : Int), ())) (
 K ((0 : Int), (0 : Int), (0 : Int), ()))))))))))
noncomputable def h190 : Hint := (hS (hR 3) (hS (.block (hS (hR 3) (hC (hS (hR 3) hL) (hS (hR 3) (hC (hS (hR 3) hL) (hS (hR 3) (hC (hS (hR 3) hL) (hS (hR 3) (hC (hS (hR 3) hL) (hS (hR 3) (hC (hS (hR 3) hL) (hS (hR 3) (hC (hS (hR 3) hL) (hS (hR 3) (hC (hS (hR 3) hL) (hS (hR 3) (hC (hS (hR 3) hL) (hS (hR 3) (hC (hS (hR 3) hL) hL))))))))))))))))))) (hS (hR 3) hL)))
theorem F190_calls {a0 : Int} {K : (Int × Int × Int × Unit) → World → Prop} {w : World} (h : F190 a0 K w) : callT Tryz.prog 190 #[(.int .u8 a0)] (.tup [(.one (.int .i64)), (.one (.int .u8)), (.one (.int .u8))]) K w := tied tabOk Tryz.func190 h190 [(.int .u8 a0)] h
noncomputable def F191 (a0 : (Int × Unit)) (a1 : Sl) (K : (Int × Int × Unit) → World → Prop) : World → Prop :=
 newO (.cells #[(.int .i64 a0.1)] 148) fun b1 =>
 sif (((a1.len : Nat) : Int) == (1 : Int)) (
 ix a1.a a1.len (0 : Int) fun p2 =>
 ld (.int .u8) (p2.add (scaled (Int.toNat (0 : Int)) 1)) fun (x3 : Int) =>
 K ((IntKind.wrap .i64 ((-1 : Int) - (IntKind.wrap .i64 x3))), (1 : Int), ())) (
 lds c148 (at0 b1) fun (x4 : (Int × Unit)) =>
 callT Tryz.prog 196 #[(.agg (Cells.vals c148 x4).toArray), (.slice a1.a a1.len a1.cap)] (.one (.one (.int .i64))) fun (x5 : Int) =>
 join (S := Unit) (fun J6 =>
 join (S := Bool × Unit) (fun J8 =>
 callT Tryz.prog 197 #[(.int .i64 x5)] (.one (.one .bool)) fun (x10 : Bool) =>
 sif x10 (
 J8 ((decide (((a1.len : Nat) : Int) ≥ (4 : Int))), ())) (
 J8 (false, ()))) fun (s9 : Bool × Unit) =>
 sif s9.1 (
 drew <|
 lds c148 (at0 b1) fun (x11 : (Int × Unit)) =>
 slc a1.a (2 : Int) ((a1.len : Nat) : Int) ((a1.cap : Nat) : Int) a1.cap 1 fun x12 =>
 callT Tryz.prog 196 #[(.agg (Cells.vals c148 x11).toArray), (.slice x12.a x12.len x12.cap)] (.one (.one (.int .i64))) fun (x13 : Int) =>
 callT Tryz.prog 198 #[(.int .i64 x13)] (.one (.one .bool)) fun (x14 : Bool) =>
 sif x14 (
 chk (0 ≤ (10 : Int)) <|
 K ((IntKind.wrap .i64 ((IntKind.wrap .i64 ((65536 : Int) + (IntKind.wrap .i64 ((IntKind.wrap .i64 ((BitVec.toNat (BitVec.ofInt (IntKind.bits .i64) x5 &&& BitVec.ofInt (IntKind.bits .i64) (1023 : Int)) : Nat) : Int)) * 2 ^ (min (Int.toNat (10 : Int)) (IntKind.bits .i64)))))) + (IntKind.wrap .i64 ((BitVec.toNat (BitVec.ofInt (IntKind.bits .i64) x13 &&& BitVec.ofInt (IntKind.bits .i64) (1023 : Int)) : Nat) : Int)))), (4 : Int), ())) (
 J6 ())) (
 J6 ())) fun (s7 : Unit) =>
 K (x5, (2 : Int), ()))
noncomputable def h191 : Hint := (hS (hR 3) (hS (hS (hR 3) (hC (hS (hR 7) hL) hL)) (hS (hR 4) (hJ (549755289776, []) (hJ (66584576, [(25, tB)]) (.region [] (.ops 3 (.split 21 (hO 4) (.skips 3 (hO 1))))) (hC (hS (.region [0, 1, 2, 3, 4] (hO 5)) (hS (hR 2) (hC (hS (hR 9) hL) hL))) hL)) (hS (hR 3) hL)))))
theorem F191_calls {a0 : (Int × Unit)} {a1 : Sl} {K : (Int × Int × Unit) → World → Prop} {w : World} (h : F191 a0 a1 K w) : callT Tryz.prog 191 #[(.agg (Cells.vals c148 a0).toArray), (.slice a1.a a1.len a1.cap)] (.tup [(.one (.int .i64)), (.one (.int .i64))]) K w := tied tabOk Tryz.func191 h191 [(.agg (Cells.vals c148 a0).toArray), (.slice a1.a a1.len a1.cap)] h
noncomputable def F194 (a0 : (Int × Unit)) (a1 : Sl) (a2 : Int) (K : Sl → World → Prop) : World → Prop :=
 newO (.cells #[(.int .i64 a0.1)] 148) fun b1 =>
 sif (decide (a2 < (0 : Int))) (
 newO (.cells #[(.int .u8 (IntKind.wrap .u8 (IntKind.wrap .i64 ((-1 : Int) - a2))))] 5) fun b2 =>
 rawT Tryz.prog (.one (.one .sl)) (Builtin.append_ #[22, 22] 22 #[(.slice a1.a a1.len a1.cap), (.slice (some (at0 b2)) 1 1)]) fun (x3 : Sl) =>
 K x3) (
 sif (decide (a2 < (65536 : Int))) (
 lds c148 (at0 b1) fun (x4 : (Int × Unit)) =>
 callT Tryz.prog 199 #[(.agg (Cells.vals c148 x4).toArray), (.slice a1.a a1.len a1.cap), (.int .i64 a2)] (.one (.one .sl)) fun (x5 : Sl) =>
 K x5) (
 drew <|
 lds c148 (at0 b1) fun (x6 : (Int × Unit)) =>
 lds c148 (at0 b1) fun (x7 : (Int × Unit)) =>
 chk (0 ≤ (10 : Int)) <|
 callT Tryz.prog 199 #[(.agg (Cells.vals c148 x7).toArray), (.slice a1.a a1.len a1.cap), (.int .i64 (IntKind.wrap .i64 ((BitVec.toNat (BitVec.ofInt (IntKind.bits .i64) (55296 : Int) ||| BitVec.ofInt (IntKind.bits .i64) (Int.fdiv (IntKind.wrap .i64 (a2 - (65536 : Int))) (2 ^ (min (Int.toNat (10 : Int)) (IntKind.bits .i64))))) : Nat) : Int)))] (.one (.one .sl)) fun (x8 : Sl) =>
 keep (fun w => cellsAt w (at0 b1) 0 (Cells.vals c148 x6)) <|
 callT Tryz.prog 199 #[(.agg (Cells.vals c148 x6).toArray), (.slice x8.a x8.len x8.cap), (.int .i64 (IntKind.wrap .i64 ((BitVec.toNat (BitVec.ofInt (IntKind.bits .i64) (56320 : Int) ||| BitVec.ofInt (IntKind.bits .i64) (IntKind.wrap .i64 ((BitVec.toNat (BitVec.ofInt (IntKind.bits .i64) a2 &&& BitVec.ofInt (IntKind.bits .i64) (1023 : Int)) : Nat) : Int))) : Nat) : Int)))] (.one (.one .sl)) fun (x9 : Sl) =>
 K x9))
noncomputable def h194 : Hint := (hS (hR 2) (hS (.block (hS (hR 3) (hC (hS (hR 7) hL) (hS (hR 3) (hC (hS (hR 5) hL) hL))))) (hS (.region [0, 1, 2, 3, 4, 5, 6, 8, 9, 10, 7, 11, 12] (hO 13)) hL)))
theorem F194_calls {a0 : (Int × Unit)} {a1 : Sl} {a2 : Int} {K : Sl → World → Prop} {w : World} (h : F194 a0 a1 a2 K w) : callT Tryz.prog 194 #[(.agg (Cells.vals c148 a0).toArray), (.slice a1.a a1.len a1.cap), (.int .i64 a2)] (.one (.one .sl)) K w := tied tabOk Tryz.func194 h194 [(.agg (Cells.vals c148 a0).toArray), (.slice a1.a a1.len a1.cap), (.int .i64 a2)] h
noncomputable def F195 (a0 : (Int × Unit)) (a1 : Int) (K : Int → World → Prop) : World → Prop :=
 newO (.cells #[(.int .i64 a0.1)] 148) fun b1 =>
 join (S := Bool × Unit) (fun J2 =>
 sif (decide (a1 < (-256 : Int))) (
 J2 (true, ())) (
 J2 ((decide (a1 > (1114111 : Int))), ()))) fun (s3 : Bool × Unit) =>
 sif s3.1 (
 K (0 : Int)) (
 sif (decide (a1 < (0 : Int))) (
 K (1 : Int)) (
 sif (decide (a1 < (65536 : Int))) (
 K (2 : Int)) (
 K (4 : Int))))
noncomputable def h195 : Hint := (hS (hR 2) (hS (.block (hJ (4064, [(5, tB)]) (.region [] (.ops 3 (.split 8 (.skips 2 (hO 2)) (hO 4)))) (hC (hS (hR 1) hL) (hS (hR 3) (hC (hS (hR 1) hL) (hS (hR 3) (hC (hS (hR 1) hL) hL))))))) (hS (hR 1) hL)))
theorem F195_calls {a0 : (Int × Unit)} {a1 : Int} {K : Int → World → Prop} {w : World} (h : F195 a0 a1 K w) : callT Tryz.prog 195 #[(.agg (Cells.vals c148 a0).toArray), (.int .i64 a1)] (.one (.one (.int .i64))) K w := tied tabOk Tryz.func195 h195 [(.agg (Cells.vals c148 a0).toArray), (.int .i64 a1)] h
noncomputable def F196 (a0 : (Int × Unit)) (a1 : Sl) (K : Int → World → Prop) : World → Prop :=
 newO (.cells #[(.int .i64 a0.1)] 148) fun b1 =>
 drew <|
 ld (.int .i64) (at0 b1) fun (x2 : Int) =>
 ix a1.a a1.len x2 fun p3 =>
 ld (.int .u8) (p3.add (scaled (Int.toNat x2) 1)) fun (x4 : Int) =>
 ld (.int .i64) (at0 b1) fun (x5 : Int) =>
 ix a1.a a1.len (IntKind.wrap .i64 ((1 : Int) - x5)) fun p6 =>
 ld (.int .u8) (p6.add (scaled (Int.toNat (IntKind.wrap .i64 ((1 : Int) - x5))) 1)) fun (x7 : Int) =>
 chk (0 ≤ (8 : Int)) <|
 K (IntKind.wrap .i64 ((BitVec.toNat (BitVec.ofInt (IntKind.bits .i64) (IntKind.wrap .i64 x4) ||| BitVec.ofInt (IntKind.bits .i64) (IntKind.wrap .i64 ((IntKind.wrap .i64 x7) * 2 ^ (min (Int.toNat (8 : Int)) (IntKind.bits .i64))))) : Nat) : Int))
noncomputable def h196 : Hint := (hS (hR 2) (hS (.region [0, 1, 2, 3, 4, 5, 6, 7, 8, 9, 10, 11, 12, 13, 14, 15] (hO 16)) hL))
theorem F196_calls {a0 : (Int × Unit)} {a1 : Sl} {K : Int → World → Prop} {w : World} (h : F196 a0 a1 K w) : callT Tryz.prog 196 #[(.agg (Cells.vals c148 a0).toArray), (.slice a1.a a1.len a1.cap)] (.one (.one (.int .i64))) K w := tied tabOk Tryz.func196 h196 [(.agg (Cells.vals c148 a0).toArray), (.slice a1.a a1.len a1.cap)] h
noncomputable def F197 (a0 : Int) (K : Bool → World → Prop) : World → Prop :=
 K ((IntKind.wrap .i64 ((BitVec.toNat (BitVec.ofInt (IntKind.bits .i64) a0 &&& ~~~(BitVec.ofInt (IntKind.bits .i64) (1023 : Int))) : Nat) : Int)) == (55296 : Int))
noncomputable def h197 : Hint := (hS (hR 1) (hS (hR 4) hL))
theorem F197_calls {a0 : Int} {K : Bool → World → Prop} {w : World} (h : F197 a0 K w) : callT Tryz.prog 197 #[(.int .i64 a0)] (.one (.one .bool)) K w := tied tabOk Tryz.func197 h197 [(.int .i64 a0)] h
noncomputable def F198 (a0 : Int) (K : Bool → World → Prop) : World → Prop :=
 K ((IntKind.wrap .i64 ((BitVec.toNat (BitVec.ofInt (IntKind.bits .i64) a0 &&& ~~~(BitVec.ofInt (IntKind.bits .i64) (1023 : Int))) : Nat) : Int)) == (56320 : Int))
noncomputable def h198 : Hint := (hS (hR 1) (hS (hR 4) hL))
theorem F198_calls {a0 : Int} {K : Bool → World → Prop} {w : World} (h : F198 a0 K w) : callT Tryz.prog 198 #[(.int .i64 a0)] (.one (.one .bool)) K w := tied tabOk Tryz.func198 h198 [(.int .i64 a0)] h
noncomputable def F199 (a0 : (Int × Unit)) (a1 : Sl) (a2 : Int) (K : Sl → World → Prop) : World → Prop :=
 newO (.cells #[(.int .i64 a0.1)] 148) fun b1 =>
 newO (.cells #[(.int .u8 (0 : Int)), (.int .u8 (0 : Int))] 190) fun b2 =>
 drew <|
 ld (.int .i64) (at0 b1) fun (x3 : Int) =>
 ld (.int .i64) (at0 b1) fun (x4 : Int) =>
 chk (0 ≤ (8 : Int)) <|
 chk (0 ≤ x3 ∧ x3 < ((2 : Nat) : Int)) <|
 stC ((at0 b2).add (scaled (Int.toNat x3) 1)) (.int .u8 (IntKind.wrap .u8 a2)) <|
 keep (fun w => w.cell? (at0 b1) = some (Cell.val (.int .i64) x4)) <|
 chk (0 ≤ (IntKind.wrap .i64 ((1 : Int) - x4)) ∧ (IntKind.wrap .i64 ((1 : Int) - x4)) < ((2 : Nat) : Int)) <|
 stC ((at0 b2).add (scaled (Int.toNat (IntKind.wrap .i64 ((1 : Int) - x4))) 1)) (.int .u8 (IntKind.wrap .u8 (Int.fdiv a2 (2 ^ (min (Int.toNat (8 : Int)) (IntKind.bits .i64)))))) <|
 slc (some (at0 b2)) 0 ((2 : Nat) : Int) ((2 : Nat) : Int) 2 1 fun x5 =>
 rawT Tryz.prog (.one (.one .sl)) (Builtin.append_ #[22, 22] 22 #[(.slice a1.a a1.len a1.cap), (.slice x5.a x5.len x5.cap)]) fun (x6 : Sl) =>
 K x6
noncomputable def h199 : Hint := (hS (hR 2) (hS (hR 1) (hS (.region [0, 1, 2, 3, 4, 5, 6, 7, 8, 9, 10, 11, 12, 13] (hO 14)) (hS (hR 4) hL))))
theorem F199_calls {a0 : (Int × Unit)} {a1 : Sl} {a2 : Int} {K : Sl → World → Prop} {w : World} (h : F199 a0 a1 a2 K w) : callT Tryz.prog 199 #[(.agg (Cells.vals c148 a0).toArray), (.slice a1.a a1.len a1.cap), (.int .i64 a2)] (.one (.one .sl)) K w := tied tabOk Tryz.func199 h199 [(.agg (Cells.vals c148 a0).toArray), (.slice a1.a a1.len a1.cap), (.int .i64 a2)] h
noncomputable def F200 (a0 : (Unit)) (a1 : Sl) (K : (Int × Int × Unit) → World → Prop) : World → Prop :=
 newO (.cells #[] 149) fun b1 =>
 ix a1.a a1.len (0 : Int) fun p2 =>
 ld (.int .u8) (p2.add (scaled (Int.toNat (0 : Int)) 1)) fun (x3 : Int) =>
 K ((IntKind.wrap .i64 x3), (1 : Int), ())
noncomputable def h200 : Hint := (hS (hR 3) (hS (hR 6) hL))
theorem F200_calls {a0 : (Unit)} {a1 : Sl} {K : (Int × Int × Unit) → World → Prop} {w : World} (h : F200 a0 a1 K w) : callT Tryz.prog 200 #[(.agg (Cells.vals c149 a0).toArray), (.slice a1.a a1.len a1.cap)] (.tup [(.one (.int .i64)), (.one (.int .i64))]) K w := tied tabOk Tryz.func200 h200 [(.agg (Cells.vals c149 a0).toArray), (.slice a1.a a1.len a1.cap)] h
noncomputable def F203 (a0 : (Unit)) (a1 : Sl) (a2 : Int) (K : Sl → World → Prop) : World → Prop :=
 newO (.cells #[] 149) fun b1 =>
 newO (.cells #[(.int .u8 (IntKind.wrap .u8 a2))] 5) fun b2 =>
 rawT Tryz.prog (.one (.one .sl)) (Builtin.append_ #[22, 22] 22 #[(.slice a1.a a1.len a1.cap), (.slice (some (at0 b2)) 1 1)]) fun (x3 : Sl) =>
 K x3
noncomputable def h203 : Hint := (hS (hR 2) (hS (hR 6) hL))
theorem F203_calls {a0 : (Unit)} {a1 : Sl} {a2 : Int} {K : Sl → World → Prop} {w : World} (h : F203 a0 a1 a2 K w) : callT Tryz.prog 203 #[(.agg (Cells.vals c149 a0).toArray), (.slice a1.a a1.len a1.cap), (.int .i64 a2)] (.one (.one .sl)) K w := tied tabOk Tryz.func203 h203 [(.agg (Cells.vals c149 a0).toArray), (.slice a1.a a1.len a1.cap), (.int .i64 a2)] h
noncomputable def F204 (a0 : (Unit)) (a1 : Int) (K : Int → World → Prop) : World → Prop :=
 newO (.cells #[] 149) fun b1 =>
 join (S := Bool × Unit) (fun J2 =>
 sif (decide (a1 < (0 : Int))) (
 J2 (true, ())) (
 J2 ((decide (a1 > (255 : Int))), ()))) fun (s3 : Bool × Unit) =>
 sif s3.1 (
 K (0 : Int)) (
 K (1 : Int))
noncomputable def h204 : Hint := (hS (hR 2) (hS (hJ (2016, [(10, tB)]) (.region [] (.ops 3 (.split 7 (.skips 2 (hO 1)) (hO 3)))) (hC (hS (hR 1) hL) hL)) (hS (hR 1) hL)))
theorem F204_calls {a0 : (Unit)} {a1 : Int} {K : Int → World → Prop} {w : World} (h : F204 a0 a1 K w) : callT Tryz.prog 204 #[(.agg (Cells.vals c149 a0).toArray), (.int .i64 a1)] (.one (.one (.int .i64))) K w := tied tabOk Tryz.func204 h204 [(.agg (Cells.vals c149 a0).toArray), (.int .i64 a1)] h
end Go.Proofs.YtolhlldgnfbemaaGreat
