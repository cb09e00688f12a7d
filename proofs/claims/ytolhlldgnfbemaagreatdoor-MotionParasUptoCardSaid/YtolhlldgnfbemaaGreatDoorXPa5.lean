/- YtolhlldgnfbemaaGreatDoorXPa5: parts of the proof, put together by program. -/
import Derived.Test.YtolhlldgnfbemaaGreatDoorXPa4
set_option linter.unusedVariables false
set_option linter.unusedSimpArgs false
set_option linter.unusedSectionVars false
noncomputable section
set_option maxRecDepth 100000
namespace Go.Proofs.YtolhlldgnfbemaaGreatDoor
open Go Go.Vx Cdc Trx
section
variable {w w' : World} {S : Nat -> Prop}
structure Ko (w : World) (N : Nat) (r z : Sl) (l m : List Int) : Prop where
 one : Ap w N r 3 1 (iv l)
 two : Ap w N z 3 1 (iv m)
 apart : ∀ k, r.blk k -> ¬ z.blk k
theorem Ko.nil (w : World) (N : Nat) : Ko w N ⟨none, 0, 0⟩ ⟨none, 0, 0⟩ [] [] := ⟨Ap.nil _ _ _ _, Ap.nil _ _ _ _, λ k ⟨_, hp, _⟩ => by cases hp⟩
theorem Ko.ext {N : Nat} {r z : Sl} {l m : List Int} (h : Ko w N r z l m) (e : Ext w w') : Ko w' N r z l m := ⟨h.one.ext e, h.two.ext e, h.apart⟩
theorem Ko.box {N b : Nat} {r z : Sl} {l m : List Int} {c : Array Value} {fr : Nat × Nat} {t : TypeId} (h : Ko w N r z l m) (hb : w.heap[b]? = some (.cells c t fr)) (ht : 3 ≠ t) (u : Upd (λ k => k = b) w w') : Ko w' N r z l m := ⟨h.one.box hb ht u, h.two.box hb ht u, h.apart⟩
theorem Ko.swap {N : Nat} {r z : Sl} {l m : List Int} (h : Ko w N r z l m) : Ko w N z r m l := ⟨h.two, h.one, λ k hz hr => h.apart k hr hz⟩
theorem Bh2 {N : Nat} {r z : Sl} {l m : List Int} {v : Int} {b : Nat} {K : Sl -> Wp} (h : Ko w N r z l m) (hb : w.heap[b]? = some (.cells #[.int .i64 v] 3 (0, 0))) (hl : l.length < 2 ^ 40) (hN : N <= w.heap.size)
  (hK : ∀ r' w', Ko w' N r' z (l ++ [v]) m -> (∀ k, r.blk k -> N <= k) -> Upd r.blk w w' -> K r' w') :
  Dz Tryz.prog (.one (.one .sl)) (Builtin.append_ #[43, 43] 43 #[.slice r.a r.len r.cap, .slice (some (at0 b)) 1 1]) K w := by
 have hrl := h.one.len1
 rw [List.length_map] at hrl
 refine Ej Xa Xa.ts_ (x := ⟨some (at0 b), 1, 1⟩) h.one (Am6 hb) (λ v hv => by rw [List.mem_singleton.1 hv]; rfl) (by
  show (r.len + 1 + (r.len + 1) / 4 + 512) * 8 <= 2 ^ 48
  omega) hN λ r' w' o l' u k => hK r' w' ⟨?_, h.two.upd u λ k hk hz hr => h.apart k hr hz, λ x hx hz => ?_⟩ (λ k hk => h.one.Ew hk) u
 ·have : iv (l ++ [v]) = iv l ++ [.int .i64 v] := by simp
  rw [this]; exact o
 ·rcases k x hx with y | y
  ·exact h.apart x y hz
  ·have := h.two.in.Me hz; omega
abbrev r5O (e : Enc) (sa st : Sl) : Obj := .cells #[.int .i64 e.num, .int .i64 65536, .slice sa.a sa.len sa.cap, .slice st.a st.len st.cap, .slice none 0 0] 46 (0, 0)
structure Oo (w : World) (r : Nat) (e : Enc) (B : List Int) (F : Nat -> Prop) : Prop where
 ex : ∃ (sa st : Sl) (T : List Int), w.heap[r]? = some (r5O e sa st) /\ Bh w sa 3 1 (iv B) /\ Bh w st 3 1 (iv T) /\ T.length = B.length /\ (∀ k, sa.blk k -> F k) /\ (∀ k, st.blk k -> F k)
 root : F r
 fit : ∀ a ∈ B, sz e a ≠ 0
 own : ∀ k, F k -> k < w.heap.size
 len : B.length <= 1048576
theorem Oo.upd {r : Nat} {e : Enc} {B : List Int} {F : Nat -> Prop} (h : Oo w r e B F) (u : Upd S w w') (hS : ∀ k, F k -> ¬ S k) : Oo w' r e B F := by
 obtain ⟨sa, st, T, h1, h2, h3, h4, h5, h6⟩ := h.ex
 exact ⟨⟨sa, st, T, u.get h1 (hS r h.root), h2.upd u λ k hk => hS k (h5 k hk), h3.upd u λ k hk => hS k (h6 k hk), h4, h5, h6⟩, h.root, h.fit, λ k hk => Nat.lt_of_lt_of_le (h.own k hk) u.size, h.len⟩
theorem Oo.ext {r : Nat} {e : Enc} {B : List Int} {F : Nat -> Prop} (h : Oo w r e B F) (x : Ext w w') : Oo w' r e B F := h.upd x λ _ _ => id
theorem Oo.Qm {r : Nat} {e : Enc} {B : List Int} {F : Nat -> Prop} (h : Oo w r e B F) {K : Addr -> Sl -> Wp} (hK : ∀ s, Bh w s 3 1 (iv B) -> K (at0 r) s w) : nn (some (at0 r)) (λ p => ld .sl (p.add 2) (K p)) w := by
 obtain ⟨sa, st, T, h1, h2, h3, h4, h5, h6⟩ := h.ex
 exact Aj (Cc (off := 2) (x := sa) h1 rfl (hK sa h2))
theorem Oo.Cq2 {r : Nat} {e : Enc} {B : List Int} {F : Nat -> Prop} (h : Oo w r e B F) {K : Addr -> Sl -> Wp} (hK : ∀ s T, Bh w s 3 1 (iv T) -> T.length = B.length -> K (at0 r) s w) : nn (some (at0 r)) (λ p => ld .sl (p.add 3) (K p)) w := by
 obtain ⟨sa, st, T, h1, h2, h3, h4, h5, h6⟩ := h.ex
 exact Aj (Cc (off := 3) (x := st) h1 rfl (hK st T h3 h4))
theorem Oo.Ch0 {r : Nat} {e : Enc} {B : List Int} {F : Nat -> Prop} (h : Oo w r e B F) {K : Addr -> Int -> Wp} (hK : K (at0 r) e.num w) : nn (some (at0 r)) (λ p => ld (.int .i64) p (K p)) w := by
 obtain ⟨sa, st, T, h1, h2, h3, h4, h5, h6⟩ := h.ex
 exact Aj (Cc (off := 0) (x := e.num) h1 rfl hK)
theorem Oo.Cn7 {r : Nat} {e : Enc} {B : List Int} {F : Nat -> Prop} (h : Oo w r e B F) {K : Addr -> Int -> Wp} (hK : (∀ w', Ext w w' -> w'.cell? ((at0 r).add 1) = some (Cell.val (.int .i64) 65536)) -> K (at0 r) 65536 w) : nn (some (at0 r)) (λ p => ld (.int .i64) (p.add 1) (K p)) w := by
 obtain ⟨sa, st, T, h1, h2, h3, h4, h5, h6⟩ := h.ex
 exact Aj (Cc (off := 1) (x := 65536) h1 rfl (hK λ w' x => cell_of (off := 1) (x.ext_get h1) rfl))
theorem Cg8 (e : Enc) : 1 <= e.num /\ e.num <= 4 := by cases e <;> decide
set_option maxHeartbeats 1000000 in
theorem Ba1 {e : Enc} {s : Sl} {l : Bs} (hs : SlX w s 1 (bv l)) (hl : l.length <= 65536) {K : Option Addr × Int × Unit -> Wp} (hK : ∀ r w' F, Oo w' r e (atoms (ats e l)) F -> (∀ k, F k -> w.heap.size <= k) -> Ext w w' -> K (some (at0 r), 0, ()) w') :
  Aa Tryz.prog 12 #[.int .i64 e.num, s.v, .int .i64 65536] (.tup [(.one .ptr), (.one (.int .i64))]) K w := by
 refine A12 ?_
 unfold F12
 have hen := Cg8 e
 have hsl := hs.len1
 rw [List.length_map] at hsl
 refine Ad (λ x W => x = (false, ()) /\ w = W) (Ac (λ hc => by simp only [decide_eq_true_eq] at hc; omega) (λ _ => ⟨Az ?_, rfl⟩)) ?_
 ·simp only [decide_eq_true_eq, gt_iff_lt, Bool.false_eq_true, iff_false]; omega
 rintro _ _ ⟨rfl, rfl⟩
 refine Am (Ad (λ x W => x = (false, ()) /\ w = W) (Am ⟨rfl, rfl⟩) ?_)
 rintro _ _ ⟨rfl, rfl⟩
 refine Am (Ac (λ hc => by simp only [decide_eq_true_eq, gt_iff_lt] at hc; omega) (λ _ => ?_))
 refine (St.start w).Y8 λ b5 w1 S1 e1 hb5 => ?_
 have S1 : St (λ _ => False) w w1 [(b5, r5O e ⟨none, 0, 0⟩ ⟨none, 0, 0⟩)] := S1
 have hsz1 : b5 < w1.heap.size := lt_of_heap (S1.at_ 0 rfl)
 have hb := S1.ge 0 rfl
 refine Ad (λ _ W => ∃ sa st T, St (λ _ => False) w W [(b5, r5O e sa st)] /\ Ko W w1.heap.size sa st (atoms (ats e l)) T /\ T.length = (atoms (ats e l)).length) ?_ ?_
 ·refine Ar (λ x W => ∃ (n : Nat) (sa st : Sl) (L T : List Int), x = ((n : Int), ()) /\ n <= l.length /\ St (λ _ => False) w W [(b5, r5O e sa st)] /\ Ko W w1.heap.size sa st L T /\ T.length = L.length /\ L ++ atoms (ats e (l.drop n)) = atoms (ats e l) /\ L.length <= n /\ w1.heap.size <= W.heap.size) (λ x _ => ((l.length : Int) - x.1).toNat) ⟨0, ⟨none, 0, 0⟩, ⟨none, 0, 0⟩, [], [], rfl, Nat.zero_le _, S1, Ko.nil _ _, rfl, by simp, Nat.zero_le _, Nat.le_refl _⟩ ?_
  rintro _ W ⟨n, sa, st, L, T, rfl, hn, SW, tw, hT, hL, hLn, hWs⟩
  dsimp only
  refine Ac (λ hc => ?_) (λ hc => ?_)
  ·simp only [decide_eq_true_eq] at hc
   obtain ⟨ty, hin⟩ := hs.Ah2 (by omega)
   have hne : l.drop n ≠ [] := by
    intro h
    have := congrArg List.length h
    rw [List.length_drop] at this
    simp at this; omega
   have hns := Rz e hne
   rw [List.length_drop] at hns
   refine Ba2 (hin.ext SW.upd) (by omega) (by omega) λ w2 e2 => ?_
   have S2 := SW.ext e2
   rw [Jy e hne] at hL
   obtain ⟨a, ha⟩ : ∃ a, (nx e (l.drop n)).1 = a := ⟨_, rfl⟩
   obtain ⟨m, hm⟩ : ∃ m, (nx e (l.drop n)).2 = m := ⟨_, rfl⟩
   have hL : (L ++ [a]) ++ atoms (ats e (l.drop (n + m))) = atoms (ats e l) := by
    rw [← hL, List.append_assoc]
    show L ++ ([a] ++ _) = L ++ ((nx e (l.drop n)).1 :: atoms (ats e ((l.drop n).drop (nx e (l.drop n)).2)))
    rw [ha, hm, List.drop_drop]; rfl
   rw [hm] at hns
   rw [ha, hm]
   refine Ac (λ hc2 => by simp only [decide_eq_true_eq] at hc2; omega) (λ _ => ?_)
   refine Aj (S2.ld (off := 2) 0 rfl (x := sa) rfl (S2.Af λ b13 w3 S3 e3 => ?_))
   have tw3 := (tw.ext e2).ext e3
   refine Bh2 tw3 (S3.at_ 0 rfl) (by omega) (by have := e2.size; have := e3.size; omega) λ sa' w4 t4 g4 u4 => ?_
   have S4 : St (λ _ => False) w w4 [(b5, r5O e sa st)] := S3.tail.fresh u4 (λ k hk => .inr (by have := g4 k hk; omega)) (λ z hz hk => by
    rw [List.mem_singleton.1 hz] at hk
    have := g4 _ hk
    dsimp only at this; omega)
   refine Aj (S4.stC (off := 2) 0 rfl (by show 2 < 5; decide) λ w5 S5 u5 => ?_)
   have S5 : St (λ _ => False) w w5 [(b5, r5O e sa' st)] := S5
   have t5 := t4.box (S4.at_ 0 rfl) (by decide) u5
   refine Aj (S5.ld (off := 3) 0 rfl (x := st) rfl (S5.Af λ b18 w6 S6 e6 => ?_))
   have s36 : w1.heap.size <= w6.heap.size := by have := e2.size; have := e3.size; have := u4.size; have := u5.size; have := e6.size; omega
   refine Bh2 (t5.ext e6).swap (S6.at_ 0 rfl) (by omega) s36 λ st' w7 t7 g7 u7 => ?_
   have S7 : St (λ _ => False) w w7 [(b5, r5O e sa' st)] := S6.tail.fresh u7 (λ k hk => .inr (by have := g7 k hk; omega)) (λ z hz hk => by
    rw [List.mem_singleton.1 hz] at hk
    have := g7 _ hk
    dsimp only at this; omega)
   refine Aj (S7.stC (off := 3) 0 rfl (by show 3 < 5; decide) λ w8 S8 u8 => ?_)
   have S8 : St (λ _ => False) w w8 [(b5, r5O e sa' st')] := S8
   have t8 := t7.swap.box (S7.at_ 0 rfl) (by decide) u8
   have ew : W64 ((n : Int) + (m : Int)) = ((n + m : Nat) : Int) := by rw [wrap64 (by omega) (by omega)]; omega
   rw [ew]
   exact ⟨⟨n + m, sa', st', L ++ [a], T ++ [(n : Int)], rfl, by omega, S8, t8, by rw [List.length_append, List.length_append, hT]; rfl, hL, by rw [List.length_append]; show L.length + 1 <= n + m; omega, by have := u7.size; have := u8.size; omega⟩, by omega⟩
  ·simp only [decide_eq_false_iff_not] at hc
   obtain rfl : n = l.length := by omega
   rw [List.drop_length, Ir] at hL
   have hL : L = atoms (ats e l) := by rw [← hL]; simp
   subst hL
   exact ⟨sa, st, T, SW, tw, hT⟩
 rintro _ W ⟨sa, st, T, SW, tw, hT⟩
 have hlen : (atoms (ats e l)).length <= 1048576 := by
  rw [List.length_map]
  have := Ro (Fa e l)
  have h2 : szs (ats e l) = l.length := He e l
  omega
 have hfit : ∀ a ∈ atoms (ats e l), sz e a ≠ 0 := λ a ha => by
  obtain ⟨x, hx, rfl⟩ := List.mem_map.1 ha
  have h1 := Bf5 e _ l (Nat.le_refl _) x hx
  have h2 := Bk7 e _ l (Nat.le_refl _) x hx
  omega
 refine hK b5 W (λ k => w.heap.size <= k /\ k < W.heap.size) ⟨⟨sa, st, T, SW.at_ 0 rfl, tw.one.in, tw.two.in, hT, λ k hk => ⟨?_, tw.one.in.Me hk⟩, λ k hk => ⟨?_, tw.two.in.Me hk⟩⟩, ⟨hb, lt_of_heap (SW.at_ 0 rfl)⟩, hfit, λ k hk => hk.2, hlen⟩ (λ k hk => hk.1) SW.upd
 ·have := tw.one.Ew hk; have := e1.size; omega
 ·have := tw.two.Ew hk; have := e1.size; omega
end
end Go.Proofs.YtolhlldgnfbemaaGreatDoor
namespace Go.Proofs.YtolhlldgnfbemaaGreatDoor
open Cdc
namespace Gly
structure Row where
 lo : Nat
 hi : Nat
 v : Nat
def digit (c : UInt8) : Nat := if 57 < c.toNat then c.toNat - 55 else c.toNat - 48
def num (l : Bs) : Nat := l.foldl (λ n c => n * 16 + digit c) 0
def okC (c : UInt8) : Bool := (Nat.ble 48 c.toNat && Nat.ble c.toNat 57) || (Nat.ble 65 c.toNat && Nat.ble c.toNat 70)
def Ou : Nat -> Bs -> List Row
 | 0, _ => []
 | n + 1, l => ⟨num (l.take 5), num ((l.drop 5).take 5), num ((l.drop 10).take 1)⟩ :: Ou n (l.drop 11)
def Jc : List Row -> Nat -> Nat
 | [], _ => 0
 | r :: t, a => bif Nat.ble r.lo a && Nat.ble a r.hi then r.v else Jc t a
def srt : Nat -> List Row -> Bool
 | _, [] => true
 | m, r :: t => Nat.ble m r.lo && (Nat.ble r.lo r.hi && srt (r.hi + 1) t)
theorem Bh7 (c : UInt8) : okC c = true ↔ (48 <= c.toNat /\ c.toNat <= 57) \/ (65 <= c.toNat /\ c.toNat <= 70) := by
 simp [okC, Nat.ble_eq]
theorem Af3 : ∀ (n : Nat) (l : Bs), (Ou n l).length = n
 | 0, _ => rfl
 | n + 1, l => by rw [Ou, List.length_cons, Af3]
theorem Af4 : ∀ (n : Nat) (l : Bs) (m : Nat), m < n -> (Ou n l)[m]? = some ⟨num ((l.drop (11 * m)).take 5), num ((l.drop (11 * m + 5)).take 5), num ((l.drop (11 * m + 10)).take 1)⟩
 | n + 1, l, 0, _ => by simp [Ou]
 | n + 1, l, m + 1, h => by
  rw [Ou, List.getElem?_cons_succ, Af4 n _ m (by omega)]
  simp only [List.drop_drop]
  rw [show 11 + 11 * m = 11 * (m + 1) by omega, show 11 + (11 * m + 5) = 11 * (m + 1) + 5 by omega, show 11 + (11 * m + 10) = 11 * (m + 1) + 10 by omega]
theorem O7 : ∀ {T : List Row} {m : Nat}, srt m T = true -> ∀ {i : Nat} {r : Row}, T[i]? = some r -> m <= r.lo /\ r.lo <= r.hi
 | [], _, _, i, r, hr => by simp at hr
 | x :: t, m, h, 0, r, hr => by
  cases hr
  simp only [srt, Bool.and_eq_true, Nat.ble_eq] at h
  exact ⟨h.1, h.2.1⟩
 | x :: t, m, h, i + 1, r, hr => by
  simp only [srt, Bool.and_eq_true, Nat.ble_eq] at h
  have := O7 h.2.2 (i := i) (by simpa using hr)
  exact ⟨by omega, this.2⟩
theorem Aj7 : ∀ {T : List Row} {m : Nat}, srt m T = true -> ∀ {i j : Nat} {r s : Row}, i < j -> T[i]? = some r -> T[j]? = some s -> r.hi < s.lo
 | [], _, _, i, j, r, s, _, hr, _ => by simp at hr
 | x :: t, m, h, 0, j + 1, r, s, _, hr, hs => by
  cases hr
  simp only [srt, Bool.and_eq_true, Nat.ble_eq] at h
  have := O7 h.2.2 (i := j) (by simpa using hs)
  omega
 | x :: t, m, h, i + 1, j + 1, r, s, hij, hr, hs => by
  simp only [srt, Bool.and_eq_true, Nat.ble_eq] at h
  exact Aj7 h.2.2 (i := i) (j := j) (by omega) (by simpa using hr) (by simpa using hs)
theorem Ah1 : ∀ {T : List Row} {a : Nat}, (∀ (i : Nat) (r : Row), T[i]? = some r -> a < r.lo \/ r.hi < a) -> Jc T a = 0
 | [], _, _ => rfl
 | x :: t, a, h => by
  have h0 := h 0 x rfl
  have : (Nat.ble x.lo a && Nat.ble a x.hi) = false := by
   rw [Bool.eq_false_iff]
   simp only [ne_eq, Bool.and_eq_true, Nat.ble_eq]
   omega
  rw [Jc, this]
  exact Ah1 λ i r hr => h (i + 1) r (by simpa using hr)
theorem Bi5 : ∀ {T : List Row} {m a : Nat}, srt m T = true -> ∀ {i : Nat} {r : Row}, T[i]? = some r -> r.lo <= a -> a <= r.hi -> Jc T a = r.v
 | [], _, _, _, i, r, hr, _, _ => by simp at hr
 | x :: t, m, a, h, 0, r, hr, h1, h2 => by
  cases hr
  have : (Nat.ble x.lo a && Nat.ble a x.hi) = true := by simp only [Bool.and_eq_true, Nat.ble_eq]; omega
  rw [Jc, this]; rfl
 | x :: t, m, a, h, i + 1, r, hr, h1, h2 => by
  have hlt := Aj7 h (i := 0) (j := i + 1) (by omega) rfl hr
  have : (Nat.ble x.lo a && Nat.ble a x.hi) = false := by
   rw [Bool.eq_false_iff]
   simp only [ne_eq, Bool.and_eq_true, Nat.ble_eq]
   omega
  rw [Jc, this]
  simp only [srt, Bool.and_eq_true, Nat.ble_eq] at h
  exact Bi5 h.2.2 (i := i) (by simpa using hr) h1 h2
theorem Cn4 : ∀ (l : Bs), l.all okC = true -> num l < 16 ^ l.length := by
 have key : ∀ (l : Bs) (n k : Nat), l.all okC = true -> n < 16 ^ k -> l.foldl (λ n c => n * 16 + digit c) n < 16 ^ (k + l.length) := by
  intro l
  induction l with
  | nil => intro n k _ h; simpa using h
  | cons c r ih =>
   intro n k h hn
   simp only [List.all_cons, Bool.and_eq_true] at h
   have hc := (Bh7 c).1 h.1
   have hd : digit c < 16 := by unfold digit; split <;> omega
   rw [List.foldl_cons, List.length_cons, show k + (r.length + 1) = (k + 1) + r.length by omega]
   refine ih _ _ h.2 ?_
   rw [Nat.pow_succ]; omega
 intro l h
 have := key l 0 0 h (by simp)
 simpa [num] using this
def Co5 : List Row := Ou 324 Px.data.toList
def Ci0 : List Row := Ou 26 Py.data.toList
def Bl0 : List Row := Ou 81 Pv.data.toList
instance (a : Int) : Decidable (Scalar a) := by unfold Scalar; infer_instance
def cls (a : Int) : Nat :=
 if Scalar a then (if 44032 <= a /\ a < 55204 then (if (a.toNat - 44032) % 28 = 0 then 12 else 13) else Jc Co5 a.toNat) else 3
def cnj (a : Int) : Nat :=
 if a = 2381 \/ a = 2509 \/ a = 2765 \/ a = 2893 \/ a = 3149 \/ a = 3405 then 3 else if a = 8204 then 0 else if cls a = 4 \/ cls a = 5 then 2 else if cls a = 0 /\ Scalar a then Jc Ci0 a.toNat else 0
def wrd (a : Int) : Nat :=
 if Scalar a then (if Jc Bl0 a.toNat = 2 then 2 else if Jc Bl0 a.toNat = 1 then 0 else 1) else 1
end Gly
end Go.Proofs.YtolhlldgnfbemaaGreatDoor
namespace Go.Proofs.YtolhlldgnfbemaaGreatDoor
open Gly
namespace Clu
structure Sc where
 last : Nat
 flags : Nat
 pict : Nat
 conj : Nat
def Sc.zero : Sc := ⟨0, 0, 0, 0⟩
def Sc.note (s : Sc) (c p : Nat) : Sc :=
 ⟨c, if c = 6 then s.flags + 1 else 0, if c = 14 then 1 else if s.pict = 1 /\ c = 5 then 2 else if s.pict = 1 /\ c = 4 then s.pict else 0,
  if p = 1 then 1 else if 0 < s.conj /\ p = 3 then 2 else if 0 < s.conj /\ p = 2 then s.conj else 0⟩
def apart (c : Nat) : Bool := decide (c = 1 \/ c = 2 \/ c = 3)
def Jj (l r : Nat) : Bool :=
 decide ((l = 9 /\ (r = 9 \/ r = 10 \/ r = 12 \/ r = 13)) \/ ((l = 12 \/ l = 10) /\ (r = 10 \/ r = 11)) \/ ((l = 13 \/ l = 11) /\ r = 11))
def joins (s : Sc) (c p : Nat) : Bool :=
 if s.last = 1 /\ c = 2 then true else if apart s.last = true \/ apart c = true then false else if c = 4 \/ c = 5 \/ c = 8 \/ s.last = 7 then true else if Jj s.last c then true
 else if p = 1 /\ s.conj = 2 then true else if c = 14 then s.pict == 2 else if c = 6 then s.flags % 2 == 1 else false
def stp (s : Sc) (a : Int) : Sc := if joins s (cls a) (cnj a) then s.note (cls a) (cnj a) else Sc.zero.note (cls a) (cnj a)
def sc (l : List Int) : Sc := l.foldl stp Sc.zero
theorem U7 (a : Int) : stp Sc.zero a = Sc.zero.note (cls a) (cnj a) := by unfold stp; split <;> rfl
theorem Bg3 {s : Sc} {a : Int} (h : joins s (cls a) (cnj a) = false) : stp s a = stp Sc.zero a := by rw [U7]; unfold stp; rw [if_neg (by rw [h]; decide)]
theorem Ae7 {s : Sc} {a : Int} (h : joins s (cls a) (cnj a) = true) : stp s a = s.note (cls a) (cnj a) := by unfold stp; rw [if_pos h]
theorem Xr (l : List Int) (a : Int) : sc (l ++ [a]) = stp (sc l) a := by simp [sc]
theorem Bp6 (s : Sc) (a : Int) : (stp s a).flags <= s.flags + 1 := by
 unfold stp
 split <;> (simp only [Sc.note, Sc.zero]; split <;> omega)
theorem Bx8 (l : List Int) : (sc l).flags <= l.length := by
 have key : ∀ (l : List Int) (s : Sc), (l.foldl stp s).flags <= s.flags + l.length := by
  intro l
  induction l with
  | nil => intro s; simp
  | cons a r ih => intro s; have := ih (stp s a); have := Bp6 s a; simp only [List.foldl_cons, List.length_cons]; omega
 have := key l Sc.zero
 simpa [sc, Sc.zero] using this
theorem At5 (s : Sc) (a : Int) : (stp s a).last = cls a := by unfold stp; split <;> rfl
def bk (A : List Int) (k : Nat) : Bool := match A[k]? with
 | some a => k == 0 || !joins (sc (A.take k)) (cls a) (cnj a)
 | none => k == A.length
theorem Yy (A : List Int) : bk A 0 = true := by
 unfold bk
 cases A <;> simp
theorem Ao2 (A : List Int) : bk A A.length = true := by
 unfold bk
 rw [List.getElem?_eq_none (Nat.le_refl _)]
 simp
theorem Bk4 {A : List Int} {k : Nat} {a : Int} (h : A[k]? = some a) (h0 : 0 < k) : bk A k = !joins (sc (A.take k)) (cls a) (cnj a) := by
 unfold bk
 rw [h]
 have : (k == 0) = false := by rw [beq_eq_false_iff_ne]; omega
 simp [this]
theorem Ai5 {A : List Int} {k : Nat} (h : bk A k = true) : k <= A.length := by
 unfold bk at h
 split at h
 ·rename_i a ha
  have := (List.getElem?_eq_some_iff.1 ha).1
  omega
 ·simp only [beq_iff_eq] at h; omega
theorem Cq4 {A : List Int} {i : Nat} {a : Int} (hb : bk A i = true) (ha : A[i]? = some a) : sc (A.take (i + 1)) = sc [a] := by
 rw [List.take_add_one, ha]
 show sc (A.take i ++ [a]) = _
 rw [Xr]
 show _ = stp Sc.zero a
 cases i with
 | zero => rfl
 | succ i =>
  rw [Bk4 ha (by omega)] at hb
  exact Bg3 (by simpa using hb)
def Jw (A : List Int) (k : Nat) : List Nat := (List.range (k + 1)).filter (bk A)
def cuts (A : List Int) : List Nat := Jw A A.length
theorem Av0 (A : List Int) : Jw A 0 = [0] := by
 unfold Jw
 have : List.range (0 + 1) = [0] := rfl
 rw [this, List.filter_cons_of_pos (Yy A)]; rfl
theorem Av1 {A : List Int} {i j : Nat} (hij : i < j) (hb : bk A j = true) (hn : ∀ k, i < k -> k < j -> bk A k = false) : Jw A j = Jw A i ++ [j] := by
 unfold Jw
 have key : ∀ d, i + d < j -> (List.range (i + d + 1)).filter (bk A) = (List.range (i + 1)).filter (bk A) := by
  intro d
  induction d with
  | zero => intro _; rfl
  | succ d ih =>
   intro h
   rw [show i + (d + 1) + 1 = (i + d + 1) + 1 by omega, List.range_succ, List.filter_append, ih (by omega), List.filter_cons_of_neg (by rw [hn _ (by omega) (by omega)]; decide)]
   simp
 rw [List.range_succ, List.filter_append, List.filter_cons_of_pos hb]
 obtain ⟨d, rfl⟩ : ∃ d, j = i + d + 1 := ⟨j - i - 1, by omega⟩
 rw [key d (by omega)]; rfl
theorem Z9 {A : List Int} {k : Nat} : k ∈ cuts A ↔ bk A k = true := by
 unfold cuts Jw
 rw [List.mem_filter, List.mem_range]
 exact ⟨λ h => h.2, λ h => ⟨by have := Ai5 h; omega, h⟩⟩
theorem Ch8 {A : List Int} : (cuts A).Pairwise (· < ·) := (List.pairwise_lt_range).filter _
theorem Ab4 (A : List Int) (k : Nat) : (Jw A k).length <= k + 1 := by
 unfold Jw
 have := List.length_filter_le (bk A) (List.range (k + 1))
 rwa [List.length_range] at this
end Clu
end Go.Proofs.YtolhlldgnfbemaaGreatDoor
namespace Go.Proofs.YtolhlldgnfbemaaGreatDoor
open Go Go.Vx
def F131 (a0 : Sl) (K : Sl -> Wp) : Wp := Af (.cells #[(vI 0)] 3) λ b1 => Af (.cells #[(.slice none 0 0)] 43) λ b2 => stC (at0 b2) (.slice (some (at0 b1)) 1 1) <| Aa Tryz.prog 177 #[a0.v, (vI 0), (.func (Fn.func 178) #[] #[(.pointer (some (at0 b2)))])] (.tup []) λ (x3 : (Unit)) => ld (.sl) (at0 b2) λ (x4 : Sl) => K x4
def Dd0 : Hint := (hS (hR 1) (hS (hR 3) (hS (hR 3) (hS (hR 2) hL))))
theorem Dq7 {a0 : Sl} {K : Sl -> Wp} {w : World} (h : F131 a0 K w) : Aa Tryz.prog 131 #[a0.v] rS K w := tied Ai Tryz.func131 Dd0 _ h
def F177 (a0 : Sl) (a1 : Int) (a2 : Value) (K : Unit -> Wp) : Wp := sI (λ s1 again2 => sif (decide (s1.1 < ((a0.len : Nat) : Int))) ( ixI a0 s1.1 1 λ x4 => Aa Tryz.prog 201 #[(vI x4)] (.one (.agg Ac1)) λ (x5 : I4) => Af (.cells #[(vI 0), (vI 0), (vI 0), (vI 0)] 205) λ b6 => Ae (at0 b6) (vA Ac1 x5) 4 <| jU (λ J7 => sI (λ s9 again10 => sif (decide (s9.1 < ((a0.len : Nat) : Int))) ( ixI a0 s9.1 1 λ x12 => cB 202 #[(.pointer (some (at0 b6))), (vI x12)] λ x13 => sif x13 ( again10 ((W64 (s9.1 + 1)), ())) ( Cb Tryz.prog (do let d ← Deferred.ofValue a2 #[(vI s9.1)]; invoke d.target d.args : Sem Next) rB λ (x14 : Bool) => sif (!x14) ( K ()) ( again2 (s9.1, ())))) ( J7 ())) ((W64 (s1.1 + 1)), ())) λ s8 => Cb Tryz.prog (do let d ← Deferred.ofValue a2 #[(vI ((a0.len : Nat) : Int))]; invoke d.target d.args : Sem Next) rB λ (x15 : Bool) => K ()) ( K ())) (a1, ())
def Da1 : Hint := (.scope (hS (hR 2) (hS hL (.block (.loop 0x1fffffffdc0 [(6, tI)] (hS (hS (hR 4) (hC hL hL)) (.block (hS (hR 7) (hJ (0x1ffff80140, []) (hS (hR 3) (.block (.loop 0x1fffe00140 [(8, tI)] (hS (hS (hR 4) (hC hL hL)) (hS (.block (hS (hS (hR 5) (hC hL hL)) (hS (hS (hR 4) (hC hL hL)) (hS (hR 2) hL)))) (hR 3)))))) (hS (hR 4) hL))))))))))
theorem Do0 {a0 : Sl} {a1 : Int} {a2 : Value} {K : Unit -> Wp} {w : World} (h : F177 a0 a1 a2 K w) : Aa Tryz.prog 177 #[a0.v, (vI a1), a2] (.tup []) K w := tied Ai Tryz.func177 Da1 _ h
def F178 (a0 : Int) (v0 : Addr) (K : Bool -> Wp) : Wp := ld (.sl) v0 λ (x1 : Sl) => Af (.cells #[(vI a0)] 3) λ b2 => Dz Tryz.prog rS (Builtin.append_ #[43, 43] 43 #[x1.v, (.slice (some (at0 b2)) 1 1)]) λ (x3 : Sl) => stC v0 x3.v <| K true
def Da0 : Hint := (hS (hR 1) (hS (hR 5) (hS (hR 1) hL)))
theorem Dn9 {a0 : Int} {v0 : Addr} {K : Bool -> Wp} {w : World} (h : F178 a0 v0 K w) : Aa Tryz.prog 178 #[(vI a0), (.pointer (some v0))] rB K w := tied Ai Tryz.func178 Da0 _ h
def F201 (a0 : Int) (K : I4 -> Wp) : Wp := Af (.cells #[(vI 0), (vI 0), (vI 0), (vI 0)] 205) λ b1 => Af (.cells #[(vI 0), (vI 0), (vI 0), (vI 0)] 205) λ b2 => cN 207 #[(vI a0)] λ x3 => cN 208 #[(vI a0)] λ x4 => Aa Tryz.prog 206 #[(.pointer (some (at0 b2))), (vI x3), (vI x4)] (.tup []) λ (x5 : (Unit)) => lds Ac1 (at0 b2) λ (x6 : I4) => Ae (at0 b1) (vA Ac1 x6) 4 <| lds Ac1 (at0 b1) λ (x7 : I4) => K x7
def Cy6 : Hint := (hS (hR 1) (hS (hR 1) (hS (hR 5) (hS (hR 2) hL))))
theorem Dm6 {a0 : Int} {K : I4 -> Wp} {w : World} (h : F201 a0 K w) : Aa Tryz.prog 201 #[(vI a0)] (.one (.agg Ac1)) K w := tied Ai Tryz.func201 Cy6 _ h
def F202 (a0 : Option Addr) (a1 : Int) (K : Bool -> Wp) : Wp := cN 207 #[(vI a1)] λ x1 => cN 208 #[(vI a1)] λ x2 => jB (λ J3 => jB (λ J5 => nn a0 λ p7 => lI p7 λ x8 => sif (x8 == 1) ( J5 ((x1 == 2), ())) ( J5 (false, ()))) λ s6 => sif s6.1 ( J3 (true, ())) ( jB (λ J9 => nn a0 λ p11 => lI p11 λ x12 => cB 209 #[(vI x12)] λ x13 => sif x13 ( J9 (x13, ())) ( cB 209 #[(vI x1)] λ x14 => J9 (x14, ()))) λ s10 => sif s10.1 ( J3 (false, ())) ( jB (λ J15 => sif (x1 == 4) ( J15 ((x1 == 4), ())) ( sif (x1 == 5) ( J15 ((x1 == 5), ())) ( sif (x1 == 8) ( J15 ((x1 == 8), ())) ( nn a0 λ p17 => lI p17 λ x18 => J15 ((x18 == 7), ()))))) λ s16 => sif s16.1 ( J3 (true, ())) ( nn a0 λ p19 => lI p19 λ x20 => cB 210 #[(vI x20), (vI x1)] λ x21 => sif x21 ( J3 (true, ())) ( jB (λ J22 => sif (x2 == 1) ( nn a0 λ p24 => ld cI (p24.add 3) λ (x25 : Int) => J22 ((x25 == 2), ())) ( J22 (false, ()))) λ s23 => sif s23.1 ( J3 (true, ())) ( sif (x1 == 14) ( nn a0 λ p26 => ld cI (p26.add 2) λ (x27 : Int) => J3 ((x27 == 2), ())) ( sif (x1 == 6) ( nn a0 λ p28 => ld cI (p28.add 1) λ (x29 : Int) => chk ((2 : Int) ≠ 0) <| J3 (((Int.tmod x29 2) == 1), ())) ( J3 (false, ()))))))))) λ s4 => jU (λ J30 => sif s4.1 ( Aa Tryz.prog 206 #[(.pointer a0), (vI x1), (vI x2)] (.tup []) λ (x32 : (Unit)) => J30 ()) ( J30 ())) λ s31 => K s4.1
def Cy5 : Hint := (hS (hR 1) (hS (hR 6) (hS (hR 1) (hJ (0xffffffffffffffff080, [(7, tB)]) (.block (hJ (4190208, [(12, tB)]) (.region [] (.ops 6 (.split 18 (hO 4) (.skips 2 (hO 2))))) (hC (hR 1) (hJ (0x3fc00000, [(22, tB)]) (hS (hR 6) (hC hL (hR 3))) (hC hL (hJ (0x3ffc0000000, [(30, tB)]) (hS (hR 3) (hC hL (hS (hR 3) (hC hL (hS (hR 3) (hC hL (hR 6))))))) (hC (hR 1) (hS (hR 7) (hC (hR 1) (hJ ((mR [(49, 59)]), [(49, tB)]) (.region [] (.ops 3 (.split 52 (hO 7) (.skips 5 (hO 2))))) (hC (hR 1) (hS (hR 3) (hC (hR 6) (hS (hR 3) (hC (hR 7) hL))))))))))))))) (hJ ((mR [(76, 81)]), []) (hS (hR 1) (hC (hR 4) hL)) (hS (hR 2) hL))))))
theorem Dm5 {a0 : Option Addr} {a1 : Int} {K : Bool -> Wp} {w : World} (h : F202 a0 a1 K w) : Aa Tryz.prog 202 #[(.pointer a0), (vI a1)] rB K w := tied Ai Tryz.func202 Cy5 _ h
def F205 (a0 : Int) (K : Int -> Wp) : Wp := cB 211 #[(vI a0)] λ x1 => sif (!x1) ( K 1) ( cN 212 #[(.string Pv), (vI a0)] λ x2 => sif (x2 == 2) ( K 2) ( sif (x2 == 1) ( K 0) ( K 1)))
def Cy2 : Hint := (hS (hR 1) (hS (hS (hR 3) (hC (hS (hR 1) hL) hL)) (hS (hS (hR 2) (.block (hS (hR 2) (hC (hS (hR 1) hL) (hS (hR 2) (hC (hS (hR 1) hL) hL)))))) (hS (hR 1) hL))))
theorem Dm3 {a0 : Int} {K : Int -> Wp} {w : World} (h : F205 a0 K w) : Aa Tryz.prog 205 #[(vI a0)] rI K w := tied Ai Tryz.func205 Cy2 _ h
def F206 (a0 : Option Addr) (a1 : Int) (a2 : Int) (K : Unit -> Wp) : Wp := nn a0 λ p1 => stC p1 (vI a1) <| jU (λ J2 => sif (a1 == 6) ( nn a0 λ p4 => ld cI (p4.add 1) λ (x5 : Int) => nn a0 λ p6 => stC (p6.add 1) (vI (W64 (x5 + 1))) <| J2 ()) ( nn a0 λ p7 => stC (p7.add 1) (vI 0) <| J2 ())) λ s3 => jU (λ J8 => sif (a1 == 14) ( nn a0 λ p10 => stC (p10.add 2) (vI 1) <| J8 ()) ( jB (λ J11 => nn a0 λ p13 => ld cI (p13.add 2) λ (x14 : Int) => sif (x14 == 1) ( J11 ((a1 == 5), ())) ( J11 (false, ()))) λ s12 => sif s12.1 ( nn a0 λ p15 => stC (p15.add 2) (vI 2) <| J8 ()) ( jB (λ J16 => nn a0 λ p18 => ld cI (p18.add 2) λ (x19 : Int) => sif (x19 == 1) ( J16 ((a1 == 4), ())) ( J16 (false, ()))) λ s17 => sif s17.1 ( J8 ()) ( nn a0 λ p20 => stC (p20.add 2) (vI 0) <| J8 ())))) λ s9 => sif (a2 == 1) ( nn a0 λ p21 => stC (p21.add 3) (vI 1) <| K ()) ( jB (λ J22 => nn a0 λ p24 => ld cI (p24.add 3) λ (x25 : Int) => sif (decide (x25 > 0)) ( J22 ((a2 == 3), ())) ( J22 (false, ()))) λ s23 => sif s23.1 ( nn a0 λ p26 => stC (p26.add 3) (vI 2) <| K ()) ( jB (λ J27 => nn a0 λ p29 => ld cI (p29.add 3) λ (x30 : Int) => sif (decide (x30 > 0)) ( J27 ((a2 == 2), ())) ( J27 (false, ()))) λ s28 => sif s28.1 ( K ()) ( nn a0 λ p31 => stC (p31.add 3) (vI 0) <| K ())))
def Cy1 : Hint := (hS (hR 5) (hJ (4193280, []) (hS (hR 2) (hC (hR 8) (hR 4))) (hJ ((mR [(22, 54)]), []) (.block (hS (hR 3) (hC (hR 4) (hJ (0x1ff80000000, [(31, tB)]) (.region [] (.ops 6 (.split 37 (hO 4) (.skips 2 (hO 2))))) (hC (hR 4) (hJ ((mR [(44, 54)]), [(44, tB)]) (.region [] (.ops 6 (.split 50 (hO 4) (.skips 2 (hO 2))))) (hC hL (hR 4)))))))) (.block (hS (hR 3) (hC (hR 4) (hJ ((mR [(63, 73)]), [(63, tB)]) (.region [] (.ops 6 (.split 69 (hO 4) (.skips 2 (hO 2))))) (hC (hR 4) (hJ ((mR [(76, 86)]), [(76, tB)]) (.region [] (.ops 6 (.split 82 (hO 4) (.skips 2 (hO 2))))) (hC hL (hR 4)))))))))))
theorem Dm2 {a0 : Option Addr} {a1 : Int} {a2 : Int} {K : Unit -> Wp} {w : World} (h : F206 a0 a1 a2 K w) : Aa Tryz.prog 206 #[(.pointer a0), (vI a1), (vI a2)] (.tup []) K w := tied Ai Tryz.func206 Cy1 _ h
def F207 (a0 : Int) (K : Int -> Wp) : Wp := cB 211 #[(vI a0)] λ x1 => sif (!x1) ( K 3) ( jB (λ J2 => sif (decide ((W64 (a0 - 44032)) >= 0)) ( J2 ((decide ((W64 (a0 - 44032)) < 11172)), ())) ( J2 (false, ()))) λ s3 => sif s3.1 ( chk ((28 : Int) ≠ 0) <| sif ((Int.tmod (W64 (a0 - 44032)) 28) == 0) ( K 12) ( K 13)) ( cN 212 #[(.string Px), (vI a0)] λ x4 => K x4))
def Cy0 : Hint := (hS (hR 1) (hS (hS (hR 3) (hC (hS (hR 1) hL) hL)) (hS (hS (hR 3) (hJ (32256, [(14, tB)]) (.region [] (.ops 3 (.split 11 (hO 3) (.skips 2 (hO 1))))) (hC (hS (hS (hR 3) (hC (hS (hR 1) hL) hL)) (hS (hR 1) hL)) hL))) (hS (hR 3) hL))))
theorem Dm1 {a0 : Int} {K : Int -> Wp} {w : World} (h : F207 a0 K w) : Aa Tryz.prog 207 #[(vI a0)] rI K w := tied Ai Tryz.func207 Cy0 _ h
def F208 (a0 : Int) (K : Int -> Wp) : Wp := jB (λ J1 => sif (a0 == 2381) ( J1 ((a0 == 2381), ())) ( sif (a0 == 2509) ( J1 ((a0 == 2509), ())) ( sif (a0 == 2765) ( J1 ((a0 == 2765), ())) ( sif (a0 == 2893) ( J1 ((a0 == 2893), ())) ( sif (a0 == 3149) ( J1 ((a0 == 3149), ())) ( J1 ((a0 == 3405), ()))))))) λ s2 => sif s2.1 ( K 3) ( sif (a0 == 8204) ( K 0) ( jU (λ J3 => cN 207 #[(vI a0)] λ x5 => jB (λ J6 => sif (x5 == 4) ( J6 ((x5 == 4), ())) ( J6 ((x5 == 5), ()))) λ s7 => sif s7.1 ( K 2) ( sif (x5 == 0) ( cB 211 #[(vI a0)] λ x8 => sif x8 ( cN 212 #[(.string Py), (vI a0)] λ x9 => K x9) ( J3 ())) ( J3 ()))) λ s4 => K 0))
def Cx9 : Hint := (hS (hR 1) (hS (hS (hR 1) (.block (hJ (2032, [(4, tB)]) (hS (hR 2) (hC hL (hS (hR 2) (hC hL (hS (hR 2) (hC hL (hS (hR 2) (hC hL (hS (hR 2) (hC hL (hR 2))))))))))) (hC (hS (hR 1) hL) (hS (hR 2) (hC (hS (hR 1) hL) hL)))))) (hJ (0xffe004, []) (hS (hR 2) (.block (hJ (229376, [(15, tB)]) (hS (hR 2) (hC hL (hR 2))) (hC (hS (hR 1) hL) (hS (hR 2) (hC (hS (hR 2) (hC (hS (hR 3) hL) hL)) hL)))))) (hS (hR 1) hL))))
theorem Dm0 {a0 : Int} {K : Int -> Wp} {w : World} (h : F208 a0 K w) : Aa Tryz.prog 208 #[(vI a0)] rI K w := tied Ai Tryz.func208 Cx9 _ h
def F209 (a0 : Int) (K : Bool -> Wp) : Wp := sif (a0 == 1) ( K true) ( sif (a0 == 2) ( K true) ( K (a0 == 3)))
def Cx8 : Hint := (hS (hR 1) (hS (.region [] (.ops 3 (.split 5 (.skips 2 (.ops 2 (.skips 2 (hO 2)))) (.ops 4 (.split 9 (.skips 2 (hO 2)) (hO 4)))))) hL))
theorem Dl9 {a0 : Int} {K : Bool -> Wp} {w : World} (h : F209 a0 K w) : Aa Tryz.prog 209 #[(vI a0)] rB K w := tied Ai Tryz.func209 Cx8 _ h
def F210 (a0 : Int) (a1 : Int) (K : Bool -> Wp) : Wp := jU (λ J1 => jB (λ J3 => sif (a1 == 9) ( J3 ((a1 == 9), ())) ( sif (a1 == 12) ( J3 ((a1 == 12), ())) ( J3 ((a1 == 13), ())))) λ s4 => sif s4.1 ( K (a0 == 9)) ( sif (a1 == 10) ( sif (a0 == 9) ( K true) ( J1 ())) ( sif (a1 == 11) ( J1 ()) ( K false)))) λ s2 => jB (λ J5 => sif (a0 == 12) ( J5 (true, ())) ( J5 ((a0 == 10), ()))) λ s6 => sif s6.1 ( K true) ( sif (a1 == 11) ( sif (a0 == 13) ( K true) ( K (a0 == 11))) ( K false))
def Cx7 : Hint := (hS (hR 1) (hS (hS (hR 1) (.block (hJ (262096, []) (.block (hS (.block (hS (.block (hS (hS (hJ (960, [(6, tB)]) (hS (hR 2) (hC hL (hS (hR 2) (hC hL (hR 2))))) (hC hL hL)) (hS (hS (hR 2) (hC hL hL)) (hS (hR 2) (hC hL hL)))) hL)) (hS (hS (hR 3) hL) hL))) (hS (hR 2) (hC (hS (hR 1) hL) hL)))) (hS (hS (hJ (0xfc0000, [(23, tB)]) (.region [] (.ops 3 (.split 20 (.skips 2 (hO 1)) (hO 3)))) (hC (hS (hR 1) hL) hL)) (hS (.region [] (.ops 3 (.split 26 (.ops 3 (.split 29 (.skips 2 (hO 3)) (hO 5))) (.skips 6 (hO 2))))) hL)) hL)))) (hS (hR 1) hL)))
theorem Dl8 {a0 : Int} {a1 : Int} {K : Bool -> Wp} {w : World} (h : F210 a0 a1 K w) : Aa Tryz.prog 210 #[(vI a0), (vI a1)] rB K w := tied Ai Tryz.func210 Cx7 _ h
def F211 (a0 : Int) (K : Bool -> Wp) : Wp := sif (decide (a0 >= 0)) ( sif (decide (a0 < 55296)) ( K true) ( sif (decide (a0 > 57343)) ( K (decide (a0 <= 1114111))) ( K false))) ( sif (decide (a0 > 57343)) ( K (decide (a0 <= 1114111))) ( K false))
def Cx6 : Hint := (hS (hR 1) (hS (.region [] (.ops 3 (.split 5 (.ops 4 (.split 9 (.skips 6 (hO 2)) (.ops 3 (.split 12 (hO 5) (.skips 2 (hO 3)))))) (.skips 2 (.ops 5 (.split 12 (hO 5) (.skips 2 (hO 3)))))))) hL))
theorem Dl7 {a0 : Int} {K : Bool -> Wp} {w : World} (h : F211 a0 K w) : Aa Tryz.prog 211 #[(vI a0)] rB K w := tied Ai Tryz.func211 Cx6 _ h
def F212 (a0 : ByteArray) (a1 : Int) (K : Int -> Wp) : Wp := chk ((11 : Int) ≠ 0) <| jU (λ J1 => sN (λ s3 again4 => sif (decide (s3.1 < s3.2.1)) ( chk ((2 : Int) ≠ 0) <| chk (0 <= (W64 ((W64 (Int.tdiv (W64 (s3.1 + s3.2.1)) 2)) * 11)) /\ (W64 ((W64 (Int.tdiv (W64 (s3.1 + s3.2.1)) 2)) * 11)) <= (W64 ((W64 ((W64 (Int.tdiv (W64 (s3.1 + s3.2.1)) 2)) + 1)) * 11)) /\ (W64 ((W64 ((W64 (Int.tdiv (W64 (s3.1 + s3.2.1)) 2)) + 1)) * 11)) <= ((a0.size : Nat) : Int)) <| chk (0 <= (0 : Int) /\ (0 : Int) <= 5 /\ 5 <= (((a0.extract (Int.toNat (W64 ((W64 (Int.tdiv (W64 (s3.1 + s3.2.1)) 2)) * 11))) (Int.toNat (W64 ((W64 ((W64 (Int.tdiv (W64 (s3.1 + s3.2.1)) 2)) + 1)) * 11)))).size : Nat) : Int)) <| cN 213 #[(.string ((a0.extract (Int.toNat (W64 ((W64 (Int.tdiv (W64 (s3.1 + s3.2.1)) 2)) * 11))) (Int.toNat (W64 ((W64 ((W64 (Int.tdiv (W64 (s3.1 + s3.2.1)) 2)) + 1)) * 11)))).extract (Int.toNat 0) (Int.toNat 5)))] λ x5 => sif (decide (a1 < x5)) ( again4 (s3.1, (W64 (Int.tdiv (W64 (s3.1 + s3.2.1)) 2)), ())) ( chk (0 <= (5 : Int) /\ (5 : Int) <= 10 /\ 10 <= (((a0.extract (Int.toNat (W64 ((W64 (Int.tdiv (W64 (s3.1 + s3.2.1)) 2)) * 11))) (Int.toNat (W64 ((W64 ((W64 (Int.tdiv (W64 (s3.1 + s3.2.1)) 2)) + 1)) * 11)))).size : Nat) : Int)) <| cN 213 #[(.string ((a0.extract (Int.toNat (W64 ((W64 (Int.tdiv (W64 (s3.1 + s3.2.1)) 2)) * 11))) (Int.toNat (W64 ((W64 ((W64 (Int.tdiv (W64 (s3.1 + s3.2.1)) 2)) + 1)) * 11)))).extract (Int.toNat 5) (Int.toNat 10)))] λ x6 => sif (decide (a1 > x6)) ( again4 ((W64 ((W64 (Int.tdiv (W64 (s3.1 + s3.2.1)) 2)) + 1)), s3.2.1, ())) ( chk (0 <= (10 : Int) /\ 10 <= (((a0.extract (Int.toNat (W64 ((W64 (Int.tdiv (W64 (s3.1 + s3.2.1)) 2)) * 11))) (Int.toNat (W64 ((W64 ((W64 (Int.tdiv (W64 (s3.1 + s3.2.1)) 2)) + 1)) * 11)))).size : Nat) : Int) /\ (((a0.extract (Int.toNat (W64 ((W64 (Int.tdiv (W64 (s3.1 + s3.2.1)) 2)) * 11))) (Int.toNat (W64 ((W64 ((W64 (Int.tdiv (W64 (s3.1 + s3.2.1)) 2)) + 1)) * 11)))).size : Nat) : Int) <= (((a0.extract (Int.toNat (W64 ((W64 (Int.tdiv (W64 (s3.1 + s3.2.1)) 2)) * 11))) (Int.toNat (W64 ((W64 ((W64 (Int.tdiv (W64 (s3.1 + s3.2.1)) 2)) + 1)) * 11)))).size : Nat) : Int)) <| cN 213 #[(.string ((a0.extract (Int.toNat (W64 ((W64 (Int.tdiv (W64 (s3.1 + s3.2.1)) 2)) * 11))) (Int.toNat (W64 ((W64 ((W64 (Int.tdiv (W64 (s3.1 + s3.2.1)) 2)) + 1)) * 11)))).extract (Int.toNat 10) (Int.toNat (((a0.extract (Int.toNat (W64 ((W64 (Int.tdiv (W64 (s3.1 + s3.2.1)) 2)) * 11))) (Int.toNat (W64 ((W64 ((W64 (Int.tdiv (W64 (s3.1 + s3.2.1)) 2)) + 1)) * 11)))).size : Nat) : Int))))] λ x7 => K x7))) ( J1 ())) (0, (W64 (Int.tdiv ((ByteArray.size a0 : Nat) : Int) 11)), ())) λ s2 => K 0
def Cx5 : Hint := (hS (hR 1) (hS (hR 5) (hJ (0xffffffff1f0, []) (.block (.loop 0xffffffff1f0 [(5, tI), (6, tI)] (hS (hS (hR 3) (hC hL hL)) (.block (hS (hR 5) (hS (hR 8) (.block (hS (hR 6) (hC (hR 2) (hS (hR 6) (hC (hR 3) (hS (hR 4) hL)))))))))))) (hS (hR 1) hL))))
theorem Dl6 {a0 : ByteArray} {a1 : Int} {K : Int -> Wp} {w : World} (h : F212 a0 a1 K w) : Aa Tryz.prog 212 #[(.string a0), (vI a1)] rI K w := tied Ai Tryz.func212 Cx5 _ h
def F213 (a0 : ByteArray) (K : Int -> Wp) : Wp := jI (λ J1 => Dz Tryz.prog rP (Instr.range 9 (.string a0)) λ (x3 : Option Addr) => sI (λ s4 again5 => Ck3 Tryz.prog (Instr.next (.pointer x3) true 0) (λ p6 c7 => sif true ( jI (λ J8 => sif (decide (c7 > 57)) ( J8 ((W64 ((W64 (IntKind.wrap .i32 (c7 - 65))) + 10)), ())) ( J8 ((W64 (IntKind.wrap .i32 (c7 - 48))), ()))) λ s9 => again5 ((W64 ((W64 (s4.1 * 16)) + s9.1)), ())) ( J1 (s4.1, ()))) ( sif false ( λ _ => False) ( J1 (s4.1, ())))) (0, ())) λ s2 => K s2.1
def Cx4 : Hint := (hS (hR 1) (hS (hR 1) (hJ (33554408, [(3, tI)]) (hS (hR 2) (.block (.loop 33554024 [(3, tI)] (hS (hR 2) (hS (hC hL hL) (.block (hS (hR 2) (hS (hR 4) (hJ (2064448, [(6, tI)]) (hS (hR 2) (hC (hR 5) hL)) (hR 5)))))))))) (hS (hR 2) hL))))
theorem Dl5 {a0 : ByteArray} {K : Int -> Wp} {w : World} (h : F213 a0 K w) : Aa Tryz.prog 213 #[(.string a0)] rI K w := tied Ai Tryz.func213 Cx4 _ h
end Go.Proofs.YtolhlldgnfbemaaGreatDoor
namespace Go.Proofs.YtolhlldgnfbemaaGreatDoor
open Go Go.Vx Cdc Gly
section
variable {w w' : World}
theorem wrap32 {a : Int} (h0 : -(2 ^ 31) <= a) (h : a < 2 ^ 31) : IntKind.wrap .i32 a = a := by
 simp only [IntKind.wrap, IntKind.signed, IntKind.bits]
 simp [Int.bmod_def]; omega
theorem Sj {a : Int} {K : Bool -> Wp} (hK : K (decide (Scalar a)) w) : Aa Tryz.prog 211 #[.int .i64 a] rB K w := by
 refine Dl7 ?_
 unfold F211
 have h1 : Scalar a -> K true w := λ h => by rwa [decide_eq_true h] at hK
 have h2 : ¬ Scalar a -> K false w := λ h => by rwa [decide_eq_false h] at hK
 unfold Scalar at h1 h2
 refine Ac (λ h => Ac (λ h' => ?_) (λ h' => Ac (λ h'' => ?_) (λ h'' => ?_))) (λ h => Ac (λ h'' => ?_) (λ h'' => ?_))
 all_goals simp only [decide_eq_true_eq, decide_eq_false_iff_not, gt_iff_lt, ge_iff_le] at *
 ·exact h1 (by omega)
 ·by_cases hc : a <= 1114111
  ·rw [decide_eq_true hc]; exact h1 (by omega)
  ·rw [decide_eq_false hc]; exact h2 (by omega)
 ·exact h2 (by omega)
 ·by_cases hc : a <= 1114111
  ·rw [decide_eq_true hc]; exact h1 (by omega)
  ·rw [decide_eq_false hc]; exact h2 (by omega)
 ·exact h2 (by omega)
theorem Bx1 (w : World) (s : ByteArray) (pos : Nat) : Ext w (w.iter s pos) := Ext.alloc w _
theorem Bv4 (l : Bs) (c : UInt8) : num (l ++ [c]) = num l * 16 + digit c := by simp [num]
theorem Uj {d : ByteArray} (h : d.data.toList.all okC = true) (hs : d.size <= 5) {K : Int -> Wp} (hK : ∀ w', Ext w w' -> K ((num d.data.toList : Nat) : Int) w') :
  Aa Tryz.prog 213 #[.string d] rI K w := by
 refine Dl5 ?_
 unfold F213
 have hl : d.data.toList.length = d.size := Array.length_toList
 refine Ad (λ x w' => x = (((num d.data.toList : Nat) : Int), ()) /\ Ext w w') ?_ (λ x w' h => by obtain ⟨rfl, h⟩ := h; exact hK w' h)
 refine ⟨some (at0 w.heap.size), w.iter d 0, run_range_string w 9 d C9.und, ?_⟩
 refine Ar (λ x W => ∃ j, j <= d.size /\ x = (((num (d.data.toList.take j) : Nat) : Int), ()) /\ W = w.iter d j) (λ _ W => match W.heap[w.heap.size]? with | some (.stringIter _ pos) => d.size - pos | _ => 0) ⟨0, Nat.zero_le _, rfl, rfl⟩ ?_
 rintro _ W ⟨j, hj, rfl, rfl⟩
 by_cases hlt : j < d.size
 ·have hc : d.data.toList[j]? = some (d[j]'hlt) := by rw [List.getElem?_eq_getElem (by omega), Array.getElem_toList]; rfl
  have hok : okC (d[j]'hlt) = true := List.all_eq_true.1 h _ (List.mem_of_getElem? hc)
  have hok' := (Bh7 _).1 hok
  refine .inl ⟨_, _, _, run_next_ascii w d j 0 hlt (by omega), ?_⟩
  have hb := Cn4 (d.data.toList.take j) (by rw [List.all_eq_true] at h ⊢; exact λ x hx => h x (List.mem_of_mem_take hx))
  have hb2 : num (d.data.toList.take j) < 16 ^ 4 := Nat.lt_of_lt_of_le hb (Nat.pow_le_pow_right (by decide) (by rw [List.length_take]; omega))
  have hn : num (d.data.toList.take (j + 1)) = num (d.data.toList.take j) * 16 + digit (d[j]'hlt) := by rw [List.take_add_one, hc]; exact Bv4 _ _
  refine Bo (Ad (λ x W => x = (((digit (d[j]'hlt) : Nat) : Int), ()) /\ W = w.iter d (j + 1)) ?_ ?_)
  ·refine Ac (λ hg => ?_) (λ hg => ?_)
   ·simp only [decide_eq_true_eq, gt_iff_lt] at hg
    refine ⟨?_, rfl⟩
    rw [wrap32 (by omega) (by omega), wrap64 (a := ((d[j]'hlt).toNat : Int) - 65) (by omega) (by omega), wrap64 (by omega) (by omega)]
    unfold digit
    rw [if_pos (by omega)]
    congr 1; omega
   ·simp only [decide_eq_false_iff_not, gt_iff_lt] at hg
    refine ⟨?_, rfl⟩
    rw [wrap32 (by omega) (by omega), wrap64 (by omega) (by omega)]
    unfold digit
    rw [if_neg (by omega)]
    congr 1; omega
  ·rintro _ _ ⟨rfl, rfl⟩
   have hd : digit (d[j]'hlt) < 16 := by unfold digit; split <;> omega
   have ew : W64 (W64 (((num (d.data.toList.take j) : Nat) : Int) * 16) + ((digit (d[j]'hlt) : Nat) : Int)) = ((num (d.data.toList.take (j + 1)) : Nat) : Int) := by
    rw [hn, wrap64 (a := ((num (d.data.toList.take j) : Nat) : Int) * 16) (by omega) (by omega), wrap64 (by omega) (by omega)]; omega
   refine ⟨⟨j + 1, hlt, by dsimp only; rw [ew], rfl⟩, ?_⟩
   rw [World.iter_heap, World.iter_heap]
   show d.size - (j + 1) < d.size - j
   omega
 ·refine .inr ⟨_, run_next_end w d j 0 hlt, Am ⟨?_, Bx1 w d j⟩⟩
  rw [List.take_of_length_le (by omega)]
theorem Vo (b : ByteArray) (s e : Nat) : (b.extract s e).data.toList = (b.data.toList.drop s).take (e - s) := by
 rw [ByteArray.data_extract, Array.toList_extract]
theorem P9 (b : ByteArray) (s e : Nat) (h : e <= b.size) : (b.extract s e).size = e - s := by
 have : (b.extract s e).data.toList.length = (b.extract s e).size := Array.length_toList
 have hb : b.data.toList.length = b.size := Array.length_toList
 rw [← this, Vo, List.length_take, List.length_drop]; omega
theorem E5 {b : ByteArray} (h : b.data.toList.all okC = true) (s e : Nat) : (b.extract s e).data.toList.all okC = true := by
 rw [Vo]
 rw [List.all_eq_true] at h ⊢
 exact λ x hx => h x (List.mem_of_mem_drop (List.mem_of_mem_take hx))
theorem Ub {rows : ByteArray} {n a : Nat} (hn : rows.size = 11 * n) (hs : n <= 1000) (hok : rows.data.toList.all okC = true) (hT : srt 0 (Ou n rows.data.toList) = true) {K : Int -> Wp}
  (hK : ∀ w', Ext w w' -> K ((Jc (Ou n rows.data.toList) a : Nat) : Int) w') : Aa Tryz.prog 212 #[.string rows, .int .i64 (a : Int)] rI K w := by
 refine Dl6 ?_
 unfold F212
 refine Bq (by decide) ?_
 have e0 : W64 (Int.tdiv ((ByteArray.size rows : Nat) : Int) 11) = (n : Int) := by
  rw [hn, Int.tdiv_eq_ediv_of_nonneg (by omega), wrap64 (by omega) (by omega)]; omega
 rw [e0]
 refine Ad (λ _ w' => Ext w w' /\ Jc (Ou n rows.data.toList) a = 0) ?_ (λ _ w' h => by have := hK w' h.1; rwa [h.2] at this)
 refine Ar (λ x W => ∃ lo hi : Nat, x = ((lo : Int), (hi : Int), ()) /\ lo <= hi /\ hi <= n /\ Ext w W /\ (∀ (i : Nat) (r : Row), i < lo -> (Ou n rows.data.toList)[i]? = some r -> r.hi < a) /\ (∀ (i : Nat) (r : Row), hi <= i -> (Ou n rows.data.toList)[i]? = some r -> a < r.lo)) (λ x _ => (x.2.1 - x.1).toNat)
  ⟨0, n, rfl, Nat.zero_le _, Nat.le_refl _, Ext.refl w, λ i r h => absurd h (Nat.not_lt_zero _), λ i r h hr => by
   have := (List.getElem?_eq_some_iff.1 hr).1
   rw [Af3] at this; omega⟩ ?_
 rintro _ W ⟨lo, hi, rfl, hlh, hhn, e1, h1, h2⟩
 dsimp only
 refine Ac (λ hc => ?_) (λ hc => ?_)
 ·simp only [decide_eq_true_eq] at hc
  obtain ⟨m, hm⟩ : ∃ m, m = (lo + hi) / 2 := ⟨_, rfl⟩
  have hmn : m < n := by omega
  have em : W64 (Int.tdiv (W64 ((lo : Int) + (hi : Int))) 2) = (m : Int) := by
   rw [wrap64 (a := (lo : Int) + (hi : Int)) (by omega) (by omega), Int.tdiv_eq_ediv_of_nonneg (by omega), wrap64 (by omega) (by omega)]; omega
  have em1 : W64 ((m : Int) + 1) = ((m + 1 : Nat) : Int) := by rw [wrap64 (by omega) (by omega)]; omega
  have e11 : W64 ((m : Int) * 11) = ((11 * m : Nat) : Int) := by rw [wrap64 (by omega) (by omega)]; omega
  have e12 : W64 (((m + 1 : Nat) : Int) * 11) = ((11 * m + 11 : Nat) : Int) := by rw [wrap64 (by omega) (by omega)]; omega
  rw [em, em1, e11, e12]
  simp only [Int.toNat_natCast]
  have sz : (rows.extract (11 * m) (11 * m + 11)).size = 11 := by rw [P9 _ _ _ (by omega)]; omega
  rw [sz]
  have ll : (rows.extract (11 * m) (11 * m + 11)).data.toList = (rows.data.toList.drop (11 * m)).take 11 := by rw [Vo]; congr 1; omega
  have hrow := Af4 n rows.data.toList m hmn
  have p1 : ((rows.extract (11 * m) (11 * m + 11)).extract (Int.toNat 0) (Int.toNat (5 : Int))).data.toList = (rows.data.toList.drop (11 * m)).take 5 := by
   rw [Vo, ll]; show List.take 5 (List.drop 0 _) = _
   rw [List.drop_zero, List.take_take]; rfl
  have p2 : ((rows.extract (11 * m) (11 * m + 11)).extract (Int.toNat (5 : Int)) (Int.toNat (10 : Int))).data.toList = (rows.data.toList.drop (11 * m + 5)).take 5 := by
   rw [Vo, ll]; show List.take 5 (List.drop 5 _) = _
   rw [List.drop_take, List.take_take, List.drop_drop]; rfl
  have p3 : ((rows.extract (11 * m) (11 * m + 11)).extract (Int.toNat (10 : Int)) 11).data.toList = (rows.data.toList.drop (11 * m + 10)).take 1 := by
   rw [Vo, ll]; show List.take 1 (List.drop 10 _) = _
   rw [List.drop_take, List.take_take, List.drop_drop]; rfl
  have z1 : ((rows.extract (11 * m) (11 * m + 11)).extract (Int.toNat 0) (Int.toNat (5 : Int))).size <= 5 := by rw [P9 _ _ _ (by rw [sz]; decide)]; decide
  have z2 : ((rows.extract (11 * m) (11 * m + 11)).extract (Int.toNat (5 : Int)) (Int.toNat (10 : Int))).size <= 5 := by rw [P9 _ _ _ (by rw [sz]; decide)]; decide
  have z3 : ((rows.extract (11 * m) (11 * m + 11)).extract (Int.toNat (10 : Int)) 11).size <= 5 := by rw [P9 _ _ _ (by rw [sz]; decide)]; decide
  refine Bq (by decide) (Bq (by omega) (Bq (by omega) (Uj (E5 (E5 hok _ _) _ _) z1 λ w2 x2 => ?_)))
  rw [p1]
  refine Ac (λ hlt => ?_) (λ hlt => ?_)
  ·simp only [decide_eq_true_eq] at hlt
   refine ⟨⟨lo, m, rfl, by omega, by omega, e1.trans x2, h1, λ i r hi hr => ?_⟩, by omega⟩
   rcases Nat.lt_or_ge m i with hmi | hmi
   ·have := Aj7 hT hmi hrow hr
    have := (O7 hT hrow).2
    simp only at *; omega
   ·have : i = m := by omega
    subst this
    rw [hrow] at hr; cases hr
    simp only; omega
  ·simp only [decide_eq_false_iff_not] at hlt
   refine Bq (by omega) (Uj (E5 (E5 hok _ _) _ _) z2 λ w3 x3 => ?_)
   rw [p2]
   refine Ac (λ hgt => ?_) (λ hgt => ?_)
   ·simp only [decide_eq_true_eq, gt_iff_lt] at hgt
    refine ⟨⟨m + 1, hi, rfl, by omega, hhn, (e1.trans x2).trans x3, λ i r hi hr => ?_, h2⟩, by omega⟩
    rcases Nat.lt_or_ge i m with hmi | hmi
    ·have := Aj7 hT hmi hr hrow
     have := (O7 hT hrow).2
     simp only at *; omega
    ·have : i = m := by omega
     subst this
     rw [hrow] at hr; cases hr
     simp only; omega
   ·simp only [decide_eq_false_iff_not, gt_iff_lt] at hgt
    refine Bq (by omega) (Uj (E5 (E5 hok _ _) _ _) z3 λ w4 x4 => ?_)
    rw [p3]
    have := hK w4 (((e1.trans x2).trans x3).trans x4)
    rw [Bi5 hT hrow (by simp only; omega) (by simp only; omega)] at this
    exact this
 ·simp only [decide_eq_false_iff_not] at hc
  refine ⟨e1, Ah1 λ i r hr => ?_⟩
  rcases Nat.lt_or_ge i lo with h | h
  ·exact .inr (h1 i r h hr)
  ·exact .inl (h2 i r (by omega) hr)
theorem Be4 : Px.size = 11 * 324 /\ Px.data.toList.all okC = true /\ srt 0 Co5 = true := ⟨by kernel_rfl, by kernel_rfl, by kernel_rfl⟩
theorem Be3 : Py.size = 11 * 26 /\ Py.data.toList.all okC = true /\ srt 0 Ci0 = true := ⟨by kernel_rfl, by kernel_rfl, by kernel_rfl⟩
theorem Ay0 : Pv.size = 11 * 81 /\ Pv.data.toList.all okC = true /\ srt 0 Bl0 = true := ⟨by kernel_rfl, by kernel_rfl, by kernel_rfl⟩
theorem Xn {a : Int} (h : Scalar a) : ∃ n : Nat, a = (n : Int) /\ n <= 1114111 := ⟨a.toNat, by rcases h with h | h <;> omega, by rcases h with h | h <;> omega⟩
theorem Xk {a : Int} {K : Int -> Wp} (hK : ∀ w', Ext w w' -> K ((cls a : Nat) : Int) w') : Aa Tryz.prog 207 #[.int .i64 a] rI K w := by
 refine Dm1 ?_
 unfold F207
 refine Sj (Ac (λ h => ?_) (λ h => ?_))
 ·simp only [Bool.not_eq_true', decide_eq_false_iff_not] at h
  have := hK w (Ext.refl w)
  unfold cls at this
  rw [if_neg h] at this
  exact this
 simp only [Bool.not_eq_false', decide_eq_true_eq] at h
 obtain ⟨n, rfl, hn⟩ := Xn h
 unfold cls at hK
 rw [if_pos h] at hK
 have ew : W64 ((n : Int) - 44032) = (n : Int) - 44032 := wrap64 (by omega) (by omega)
 rw [ew]
 refine Ad (λ x w' => x = (decide (44032 <= n /\ n < 55204), ()) /\ w = w') ?_ ?_
 ·refine Ac (λ hg => ⟨Az ?_, rfl⟩) (λ hg => ⟨Az ?_, rfl⟩)
  ·simp only [decide_eq_true_eq, ge_iff_le] at hg ⊢; omega
  ·simp only [decide_eq_false_iff_not, decide_eq_true_eq, ge_iff_le] at hg ⊢
   exact ⟨(λ h => by cases h), λ h => by omega⟩
 rintro _ _ ⟨rfl, rfl⟩
 refine Ac (λ hg => ?_) (λ hg => ?_)
 ·simp only [decide_eq_true_eq] at hg
  refine Bq (by decide) ?_
  have e1 : Int.tmod ((n : Int) - 44032) 28 = (((n - 44032) % 28 : Nat) : Int) := by rw [Int.tmod_eq_emod_of_nonneg (by omega)]; omega
  rw [e1]
  have := hK w (Ext.refl w)
  rw [if_pos (by omega), Int.toNat_natCast] at this
  refine Ac (λ h0 => ?_) (λ h0 => ?_)
  ·simp only [beq_iff_eq] at h0
   rw [if_pos (by omega)] at this; exact this
  ·simp only [beq_eq_false_iff_ne] at h0
   rw [if_neg (by omega)] at this; exact this
 ·simp only [decide_eq_false_iff_not] at hg
  rw [if_neg (by omega), Int.toNat_natCast] at hK
  exact Ub Be4.1 (by decide) Be4.2.1 Be4.2.2 λ w1 x1 => hK w1 x1
theorem Xb {a : Int} {K : Int -> Wp} (hK : ∀ w', Ext w w' -> K ((cnj a : Nat) : Int) w') : Aa Tryz.prog 208 #[.int .i64 a] rI K w := by
 refine Dm0 ?_
 unfold F208
 unfold cnj at hK
 refine Ad (λ x w' => x = (decide (a = 2381 \/ a = 2509 \/ a = 2765 \/ a = 2893 \/ a = 3149 \/ a = 3405), ()) /\ w = w') ?_ ?_
 ·refine Ac (λ h => ⟨Az ?_, rfl⟩) (λ h1 => Ac (λ h => ⟨Az ?_, rfl⟩) (λ h2 => Ac (λ h => ⟨Az ?_, rfl⟩) (λ h3 => Ac (λ h => ⟨Az ?_, rfl⟩) (λ h4 => Ac (λ h => ⟨Az ?_, rfl⟩) (λ h5 => ⟨Az ?_, rfl⟩)))))
  all_goals simp only [beq_iff_eq, beq_eq_false_iff_ne, ne_eq, decide_eq_true_eq] at *
  all_goals omega
 rintro _ _ ⟨rfl, rfl⟩
 refine Ac (λ h => ?_) (λ h => ?_)
 ·simp only [decide_eq_true_eq] at h
  rw [if_pos h] at hK
  exact hK _ (Ext.refl _)
 simp only [decide_eq_false_iff_not] at h
 rw [if_neg h] at hK
 refine Ac (λ h2 => ?_) (λ h2 => ?_)
 ·simp only [beq_iff_eq] at h2
  rw [if_pos h2] at hK
  exact hK _ (Ext.refl _)
 simp only [beq_eq_false_iff_ne, ne_eq] at h2
 rw [if_neg h2] at hK
 refine Ad (λ _ w1 => Ext w w1 /\ ¬ (cls a = 4 \/ cls a = 5) /\ ¬ (cls a = 0 /\ Scalar a)) ?_ (λ _ w1 h3 => by
  have := hK w1 h3.1
  rw [if_neg h3.2.1, if_neg h3.2.2] at this
  exact this)
 refine Xk λ w1 e1 => Ad (λ x w2 => x = (decide (cls a = 4 \/ cls a = 5), ()) /\ w1 = w2) ?_ ?_
 ·refine Ac (λ h => ⟨Az ?_, rfl⟩) (λ h => ⟨Az ?_, rfl⟩)
  all_goals simp only [beq_iff_eq, beq_eq_false_iff_ne, ne_eq, decide_eq_true_eq] at *
  all_goals omega
 rintro _ _ ⟨rfl, rfl⟩
 refine Ac (λ h => ?_) (λ h3 => ?_)
 ·simp only [decide_eq_true_eq] at h
  rw [if_pos h] at hK
  exact hK _ e1
 simp only [decide_eq_false_iff_not] at h3
 rw [if_neg h3] at hK
 refine Ac (λ h4 => ?_) (λ h4 => ?_)
 ·simp only [beq_iff_eq] at h4
  refine Sj (Ac (λ h5 => ?_) (λ h5 => ?_))
  ·simp only [decide_eq_true_eq] at h5
   rw [if_pos ⟨by omega, h5⟩] at hK
   obtain ⟨n, rfl, hn⟩ := Xn h5
   rw [Int.toNat_natCast] at hK
   exact Ub Be3.1 (by decide) Be3.2.1 Be3.2.2 λ w2 x2 => hK w2 (e1.trans x2)
  ·simp only [decide_eq_false_iff_not] at h5
   exact ⟨e1, h3, λ h => h5 h.2⟩
 ·simp only [beq_eq_false_iff_ne, ne_eq] at h4
  exact ⟨e1, h3, λ h => h4 (by rw [h.1]; rfl)⟩
theorem Bl3 {a : Int} {K : Int -> Wp} (hK : ∀ w', Ext w w' -> K ((wrd a : Nat) : Int) w') : Aa Tryz.prog 205 #[.int .i64 a] rI K w := by
 refine Dm3 ?_
 unfold F205
 unfold wrd at hK
 refine Sj (Ac (λ h => ?_) (λ h => ?_))
 ·simp only [Bool.not_eq_true', decide_eq_false_iff_not] at h
  have := hK w (Ext.refl w)
  rw [if_neg h] at this
  exact this
 simp only [Bool.not_eq_false', decide_eq_true_eq] at h
 rw [if_pos h] at hK
 obtain ⟨n, rfl, hn⟩ := Xn h
 rw [Int.toNat_natCast] at hK
 refine Ub Ay0.1 (by decide) Ay0.2.1 Ay0.2.2 λ w1 x1 => ?_
 have := hK w1 x1
 show sif (((Jc Bl0 n : Nat) : Int) == 2) _ _ w1
 refine Ac (λ h2 => ?_) (λ h2 => ?_)
 ·simp only [beq_iff_eq] at h2
  rw [if_pos (by omega)] at this
  exact this
 ·simp only [beq_eq_false_iff_ne, ne_eq] at h2
  rw [if_neg (by omega)] at this
  show sif (((Jc Bl0 n : Nat) : Int) == 1) _ _ w1
  refine Ac (λ h3 => ?_) (λ h3 => ?_)
  ·simp only [beq_iff_eq] at h3
   rw [if_pos (by omega)] at this
   exact this
  ·simp only [beq_eq_false_iff_ne, ne_eq] at h3
   rw [if_neg (by omega)] at this
   exact this
end
end Go.Proofs.YtolhlldgnfbemaaGreatDoor
namespace Go.Proofs.YtolhlldgnfbemaaGreatDoor
open Go Go.Vx Gly Clu
section
variable {w w' : World}
theorem Rj {a : Addr} {v : Value} (h : w.cell? a = some v) (x : Ext w w') : w'.cell? a = some v := by
 obtain ⟨hs, c, t, fr, hh, hc⟩ := cell_spot h
 obtain ⟨b, o, s⟩ := a
 simp only at hs hh hc
 subst hs
 exact cell_of (x.ext_get hh) hc
theorem Am5 {c : Cell} {s : Sl} {t : TypeId} {xs : List c.T} {n : Int} {K : Addr -> c.T -> Wp} (h : Bh w s t 1 (xs.map c.val)) (h0 : 0 <= n) {x : c.T} (hx : xs[n.toNat]? = some x)
  (hK : ∀ p, (∀ w', Ext w w' -> w'.cell? (p.add (scaled (Int.toNat n) 1)) = some (c.val x)) -> K p x w) : ix s.a s.len n (λ p => ld c (p.add (scaled (Int.toNat n) 1)) (K p)) w := by
 have hlt := (List.getElem?_eq_some_iff.1 hx).1
 have hl := h.len
 rw [List.length_map, Nat.mul_one] at hl
 refine h.ix h0 (by omega) (by omega) λ b off ha hv => ?_
 have := hv 0 (c.val x) (by rw [Nat.mul_one, Nat.add_zero, List.getElem?_map, hx]; rfl)
 have hc : w.cell? ((⟨b, off, none⟩ : Addr).add (scaled (Int.toNat n) 1)) = some (c.val x) := by rw [addr_add]; simpa [scaled] using this
 exact Wu (x := x) hc (hK _ λ w' x' => Rj hc x')
def scO (s : Sc) : Obj := .cells #[.int .i64 (s.last : Int), .int .i64 (s.flags : Int), .int .i64 (s.pict : Int), .int .i64 (s.conj : Int)] 205 (0, 0)
abbrev scT (s : Sc) : Cells.T Ac1 := ((s.last : Int), (s.flags : Int), (s.pict : Int), (s.conj : Int), ())
theorem Ck2 {a : Addr} {K : Addr -> Wp} : nn (some a) K = K a := funext λ _ => propext H7
theorem Ac8 {c : Nat} {K : Bool -> Wp} (hK : K (apart c) w) : Aa Tryz.prog 209 #[.int .i64 (c : Int)] rB K w := by
 refine Dl9 ?_
 unfold F209
 unfold apart at hK
 refine Ac (λ h => ?_) (λ h => Ac (λ h2 => ?_) (λ h2 => ?_))
 all_goals simp only [beq_iff_eq, beq_eq_false_iff_ne, ne_eq] at *
 ·rw [decide_eq_true (by omega)] at hK; exact hK
 ·rw [decide_eq_true (by omega)] at hK; exact hK
 ·have : ((c : Int) == 3) = decide (c = 1 \/ c = 2 \/ c = 3) := by
   rw [Bool.eq_iff_iff, beq_iff_eq, decide_eq_true_eq]; omega
  rw [this]; exact hK
theorem At9 {l r : Nat} {K : Bool -> Wp} (hK : K (Jj l r) w) : Aa Tryz.prog 210 #[.int .i64 (l : Int), .int .i64 (r : Int)] rB K w := by
 refine Dl8 ?_
 unfold F210
 unfold Jj at hK
 have fin : ∀ {b : Bool}, (b = true ↔ ((l = 9 /\ (r = 9 \/ r = 10 \/ r = 12 \/ r = 13)) \/ ((l = 12 \/ l = 10) /\ (r = 10 \/ r = 11)) \/ ((l = 13 \/ l = 11) /\ r = 11))) -> K b w := by
  intro b hb
  have : b = decide ((l = 9 /\ (r = 9 \/ r = 10 \/ r = 12 \/ r = 13)) \/ ((l = 12 \/ l = 10) /\ (r = 10 \/ r = 11)) \/ ((l = 13 \/ l = 11) /\ r = 11)) := by rw [Bool.eq_iff_iff, hb, decide_eq_true_eq]
  rw [this]; exact hK
 refine Ad (λ _ w' => w = w' /\ (r = 10 \/ r = 11) /\ ¬ (r = 10 /\ l = 9)) ?_ ?_
 ·refine Ad (λ x w' => x = (decide (r = 9 \/ r = 12 \/ r = 13), ()) /\ w = w') ?_ ?_
  ·refine Ac (λ h => ⟨Az ?_, rfl⟩) (λ h => Ac (λ h2 => ⟨Az ?_, rfl⟩) (λ h2 => ⟨Az ?_, rfl⟩))
   all_goals simp only [beq_iff_eq, beq_eq_false_iff_ne, ne_eq, decide_eq_true_eq] at *
   all_goals omega
  rintro _ _ ⟨rfl, rfl⟩
  refine Ac (λ h => fin ?_) (λ h => Ac (λ h2 => Ac (λ h3 => fin ?_) (λ h3 => ?_)) (λ h2 => Ac (λ h3 => ?_) (λ h3 => fin ?_)))
  all_goals simp only [beq_iff_eq, beq_eq_false_iff_ne, ne_eq, decide_eq_true_eq, decide_eq_false_iff_not] at *
  ·omega
  ·simp only [true_iff]; omega
  ·exact ⟨by trivial, by omega, by omega⟩
  ·exact ⟨by trivial, by omega, by omega⟩
  ·simp only [Bool.false_eq_true, false_iff]; omega
 ·rintro _ _ ⟨rfl, h1, h2⟩
  refine Ad (λ x w' => x = (decide (l = 12 \/ l = 10), ()) /\ w = w') ?_ ?_
  ·refine Ac (λ h => ⟨Az ?_, rfl⟩) (λ h => ⟨Az ?_, rfl⟩)
   all_goals simp only [beq_iff_eq, beq_eq_false_iff_ne, ne_eq, decide_eq_true_eq, true_iff] at *
   all_goals omega
  rintro _ _ ⟨rfl, rfl⟩
  refine Ac (λ h => fin ?_) (λ h => Ac (λ h3 => Ac (λ h4 => fin ?_) (λ h4 => fin ?_)) (λ h3 => fin ?_))
  all_goals simp only [beq_iff_eq, beq_eq_false_iff_ne, ne_eq, decide_eq_true_eq, decide_eq_false_iff_not, Bool.false_eq_true, false_iff, true_iff] at *
  all_goals omega
theorem Ag5 {b c p : Nat} {s : Sc} (h : w.heap[b]? = some (scO s)) (hf : s.flags < 2 ^ 60) {K : Unit -> Wp} (hK : ∀ w', Upd (λ k => k = b) w w' -> w'.heap[b]? = some (scO (s.note c p)) -> K () w') :
  Aa Tryz.prog 206 #[.pointer (some (at0 b)), .int .i64 (c : Int), .int .i64 (p : Int)] (.tup []) K w := by
 refine Dm2 ?_
 unfold F206
 simp only [Ck2, addr_add]
 unfold scO at h
 refine Jq h (by show _ < 4; decide) λ w1 u1 n1 _ => ?_
 let O : Nat -> Nat -> Nat -> Nat -> Obj := λ a f q j => .cells #[.int .i64 (a : Int), .int .i64 (f : Int), .int .i64 (q : Int), .int .i64 (j : Int)] 205 (0, 0)
 have n1 : w1.heap[b]? = some (O c s.flags s.pict s.conj) := n1
 refine Ad (λ _ W => Upd (λ k => k = b) w W /\ W.heap[b]? = some (O c (s.note c p).flags s.pict s.conj)) ?_ ?_
 ·refine Ac (λ hc => ?_) (λ hc => ?_)
  ·simp only [beq_iff_eq] at hc
   have hc : c = 6 := by omega
   refine Cc n1 (x := (s.flags : Int)) rfl (Jq n1 (by show _ < 4; decide) λ w2 u2 n2 _ => ⟨u1.trans u2, ?_⟩)
   have e : (s.note c p).flags = s.flags + 1 := by simp [Sc.note, hc]
   rw [e, n2, wrap64 (by omega) (by omega)]; rfl
  ·simp only [beq_eq_false_iff_ne, ne_eq] at hc
   have hc : c ≠ 6 := by omega
   refine Jq n1 (by show _ < 4; decide) λ w2 u2 n2 _ => ⟨u1.trans u2, ?_⟩
   have e : (s.note c p).flags = 0 := by simp [Sc.note, hc]
   rw [e, n2]; rfl
 rintro _ w2 ⟨u2, n2⟩
 refine Ad (λ _ W => Upd (λ k => k = b) w W /\ W.heap[b]? = some (O c (s.note c p).flags (s.note c p).pict s.conj)) ?_ ?_
 ·have hp : (s.note c p).pict = if c = 14 then 1 else if s.pict = 1 /\ c = 5 then 2 else if s.pict = 1 /\ c = 4 then s.pict else 0 := rfl
  refine Ac (λ hc => ?_) (λ hc => ?_)
  ·simp only [beq_iff_eq] at hc
   rw [hp, if_pos (by omega)]
   exact Jq n2 (by show _ < 4; decide) λ w3 u3 n3 _ => ⟨u2.trans u3, n3⟩
  simp only [beq_eq_false_iff_ne, ne_eq] at hc
  rw [hp, if_neg (by omega)]
  refine Ad (λ x W => x = (decide (s.pict = 1 /\ c = 5), ()) /\ w2 = W) ?_ ?_
  ·refine Cc n2 (x := (s.pict : Int)) rfl (Ac (λ h => ⟨Az ?_, rfl⟩) (λ h => ⟨Az ?_, rfl⟩))
   all_goals simp only [beq_iff_eq, beq_eq_false_iff_ne, ne_eq, decide_eq_true_eq, Bool.false_eq_true, false_iff] at *
   all_goals omega
  rintro _ _ ⟨rfl, rfl⟩
  refine Ac (λ h => ?_) (λ h => ?_)
  ·simp only [decide_eq_true_eq] at h
   rw [if_pos h]
   exact Jq n2 (by show _ < 4; decide) λ w3 u3 n3 _ => ⟨u2.trans u3, n3⟩
  simp only [decide_eq_false_iff_not] at h
  rw [if_neg h]
  refine Ad (λ x W => x = (decide (s.pict = 1 /\ c = 4), ()) /\ w2 = W) ?_ ?_
  ·refine Cc n2 (x := (s.pict : Int)) rfl (Ac (λ h => ⟨Az ?_, rfl⟩) (λ h => ⟨Az ?_, rfl⟩))
   all_goals simp only [beq_iff_eq, beq_eq_false_iff_ne, ne_eq, decide_eq_true_eq, Bool.false_eq_true, false_iff] at *
   all_goals omega
  rintro _ _ ⟨rfl, rfl⟩
  refine Ac (λ h => ?_) (λ h => ?_)
  ·simp only [decide_eq_true_eq] at h
   rw [if_pos h]
   exact ⟨u2, n2⟩
  ·simp only [decide_eq_false_iff_not] at h
   rw [if_neg h]
   exact Jq n2 (by show _ < 4; decide) λ w3 u3 n3 _ => ⟨u2.trans u3, n3⟩
 rintro _ w3 ⟨u3, n3⟩
 have hj : (s.note c p).conj = if p = 1 then 1 else if 0 < s.conj /\ p = 3 then 2 else if 0 < s.conj /\ p = 2 then s.conj else 0 := rfl
 have fin : ∀ {q : Nat} {W : World}, (s.note c p).conj = q -> Upd (λ k => k = b) w W -> W.heap[b]? = some (O c (s.note c p).flags (s.note c p).pict q) -> K () W := λ e u n => hK _ u (by subst e; exact n)
 refine Ac (λ hc => ?_) (λ hc => ?_)
 ·simp only [beq_iff_eq] at hc
  exact Jq n3 (by show _ < 4; decide) λ w4 u4 n4 _ => fin (q := 1) (by rw [hj, if_pos (by omega)]) (u3.trans u4) n4
 simp only [beq_eq_false_iff_ne, ne_eq] at hc
 rw [if_neg (by omega)] at hj
 refine Ad (λ x W => x = (decide (0 < s.conj /\ p = 3), ()) /\ w3 = W) ?_ ?_
 ·refine Cc n3 (x := (s.conj : Int)) rfl (Ac (λ h => ⟨Az ?_, rfl⟩) (λ h => ⟨Az ?_, rfl⟩))
  all_goals simp only [beq_iff_eq, decide_eq_true_eq, decide_eq_false_iff_not, Bool.false_eq_true, false_iff, gt_iff_lt] at *
  all_goals omega
 rintro _ _ ⟨rfl, rfl⟩
 refine Ac (λ h => ?_) (λ h => ?_)
 ·simp only [decide_eq_true_eq] at h
  exact Jq n3 (by show _ < 4; decide) λ w4 u4 n4 _ => fin (q := 2) (by rw [hj, if_pos h]) (u3.trans u4) n4
 simp only [decide_eq_false_iff_not] at h
 rw [if_neg h] at hj
 refine Ad (λ x W => x = (decide (0 < s.conj /\ p = 2), ()) /\ w3 = W) ?_ ?_
 ·refine Cc n3 (x := (s.conj : Int)) rfl (Ac (λ h => ⟨Az ?_, rfl⟩) (λ h => ⟨Az ?_, rfl⟩))
  all_goals simp only [beq_iff_eq, decide_eq_true_eq, decide_eq_false_iff_not, Bool.false_eq_true, false_iff, gt_iff_lt] at *
  all_goals omega
 rintro _ _ ⟨rfl, rfl⟩
 refine Ac (λ h => ?_) (λ h => ?_)
 ·simp only [decide_eq_true_eq] at h
  exact fin (q := s.conj) (by rw [hj, if_pos h]) u3 n3
 ·simp only [decide_eq_false_iff_not] at h
  exact Jq n3 (by show _ < 4; decide) λ w4 u4 n4 _ => fin (q := 0) (by rw [hj, if_neg h]) (u3.trans u4) n4
theorem Bf3 {a : Int} {K : Cells.T Ac1 -> Wp} (hK : ∀ w', Ext w w' -> K (scT (sc [a])) w') : Aa Tryz.prog 201 #[.int .i64 a] (.one (.agg Ac1)) K w := by
 refine Dm6 ?_
 unfold F201
 refine (St.start w).Af λ b1 w1 S1 e1 => S1.Y8 λ b2 w2 S2 e2 hb2 => Xk λ w3 e3 => Xb λ w4 e4 => ?_
 have S4 := (S2.ext e3).ext e4
 refine Ag5 (s := Sc.zero) (S4.at_ 0 rfl) (by decide) λ w5 u5 n5 => ?_
 have S5 := P5 S4 (i := 0) rfl u5 n5
 have e : Sc.zero.note (cls a) (cnj a) = sc [a] := (U7 a).symm
 rw [e] at S5
 refine S5.lds 0 (scT (sc [a])) rfl (S5.Ae 1 rfl rfl rfl rfl λ w6 S6 _ => S6.lds 1 (scT (sc [a])) rfl (hK w6 S6.upd))
theorem Ay6 {b : Nat} {s : Sc} {a : Int} (h : w.heap[b]? = some (scO s)) (hf : s.flags < 2 ^ 60) {K : Bool -> Wp}
  (hK : ∀ w', Upd (λ k => k = b) w w' -> w'.heap[b]? = some (scO (if joins s (cls a) (cnj a) then s.note (cls a) (cnj a) else s)) -> K (joins s (cls a) (cnj a)) w') :
  Aa Tryz.prog 202 #[.pointer (some (at0 b)), .int .i64 a] rB K w := by
 refine Dm5 ?_
 unfold F202
 simp only [Ck2, addr_add]
 refine Xk λ w1 e1 => Xb λ w2 e2 => ?_
 have e12 := e1.trans e2
 have h2 := e12.ext_get h
 generalize hc : cls a = c at *
 generalize hp : cnj a = p at *
 refine Ad (λ x W => x = (joins s c p, ()) /\ w2 = W) ?_ ?_
 ·have hj : joins s c p = if s.last = 1 /\ c = 2 then true else if apart s.last = true \/ apart c = true then false else if c = 4 \/ c = 5 \/ c = 8 \/ s.last = 7 then true else if Jj s.last c then true
   else if p = 1 /\ s.conj = 2 then true else if c = 14 then s.pict == 2 else if c = 6 then s.flags % 2 == 1 else false := rfl
  unfold scO at h2
  have l0 : ∀ {K : Int -> Wp}, K (s.last : Int) w2 -> ld (.int .i64) (at0 b) K w2 := λ hk => Cc h2 (x := (s.last : Int)) rfl hk
  refine Ad (λ x W => x = (decide (s.last = 1 /\ c = 2), ()) /\ w2 = W) ?_ ?_
  ·refine l0 (Ac (λ h => ⟨Az ?_, rfl⟩) (λ h => ⟨Az ?_, rfl⟩))
   all_goals simp only [beq_iff_eq, beq_eq_false_iff_ne, ne_eq, decide_eq_true_eq, Bool.false_eq_true, false_iff] at *
   all_goals omega
  rintro _ _ ⟨rfl, rfl⟩
  refine Ac (λ h => ?_) (λ h => ?_)
  ·simp only [decide_eq_true_eq] at h
   exact ⟨by rw [hj, if_pos h], rfl⟩
  simp only [decide_eq_false_iff_not] at h
  rw [if_neg h] at hj
  refine Ad (λ x W => x = (decide (apart s.last = true \/ apart c = true), ()) /\ w2 = W) ?_ ?_
  ·refine l0 (Ac8 (Ac (λ h => ⟨Az ?_, rfl⟩) (λ h => Ac8 ⟨Az ?_, rfl⟩)))
   all_goals simp only [decide_eq_true_eq] at *
   all_goals simp [h]
  rintro _ _ ⟨rfl, rfl⟩
  refine Ac (λ h => ?_) (λ h => ?_)
  ·simp only [decide_eq_true_eq] at h
   exact ⟨by rw [hj, if_pos h], rfl⟩
  simp only [decide_eq_false_iff_not] at h
  rw [if_neg h] at hj
  refine Ad (λ x W => x = (decide (c = 4 \/ c = 5 \/ c = 8 \/ s.last = 7), ()) /\ w2 = W) ?_ ?_
  ·refine Ac (λ h => ⟨Az ?_, rfl⟩) (λ h1 => Ac (λ h => ⟨Az ?_, rfl⟩) (λ h3 => Ac (λ h => ⟨Az ?_, rfl⟩) (λ h4 => l0 ⟨Az ?_, rfl⟩)))
   all_goals simp only [beq_iff_eq, beq_eq_false_iff_ne, ne_eq, decide_eq_true_eq] at *
   all_goals omega
  rintro _ _ ⟨rfl, rfl⟩
  refine Ac (λ h => ?_) (λ h => ?_)
  ·simp only [decide_eq_true_eq] at h
   exact ⟨by rw [hj, if_pos h], rfl⟩
  simp only [decide_eq_false_iff_not] at h
  rw [if_neg h] at hj
  refine l0 (At9 (Ac (λ h => ?_) (λ h => ?_)))
  ·exact ⟨by rw [hj, if_pos h], rfl⟩
  rw [if_neg (by rw [h]; decide)] at hj
  refine Ad (λ x W => x = (decide (p = 1 /\ s.conj = 2), ()) /\ w2 = W) ?_ ?_
  ·refine Ac (λ h => Cc h2 (x := (s.conj : Int)) rfl ⟨Az ?_, rfl⟩) (λ h => ⟨Az ?_, rfl⟩)
   all_goals simp only [beq_iff_eq, beq_eq_false_iff_ne, ne_eq, decide_eq_true_eq, Bool.false_eq_true, false_iff] at *
   all_goals omega
  rintro _ _ ⟨rfl, rfl⟩
  refine Ac (λ h => ?_) (λ h => ?_)
  ·simp only [decide_eq_true_eq] at h
   exact ⟨by rw [hj, if_pos h], rfl⟩
  simp only [decide_eq_false_iff_not] at h
  rw [if_neg h] at hj
  refine Ac (λ h => ?_) (λ h => ?_)
  ·simp only [beq_iff_eq] at h
   rw [if_pos (by omega)] at hj
   refine Cc h2 (x := (s.pict : Int)) rfl ⟨?_, rfl⟩
   rw [hj]
   exact Az (by simp only [beq_iff_eq]; omega)
  simp only [beq_eq_false_iff_ne, ne_eq] at h
  rw [if_neg (by omega)] at hj
  refine Ac (λ h => ?_) (λ h => ?_)
  ·simp only [beq_iff_eq] at h
   rw [if_pos (by omega)] at hj
   refine Cc h2 (x := (s.flags : Int)) rfl (Bq (by decide) ⟨?_, rfl⟩)
   rw [hj, Int.tmod_eq_emod_of_nonneg (by omega)]
   exact Az (by simp only [beq_iff_eq]; omega)
  ·simp only [beq_eq_false_iff_ne, ne_eq] at h
   rw [if_neg (by omega)] at hj
   exact ⟨by rw [hj], rfl⟩
 rintro _ _ ⟨rfl, rfl⟩
 refine Ad (λ _ W => Upd (λ k => k = b) w W /\ W.heap[b]? = some (scO (if joins s c p then s.note c p else s))) ?_ (λ _ W h => hK W h.1 h.2)
 refine Ac (λ h => ?_) (λ h => ?_)
 ·have h : joins s c p = true := h
  rw [if_pos h]
  exact Ag5 h2 hf λ w3 u3 n3 => ⟨(Upd.Et e12).trans u3, n3⟩
 ·have h : joins s c p = false := h
  rw [if_neg (by rw [h]; decide)]
  exact ⟨Upd.Et e12, h2⟩
theorem Be2 {A : List Int} {s : Sl} {t : TypeId} {at_ : Nat} {y : Value} (hb : bk A at_ = true) (hl : A.length < 2 ^ 59) (Inv : Nat -> Wp) (Brk : World -> Prop)
  (hs : ∀ k W, Inv k W -> Bh W s t 1 (iv A)) (hx : ∀ k W W', Inv k W -> Ext W W' -> Inv k W')
  (hy : ∀ (i j : Nat) (W : World) (K : Bool -> Wp), Inv i W -> i < j -> bk A j = true -> (∀ k, i < k -> k < j -> bk A k = false) -> (∀ c W', (c = true -> Inv j W') -> (c = false -> Brk W') -> K c W') ->
   Cb Tryz.prog (do let d ← Deferred.ofValue y #[.int .i64 (j : Int)]; invoke d.target d.args : Sem Next) (.one (.one .bool)) K W)
  (h0 : Inv at_ w) {K : Unit -> Wp} (hK : ∀ W, Inv A.length W \/ Brk W -> K () W) :
  Aa Tryz.prog 177 #[s.v, .int .i64 (at_ : Int), y] (.tup []) K w := by
 refine Do0 ?_
 unfold F177
 have hlen : A.length = s.len := by have := (hs _ _ h0).len1; rwa [List.length_map] at this
 refine Ar (λ x W => ∃ i, i <= A.length /\ x = ((i : Int), ()) /\ bk A i = true /\ Inv i W) (λ x _ => ((A.length : Int) - x.1).toNat) ⟨at_, Ai5 hb, rfl, hb, h0⟩ ?_
 rintro _ W ⟨i, hi, rfl, hbi, hI⟩
 refine Ac (λ hc => ?_) (λ hc => ?_)
 ·simp only [decide_eq_true_eq] at hc
  have hil : i < A.length := by omega
  have ha : A[i]? = some A[i] := List.getElem?_eq_getElem hil
  refine Gl (c := .int .i64) (xs := A) (hs _ _ hI) (by omega) (x := A[i]) (by rw [Int.toNat_natCast]; exact ha) λ p => Bf3 λ w1 e1 => ?_
  refine Cm λ b w2 e2 n2 hb2 _ => Vu n2 rfl rfl (by decide) λ w3 u3 n3 _ => ?_
  have e3 : Ext W w3 := (e1.trans e2).step u3 λ k hk => by have := e1.size; omega
  have n3 : w3.heap[b]? = some (scO (sc (A.take (i + 1)))) := by rw [Cq4 hbi ha]; exact n3
  have bW : W.heap.size <= b := by have := e1.size; omega
  have ew : W64 ((i : Int) + 1) = ((i + 1 : Nat) : Int) := by rw [wrap64 (by omega) (by omega)]; omega
  rw [ew]
  refine Ad (λ _ W' => Inv i W' /\ ∀ k, i < k -> k < A.length -> bk A k = false) ?_ ?_
  ·refine Ar (λ x W' => ∃ k, i < k /\ k <= A.length /\ x = ((k : Int), ()) /\ Ext W W' /\ W'.heap[b]? = some (scO (sc (A.take k))) /\ ∀ q, i < q -> q < k -> bk A q = false) (λ x _ => ((A.length : Int) - x.1).toNat) ⟨i + 1, by omega, by omega, rfl, e3, n3, λ q h1 h2 => by omega⟩ ?_
   rintro _ W4 ⟨k, hik, hkl, rfl, e4, n4, hno⟩
   refine Ac (λ hc => ?_) (λ hc => ?_)
   ·simp only [decide_eq_true_eq] at hc
    have hkl : k < A.length := by omega
    have hk : A[k]? = some A[k] := List.getElem?_eq_getElem hkl
    have hI4 := hx _ _ _ hI e4
    have hfl := Bx8 (A.take k)
    rw [List.length_take] at hfl
    refine Gl (c := .int .i64) (xs := A) (hs _ _ hI4) (by omega) (x := A[k]) (by rw [Int.toNat_natCast]; exact hk) λ p => Ay6 n4 (by omega) λ w5 u5 n5 => ?_
    have e5 : Ext W w5 := e4.step u5 λ q hq => by omega
    have hbk := Bk4 hk (by omega)
    refine Ac (λ hj => ?_) (λ hj => ?_)
    ·have ew : W64 ((k : Int) + 1) = ((k + 1 : Nat) : Int) := by rw [wrap64 (by omega) (by omega)]; omega
     rw [if_pos hj, ← Ae7 hj] at n5
     have e : sc (A.take (k + 1)) = stp (sc (A.take k)) A[k] := by rw [List.take_add_one, hk]; exact Xr _ _
     rw [← e] at n5
     refine ⟨⟨k + 1, by omega, by omega, by rw [ew], e5, n5, λ q h1 h2 => ?_⟩, by rw [ew]; omega⟩
     by_cases hq : q = k
     ·rw [hq, hbk, hj]; rfl
     ·exact hno q h1 (by omega)
    ·rw [hj] at hbk
     refine hy i k w5 _ (hx _ _ _ hI e5) hik hbk hno λ c W' h1 h2 => Ac (λ hn => ?_) (λ hn => ?_)
     ·have hc : c = false := by cases c <;> simp_all
      exact hK W' (.inr (h2 hc))
     ·have hc : c = true := by cases c <;> simp_all
      exact ⟨⟨k, by omega, rfl, hbk, h1 hc⟩, by omega⟩
   ·simp only [decide_eq_false_iff_not] at hc
    exact ⟨hx _ _ _ hI e4, λ q h1 h2 => hno q h1 (by omega)⟩
  ·rintro _ W5 ⟨hI5, hno⟩
   rw [← hlen]
   exact hy i A.length W5 _ hI5 hil (Ao2 A) hno λ c W' h1 h2 => hK W' (by cases c with
    | true => exact .inl (h1 rfl)
    | false => exact .inr (h2 rfl))
 ·simp only [decide_eq_false_iff_not] at hc
  have : i = A.length := by omega
  subst this
  exact hK W (.inl hI)
abbrev nv (l : List Nat) : List Value := l.map λ (n : Nat) => Value.int .i64 (n : Int)
theorem An8 {A : List Int} {s : Sl} {t : TypeId} (hs : Bh w s t 1 (iv A)) (hl : A.length < 2 ^ 40) {K : Sl -> Wp} (hK : ∀ s' w', Ap w' w.heap.size s' 3 1 (nv (cuts A)) -> Ext w w' -> K s' w') :
  Aa Tryz.prog 131 #[s.v] rS K w := by
 refine Dq7 ?_
 unfold F131
 refine Cm λ b1 w1 e1 n1 hb1 _ => Cm λ b2 w2 e2 n2 hb2 _ => Jq n2 Nat.one_pos λ w3 u3 n3 _ => ?_
 have e3 : Ext w w3 := (e1.trans e2).step u3 λ k hk => by have := e1.size; omega
 have hb12 : w.heap.size <= b2 := by have := e1.size; omega
 have hlt : b1 ≠ b2 := by have := lt_of_heap n1; omega
 have o3 : Ap w3 w.heap.size ⟨some (at0 b1), 1, 1⟩ 3 1 (nv [0]) := by
  refine ⟨rfl, Nat.le_refl _, .inr ⟨b1, 0, #[.int .i64 0], rfl, by omega, u3.get (e2.ext_get n1) hlt, by show 0 + 1 * 1 <= 1; decide, λ i v hv => ?_⟩⟩
  rw [Nat.zero_add]
  simpa using hv
 refine Be2 (A := A) (s := s) (t := t) (at_ := 0) (Yy A) (by omega) (λ k W => ∃ o, W.heap[b2]? = some (.cells #[.slice o.a o.len o.cap] 43 (0, 0)) /\ Ap W w.heap.size o 3 1 (nv (Jw A k)) /\ Ext w W /\ k <= A.length) (λ _ => False) ?_ ?_ ?_ ?_ ?_
 ·rintro k W ⟨o, _, _, e, _⟩
  exact hs.ext e
 ·rintro k W W' ⟨o, h1, h2, h3, h4⟩ e
  exact ⟨o, e.ext_get h1, h2.ext e, h3.trans e, h4⟩
 ·rintro i j W K' ⟨o, h1, h2, h3, h4⟩ hij hbj hno hK'
  have hol := h2.len1
  rw [List.length_map] at hol
  have hcl := Ab4 A i
  refine func_x (caps := #[.pointer (some (at0 b2))]) (by kernel_rfl) ?_
  refine Dn9 ?_
  unfold F178
  refine Cc h1 (x := o) rfl (Cm λ b4 w4 e4 n4 hb4 _ => ?_)
  refine Ej Xa Xa.ts_ (x := ⟨some (at0 b4), 1, 1⟩) (h2.ext e4) (Am6 n4) (λ v hv => by rw [List.mem_singleton.1 hv]; rfl) (by
   show (o.len + 1 + (o.len + 1) / 4 + 512) * 8 <= 2 ^ 48
   omega) (by have := h3.size; have := e4.size; omega) λ o' w5 o5 l5 u5 k5 => ?_
  have n5 : w5.heap[b2]? = some (.cells #[.slice o.a o.len o.cap] 43 (0, 0)) := u5.get (e4.ext_get h1) λ hb => by
   obtain ⟨c, fr, hc⟩ := (h2.ext e4).in.Ep hb
   rw [e4.ext_get h1] at hc; cases hc
  refine Jq n5 Nat.one_pos λ w6 u6 n6 _ => hK' true w6 (λ _ => ⟨o', n6, ?_, ?_, Ai5 hbj⟩) (λ h => by cases h)
  ·have := o5.box n5 (by decide) u6
   have e : nv (Jw A j) = nv (Jw A i) ++ [.int .i64 (j : Int)] := by rw [Av1 hij hbj hno]; simp
   rw [e]; exact this
  ·exact ((h3.trans e4).step u5 λ k hk => h2.Ew hk).step u6 λ k hk => by omega
 ·refine ⟨⟨some (at0 b1), 1, 1⟩, n3, ?_, e3, Nat.zero_le _⟩
  rw [Av0]
  exact o3
 ·rintro W (⟨o, h1, h2, h3, h4⟩ | h)
  ·exact Cc h1 (x := o) rfl (hK o W h2 h3)
  ·exact h.elim
end
end Go.Proofs.YtolhlldgnfbemaaGreatDoor
namespace Go.Proofs.YtolhlldgnfbemaaGreatDoor
open Trx Gly Clu
namespace Lns
structure Ln where
 from_ : Nat
 to_ : Nat
 next : Nat
 kind : Nat
 deriving DecidableEq
def isb (A : List Int) (n : Nat) : Bool := match A[n]? with
 | some a => isE a (A.drop (n + 1))
 | none => false
theorem Pg : ∀ (A : List Int) (n : Nat), nb A (n + 1) = nb A n + (if isb A n then 1 else 0)
 | [], n => by cases n <;> simp [nb, isb]
 | a :: r, 0 => by simp [nb, Le, isb]
 | a :: r, n + 1 => by
  have ih := Pg r n
  rw [nb, ih, nb]
  have : isb (a :: r) (n + 1) = isb r n := by simp [isb]
  rw [this]; omega
theorem Iq {A : List Int} {n : Nat} {a : Int} (h : A[n]? = some a) : isb A n = true ↔ a = 10 \/ (a = 13 /\ A[n + 1]? ≠ some 10) := by
 unfold isb
 rw [h]
 simp only [isE, Bool.or_eq_true, beq_iff_eq, Bool.and_eq_true, bne_iff_ne, ne_eq, List.head?_drop]
theorem Co0 {A : List Int} {n : Nat} (h : isb A n = true) : n < A.length := by
 unfold isb at h
 split at h
 ·rename_i a ha; exact (List.getElem?_eq_some_iff.1 ha).1
 ·cases h
theorem Ny {A : List Int} {k m : Nat} (h : sk A k = some m) : k <= brs A /\ m <= A.length /\ nb A m = k /\ ∀ j, j < m -> nb A j < k := by
 by_cases hk : k <= brs A
 ·obtain ⟨m', h1, h2, h3, h4⟩ := Ak0 A k hk
  rw [h] at h1; cases h1
  exact ⟨hk, h2, h3, h4⟩
 ·rw [Ve A k (by omega)] at h; cases h
theorem Af0 {A : List Int} {k : Nat} (h : k <= brs A) : ∃ m, sk A k = some m := by
 obtain ⟨m, h1, _⟩ := Ak0 A k h
 exact ⟨m, h1⟩
theorem Aj9 (A : List Int) : sk A 0 = some 0 := by cases A <;> rfl
theorem Cj7 {A : List Int} {i j m x : Nat} (h1 : sk A i = some m) (h2 : sk A j = some x) (hij : i < j) : m < x := by
 obtain ⟨_, _, g1, _⟩ := Ny h1
 obtain ⟨_, _, g2, g3⟩ := Ny h2
 rcases Nat.lt_or_ge m x with h | h
 ·exact h
 ·have := Jv A x m h; omega
theorem Cl9 {A : List Int} {k m : Nat} (h : sk A (k + 1) = some m) : 0 < m /\ isb A (m - 1) = true := by
 obtain ⟨_, _, h3, h4⟩ := Ny h
 cases m with
 | zero => rw [Le] at h3; omega
 | succ m =>
  refine ⟨by omega, ?_⟩
  have := h4 m (by omega)
  rw [Pg] at h3
  rw [Nat.add_sub_cancel]
  cases hb : isb A m with
  | true => rfl
  | false => rw [hb] at h3; simp at h3; omega
def lnC (A : List Int) (f x : Nat) : Ln := if A[x - 1]? = some 13 then ⟨f, x - 1, x, 3⟩ else if f + 1 < x /\ A[x - 2]? = some 13 then ⟨f, x - 2, x, 2⟩ else ⟨f, x - 1, x, 1⟩
def Ky (A : List Int) (i : Nat) : Option Ln := match sk A i with
 | none => none
 | some f => some (match sk A (i + 1) with | some x => lnC A f x | none => ⟨f, A.length, A.length, 0⟩)
def lnI (A : List Int) (i : Int) : Option Ln := if i < 0 then none else Ky A i.toNat
def ended (A : List Int) : Bool := decide (0 < A.length) && sk A (brs A) == some A.length
def lnN (A : List Int) : Nat := brs A + (if ended A then 0 else 1)
theorem Qx {A : List Int} {i : Nat} {l : Ln} (h : Ky A i = some l) : i <= brs A /\ sk A i = some l.from_ := by
 unfold Ky at h
 split at h
 ·cases h
 ·rename_i f hf
  cases h
  refine ⟨(Ny hf).1, ?_⟩
  split
  ·unfold lnC; split
   ·exact hf
   ·split <;> exact hf
  ·exact hf
theorem Bi4 {A : List Int} {i : Nat} (h : i <= brs A) : ∃ l, Ky A i = some l := by
 obtain ⟨m, hm⟩ := Af0 h
 unfold Ky; rw [hm]; exact ⟨_, rfl⟩
structure Cp4 (A : List Int) (i : Nat) (l : Ln) : Prop where
 ft : l.from_ <= l.to_
 tn : l.to_ <= l.next
 nl : l.next <= A.length
 nbf : ∀ k, l.from_ <= k -> k < l.next -> nb A k = i
 nbF : nb A l.from_ = i
 tail : sk A (i + 1) = none -> l.kind = 0 /\ l.to_ = A.length /\ l.next = A.length
 brk : ∀ x, sk A (i + 1) = some x -> l.next = x /\ l.to_ < l.next /\ l.kind ≠ 0 /\ nb A x = i + 1
 plain : ∀ j a, l.from_ <= j -> j < l.to_ -> A[j]? = some a -> a ≠ 10 /\ a ≠ 13
 atTo : ∀ a, l.to_ < l.next -> A[l.to_]? = some a -> a = 10 \/ a = 13
 noLF : ∀ j, l.from_ <= j -> j < l.to_ -> A[j]? ≠ some 13
theorem Bw1 {A : List Int} {i : Nat} {l : Ln} (h : Ky A i = some l) : Cp4 A i l := by
 obtain ⟨hi, hf⟩ := Qx h
 obtain ⟨_, hfl, hnf, hfmin⟩ := Ny hf
 unfold Ky at h
 rw [hf] at h
 simp only [Option.some.injEq] at h
 cases hx : sk A (i + 1) with
 | none =>
  rw [hx] at h
  simp only at h
  have hbr : brs A <= i := by
   rcases Nat.lt_or_ge i (brs A) with h1 | h1
   ·obtain ⟨m, hm⟩ := Af0 (A := A) (k := i + 1) (by omega)
    rw [hm] at hx; cases hx
   ·exact h1
  have hall : ∀ k, l.from_ <= k -> nb A k = i := λ k hk => by
   have h1 := Jv A _ _ hk
   have h2 := Jv A k (max k A.length) (by omega)
   rw [Z5 A (max k A.length) (by omega)] at h2
   omega
  have pl : ∀ j a, l.from_ <= j -> j < A.length -> A[j]? = some a -> a ≠ 10 /\ a ≠ 13 := by
   have no : ∀ j, l.from_ <= j -> isb A j = false := λ j hj => by
    have h1 := hall j hj
    have h2 := hall (j + 1) (by omega)
    rw [Pg, h1] at h2
    cases hb : isb A j with
    | false => rfl
    | true => rw [hb] at h2; simp at h2
   intro j a hj hjl ha
   have h1 := no j hj
   constructor
   ·intro e
    have := (Iq ha).2 (.inl e)
    rw [h1] at this; cases this
   ·intro e
    have h2 := no (j + 1) (by omega)
    by_cases h10 : A[j + 1]? = some 10
    ·have := (Iq h10).2 (.inl rfl)
     rw [h2] at this; cases this
    ·have := (Iq ha).2 (.inr ⟨e, h10⟩)
     rw [h1] at this; cases this
  have el : l = ⟨l.from_, A.length, A.length, 0⟩ := h.symm
  have e1 : l.to_ = A.length := by rw [el]
  have e2 : l.next = A.length := by rw [el]
  have e3 : l.kind = 0 := by rw [el]
  exact ⟨by omega, by omega, by omega, λ k h1 _ => hall k h1, hnf, λ _ => ⟨e3, e1, e2⟩, (λ x hx' => by rw [hx] at hx'; cases hx'), λ j a h1 h2 => pl j a h1 (by omega), λ a h1 => by omega, λ j h1 h2 h3 => (pl j 13 h1 (by omega) h3).2 rfl⟩
 | some x =>
  rw [hx] at h
  simp only at h
  obtain ⟨hib, hxl, hnx, hxmin⟩ := Ny hx
  obtain ⟨hx0, hxe⟩ := Cl9 hx
  have hfx := Cj7 hf hx (by omega)
  have hmid : ∀ k, l.from_ <= k -> k < x -> nb A k = i := λ k h1 h2 => by
   have := Jv A _ _ h1
   have := hxmin k h2
   omega
  have no : ∀ j, l.from_ <= j -> j + 1 < x -> isb A j = false := λ j hj hjx => by
   have h1 := hmid j hj (by omega)
   have h2 := hmid (j + 1) (by omega) hjx
   rw [Pg, h1] at h2
   cases hb : isb A j with
   | false => rfl
   | true => rw [hb] at h2; simp at h2
  obtain ⟨a, ha⟩ : ∃ a, A[x - 1]? = some a := ⟨_, List.getElem?_eq_getElem (by omega)⟩
  have hend := (Iq ha).1 hxe
  have nx : x - 1 + 1 = x := by omega
  have fin : ∀ t, l.to_ = t -> l.next = x -> l.from_ <= t -> t < x -> l.kind ≠ 0 -> (∀ a, A[t]? = some a -> a = 10 \/ a = 13) -> (t + 1 = x \/ (t + 2 = x /\ A[t]? = some 13)) -> (t + 1 = x -> ∀ j, j + 1 = t -> l.from_ <= j -> A[t]? = some 10 -> A[j]? ≠ some 13) -> Cp4 A i l := by
   intro t e1 e2 h1 h2 h3 h4 h5 h6
   have pl : ∀ j a, l.from_ <= j -> j < t -> A[j]? = some a -> a ≠ 10 /\ a ≠ 13 := by
    intro j a hj hjt ha
    have g1 := no j hj (by omega)
    refine ⟨λ e => ?_, λ e => ?_⟩
    ·have := (Iq ha).2 (.inl e)
     rw [g1] at this; cases this
    ·by_cases h10 : A[j + 1]? = some 10
     ·by_cases hj2 : j + 2 < x
      ·have g2 := no (j + 1) (by omega) (by omega)
       have := (Iq h10).2 (.inl rfl)
       rw [g2] at this; cases this
      ·rcases h5 with h5 | h5
       ·have ht : t = j + 1 := by omega
        subst ht
        exact h6 h5 j rfl hj h10 (by rw [ha, e])
       ·omega
     ·have := (Iq ha).2 (.inr ⟨e, h10⟩)
      rw [g1] at this; cases this
   exact ⟨by omega, by omega, by omega, λ k g1 g2 => hmid k g1 (by omega), hnf, (λ hn => by rw [hx] at hn; cases hn), (λ y hy => by rw [hx] at hy; cases hy; exact ⟨e2, by omega, h3, hnx⟩), λ j a g1 g2 => pl j a g1 (by omega), λ a _ g => h4 a (by rw [← e1]; exact g), λ j g1 g2 g3 => (pl j 13 g1 (by omega) g3).2 rfl⟩
  unfold lnC at h
  split at h
  ·rename_i h13
   have el : l = ⟨l.from_, x - 1, x, 3⟩ := h.symm
   refine fin (x - 1) (by rw [el]) (by rw [el]) (by omega) (by omega) (by rw [el]; exact (by decide : (3 : Nat) ≠ 0)) (λ a h => by rw [h13] at h; cases h; exact .inr rfl) (.inl (by omega)) (λ _ j _ _ h => by rw [h13] at h; cases h)
  ·rename_i h13
   have ha10 : a = 10 := by
    rcases hend with h | h
    ·exact h
    ·exact absurd (by rw [ha, h.1]) h13
   split at h
   ·rename_i h2
    have el : l = ⟨l.from_, x - 2, x, 2⟩ := h.symm
    exact fin (x - 2) (by rw [el]) (by rw [el]) (by omega) (by omega) (by rw [el]; exact (by decide : (2 : Nat) ≠ 0)) (λ a h => by rw [h2.2] at h; cases h; exact .inr rfl) (.inr ⟨by omega, h2.2⟩) (λ h => by omega)
   ·rename_i h2
    have el : l = ⟨l.from_, x - 1, x, 1⟩ := h.symm
    refine fin (x - 1) (by rw [el]) (by rw [el]) (by omega) (by omega) (by rw [el]; exact (by decide : (1 : Nat) ≠ 0)) (λ b h => by rw [ha] at h; cases h; exact .inl ha10) (.inl (by omega)) (λ _ j hj hfj _ h => h2 ⟨by omega, ?_⟩)
    rw [← h]; congr 1; omega
theorem Cr5 (A : List Int) {at_ : Nat} (h : at_ <= A.length) : ∃ l, Ky A (nb A at_) = some l /\ l.from_ <= at_ /\ (at_ < l.next \/ (sk A (nb A at_ + 1) = none /\ l.next = A.length)) := by
 have hle : nb A at_ <= brs A := by rw [Jm]; exact Jv A _ _ h
 obtain ⟨l, hl⟩ := Bi4 hle
 obtain ⟨_, hf⟩ := Qx hl
 obtain ⟨_, _, g1, g2⟩ := Ny hf
 have ok := Bw1 hl
 refine ⟨l, hl, ?_, ?_⟩
 ·rcases Nat.lt_or_ge at_ l.from_ with h1 | h1
  ·have := g2 at_ h1; omega
  ·exact h1
 ·cases hx : sk A (nb A at_ + 1) with
  | none => exact .inr ⟨rfl, (ok.tail hx).2.2⟩
  | some x =>
   obtain ⟨e1, _, _, e2⟩ := ok.brk x hx
   left
   rcases Nat.lt_or_ge at_ l.next with h1 | h1
   ·exact h1
   ·have := Jv A l.next at_ h1
    rw [e1, e2] at this; omega
end Lns
end Go.Proofs.YtolhlldgnfbemaaGreatDoor
namespace Go.Proofs.YtolhlldgnfbemaaGreatDoor
open Trx Gly Clu Lns
namespace Obx
structure Cel where
 from_ : Nat
 to_ : Nat
 kind : Nat
 alone : Bool
 atom : Int
def Av7 (A : List Int) (off i j : Nat) : Cel := ⟨off + i, off + j, wrd (A[i]?.getD 0), decide (j = i + 1), A[i]?.getD 0⟩
def Ac0 (A : List Int) (off : Nat) : List Nat -> List Cel
 | i :: j :: r => Av7 A off i j :: Ac0 A off (j :: r)
 | _ => []
def Sv (A : List Int) (off : Nat) : List Cel := Ac0 A off (cuts A)
theorem D7 (A : List Int) (off : Nat) : ∀ L : List Nat, (Ac0 A off L).length = L.length - 1
 | [] => rfl
 | [_] => rfl
 | i :: j :: r => by rw [Ac0, List.length_cons, D7 A off (j :: r)]; simp
theorem Ai1 (A : List Int) (off : Nat) : ∀ (L : List Nat) (m i j : Nat), L[m]? = some i -> L[m + 1]? = some j -> (Ac0 A off L)[m]? = some (Av7 A off i j)
 | [], _, _, _, h, _ => by simp at h
 | [_], m, _, _, _, h => by simp at h
 | i :: j :: r, 0, _, _, h, h' => by
  simp at h h'
  subst h h'
  rfl
 | i :: j :: r, m + 1, x, y, h, h' => by
  rw [Ac0, List.getElem?_cons_succ]
  exact Ai1 A off (j :: r) m x y (by simpa using h) (by simpa using h')
theorem Bz7 (A : List Int) (off : Nat) : ∀ (L : List Nat) (m : Nat) (c : Cel), (Ac0 A off L)[m]? = some c -> ∃ i j, L[m]? = some i /\ L[m + 1]? = some j /\ c = Av7 A off i j := by
 intro L m c h
 have hl := (List.getElem?_eq_some_iff.1 h).1
 rw [D7] at hl
 have h1 : L[m]? = some L[m] := List.getElem?_eq_getElem (by omega)
 have h2 : L[m + 1]? = some L[m + 1] := List.getElem?_eq_getElem (by omega)
 have := Ai1 A off L m _ _ h1 h2
 rw [h] at this
 exact ⟨_, _, h1, h2, Option.some.inj this⟩
theorem D6 (A : List Int) : (cuts A)[0]? = some 0 := by
 unfold cuts Jw
 rw [List.range_succ_eq_map, List.filter_cons_of_pos (Yy A)]
 rfl
theorem Au9 {A : List Int} {m n i j : Nat} (hmn : m < n) (h : (cuts A)[m]? = some i) (h' : (cuts A)[n]? = some j) : i < j := by
 have hp := Ch8 (A := A)
 obtain ⟨h1, rfl⟩ := List.getElem?_eq_some_iff.1 h
 obtain ⟨h2, rfl⟩ := List.getElem?_eq_some_iff.1 h'
 exact List.pairwise_iff_getElem.1 hp m n h1 h2 hmn
theorem Q7 {A : List Int} {m i : Nat} (h : (cuts A)[m]? = some i) : bk A i = true := Z9.1 (List.mem_of_getElem? h)
theorem D5 (A : List Int) : (cuts A)[(cuts A).length - 1]? = some A.length := by
 have h : A.length ∈ cuts A := Z9.2 (Ao2 A)
 obtain ⟨m, hm⟩ := List.getElem?_of_mem h
 have hl := (List.getElem?_eq_some_iff.1 hm).1
 by_cases he : m = (cuts A).length - 1
 ·rw [← he]; exact hm
 ·have h2 : (cuts A)[(cuts A).length - 1]? = some (cuts A)[(cuts A).length - 1] := List.getElem?_eq_getElem (by omega)
  have := Au9 (by omega) hm h2
  have := Ai5 (Q7 h2)
  omega
theorem Ab3 (A : List Int) : 0 < (cuts A).length := by
 have := (List.getElem?_eq_some_iff.1 (D6 A)).1
 exact this
structure Ct9 (A : List Int) (off m : Nat) (c : Cel) : Prop where
 ex : ∃ i j, (cuts A)[m]? = some i /\ (cuts A)[m + 1]? = some j /\ i < j /\ j <= A.length /\ c.from_ = off + i /\ c.to_ = off + j /\ bk A i = true /\ bk A j = true /\ A[i]? = some c.atom /\ c.kind = wrd c.atom /\ (c.alone = true ↔ j = i + 1)
theorem Pq {A : List Int} {off m : Nat} {c : Cel} (h : (Sv A off)[m]? = some c) : Ct9 A off m c := by
 obtain ⟨i, j, h1, h2, rfl⟩ := Bz7 A off _ m c h
 have hij := Au9 (by omega) h1 h2
 have hj := Ai5 (Q7 h2)
 have ha : A[i]? = some A[i] := List.getElem?_eq_getElem (by omega)
 refine ⟨i, j, h1, h2, hij, hj, rfl, rfl, Q7 h1, Q7 h2, ?_, rfl, by simp [Av7]⟩
 simp [Av7, ha]
theorem Rh (A : List Int) (off : Nat) : (Sv A off).length = (cuts A).length - 1 := D7 A off _
theorem Bq8 {A : List Int} {off m : Nat} {c d : Cel} (h : (Sv A off)[m]? = some c) (h' : (Sv A off)[m + 1]? = some d) : c.to_ = d.from_ := by
 obtain ⟨i, j, h1, h2, h3, h4, h5, h6, _⟩ := (Pq h).ex
 obtain ⟨i', j', g1, g2, g3, g4, g5, g6, _⟩ := (Pq h').ex
 rw [h2] at g1
 have : j = i' := Option.some.inj g1
 omega
theorem Be7 {A : List Int} {off : Nat} {c : Cel} (h : (Sv A off)[0]? = some c) : c.from_ = off := by
 obtain ⟨i, j, h1, h2, h3, h4, h5, h6, _⟩ := (Pq h).ex
 rw [D6] at h1
 have : 0 = i := Option.some.inj h1
 omega
theorem Bq9 {A : List Int} {off m : Nat} {c : Cel} (h : (Sv A off)[m]? = some c) (hm : m + 1 = (Sv A off).length) : c.to_ = off + A.length := by
 obtain ⟨i, j, h1, h2, h3, h4, h5, h6, _⟩ := (Pq h).ex
 have := Ab3 A
 rw [Rh] at hm
 have e : m + 1 = (cuts A).length - 1 := hm
 rw [e, D5] at h2
 have : A.length = j := Option.some.inj h2
 omega
theorem Ci2 (A : List Int) (off : Nat) : (Sv A off).length <= A.length := by
 rw [Rh]
 have := Ab4 A A.length
 unfold cuts; omega
def Du (C : List Cel) (at_ : Int) : Nat := C.findIdx λ c => decide (at_ < (c.to_ : Int))
theorem Zx (C : List Cel) (at_ : Int) : Du C at_ <= C.length := List.findIdx_le_length
theorem Zy {C : List Cel} {at_ : Int} {i : Nat} (hi : i <= C.length) (h1 : ∀ (j : Nat) (c : Cel), j < i -> C[j]? = some c -> (c.to_ : Int) <= at_) (h2 : ∀ c, C[i]? = some c -> at_ < (c.to_ : Int)) : Du C at_ = i := by
 unfold Du
 by_cases he : i = C.length
 ·subst he
  rw [List.findIdx_eq_length]
  intro c hc
  obtain ⟨j, hj⟩ := List.getElem?_of_mem hc
  have := h1 j c (List.getElem?_eq_some_iff.1 hj).1 hj
  rw [decide_eq_false_iff_not]; omega
 ·have hlt : i < C.length := by omega
  rw [List.findIdx_eq hlt]
  refine ⟨decide_eq_true (h2 _ (List.getElem?_eq_getElem hlt)), λ j hj => ?_⟩
  have := h1 j _ hj (List.getElem?_eq_getElem (by omega))
  rw [decide_eq_false_iff_not]; omega
theorem Po {C : List Cel} {at_ : Int} : (∀ (j : Nat) (c : Cel), j < Du C at_ -> C[j]? = some c -> (c.to_ : Int) <= at_) /\ (∀ c, C[Du C at_]? = some c -> at_ < (c.to_ : Int)) := by
 constructor
 ·intro j c hj hc
  have := List.not_of_lt_findIdx hj
  obtain ⟨h, rfl⟩ := List.getElem?_eq_some_iff.1 hc
  simpa using this
 ·intro c hc
  obtain ⟨h, rfl⟩ := List.getElem?_eq_some_iff.1 hc
  have := List.findIdx_getElem (w := h)
  exact of_decide_eq_true this
end Obx
end Go.Proofs.YtolhlldgnfbemaaGreatDoor
namespace Go.Proofs.YtolhlldgnfbemaaGreatDoor
open Trx Gly Clu Lns Obx
namespace Obx
def Bi6 (A : List Int) (l : Ln) : List Cel := Sv ((A.drop l.from_).take (l.to_ - l.from_)) l.from_
end Obx
namespace Obx
def frm (C : List Cel) (j : Nat) : Nat := (C[j]?.map (·.from_)).getD 0
theorem Ht {C : List Cel} {j : Nat} {c : Cel} (h : C[j]? = some c) : frm C j = c.from_ := by unfold frm; rw [h]; rfl
structure Dg3 (A : List Int) (l : Ln) (c : Cel) (ci cj : Nat) : Prop where
 from_ : c.from_ = l.from_ + ci
 to_ : c.to_ = l.from_ + cj
 lt : ci < cj
 le : c.to_ <= l.to_
 atom : A[c.from_]? = some c.atom
 kind : c.kind = wrd c.atom
 alone : c.alone = decide (c.to_ = c.from_ + 1)
theorem Un {A : List Int} {l : Ln} (h1 : l.from_ <= l.to_) (h2 : l.to_ <= A.length) {i : Nat} {c : Cel} (hc : (Bi6 A l)[i]? = some c) : ∃ ci cj, (cuts ((A.drop l.from_).take (l.to_ - l.from_)))[i]? = some ci /\ (cuts ((A.drop l.from_).take (l.to_ - l.from_)))[i + 1]? = some cj /\ Dg3 A l c ci cj := by
 obtain ⟨ci, cj, g1, g2, g3, g4, g5, g6, _, _, g9, g10, g11⟩ := (Pq hc).ex
 rw [List.length_take, List.length_drop] at g4
 refine ⟨ci, cj, g1, g2, g5, g6, g3, by omega, ?_, g10, ?_⟩
 ·rw [List.getElem?_take, if_pos (by omega), List.getElem?_drop] at g9
  rw [g5]; exact g9
 ·rw [Bool.eq_iff_iff, g11]; simp; omega
end Obx
namespace Obx
structure Chain (C : List Cel) : Prop where
 pos : ∀ (i : Nat) c, C[i]? = some c -> c.from_ < c.to_
 next : ∀ (i : Nat) c d, C[i]? = some c -> C[i + 1]? = some d -> c.to_ = d.from_
theorem Chain.mono {C : List Cel} (h : Chain C) : ∀ (d i : Nat) c e, C[i]? = some c -> C[i + 1 + d]? = some e -> c.to_ <= e.from_
 | 0, i, c, e, h1, h2 => Nat.le_of_eq (h.next i c e h1 h2)
 | d + 1, i, c, e, h1, h2 => by
  obtain ⟨x, hx⟩ : ∃ x, C[i + 1]? = some x := ⟨_, List.getElem?_eq_getElem (by have := (List.getElem?_eq_some_iff.1 h2).1; omega)⟩
  have e1 := h.next i c x h1 hx
  have := h.mono d (i + 1) x e hx (by rw [show i + 1 + 1 + d = i + 1 + (d + 1) by omega]; exact h2)
  have := h.pos _ x hx
  omega
theorem Chain.lt {C : List Cel} (h : Chain C) {i j : Nat} {c e : Cel} (hij : i < j) (h1 : C[i]? = some c) (h2 : C[j]? = some e) : c.to_ <= e.from_ := h.mono (j - i - 1) i c e h1 (by rw [show i + 1 + (j - i - 1) = j by omega]; exact h2)
theorem Be8 (A : List Int) (off : Nat) : Chain (Sv A off) := ⟨λ i c h => by obtain ⟨a, b, _, _, g, _, g1, g2, _⟩ := (Pq h).ex; omega, λ i c d h h' => Bq8 h h'⟩
end Obx
namespace Mot
def Aw (A : List Int) (i : Nat) : Ln := (Ky A i).getD ⟨0, 0, 0, 0⟩
def Ag (A : List Int) (i : Nat) : List Cel := Bi6 A (Aw A i)
def inT (A : List Int) (x : Int) : Nat := (min (max x 0) (A.length : Int)).toNat
def ofI (A : List Int) (x : Int) : Nat := nb A (inT A x)
def Cj (A : List Int) (x : Int) (tail : Bool) : Nat := if tail then ofI A x else min (ofI A x) (lnN A - 1)
def Bf (A : List Int) (i : Nat) (c : Int) : Nat := if c.toNat < (Ag A i).length then frm (Ag A i) c.toNat else (Aw A i).to_
def Bg (A : List Int) (x : Int) (past : Bool) : Nat :=
 if (Aw A (Cj A x past)).to_ <= inT A x then (if past then (Aw A (Cj A x past)).to_ else Bf A (Cj A x past) (((Ag A (Cj A x past)).length : Int) - 1))
 else Bf A (Cj A x past) ((Du (Ag A (Cj A x past)) (inT A x : Int) : Nat) : Int)
def Q8 (A : List Int) (x : Int) : Nat := Du (Ag A (ofI A x)) x
def kOf (count : Int) : Nat := if 0 < count then (min count 9999).toNat else 1
abbrev Ld := (Int × Int × Int) × Int
def Dq (A : List Int) (x : Nat) (kind : Int) : Ld := (((x : Int), kind, (Q8 A (x : Int) : Int)), 0)
def noP (e : Int) : Ld := ((0, 0, 0), e)
def Gw (C : List Cel) (a : Int) (L : List Nat) (k : Nat) : Option Nat := (L.filter λ j => decide (C[j]?.map (·.atom) = some a))[k - 1]?
def upL (n c : Nat) : List Nat := List.range' (c + 1) (n - (c + 1))
def Ol (c : Nat) : List Nat := (List.range c).reverse
def Nz (A : List Int) (i : Nat) : Nat := if (Ag A i).findIdx (λ c => c.kind != 0) < (Ag A i).length then (Ag A i).findIdx (λ c => c.kind != 0) else (Ag A i).length - 1
def Eb (A : List Int) (i : Nat) : Bool := (Ag A i).all λ c => c.kind == 0
def Dc (A : List Int) (x kind count arg : Int) (past : Bool) : Ld :=
 let s := Bg A x past
 let i := Cj A (s : Int) past
 let n := (Ag A i).length
 let c := Du (Ag A i) (s : Int)
 let most := if past then n else n - 1
 let k := kOf count
 if kind = 1 then (if c = 0 then noP 80 else Dq A (Bf A i ((c : Int) - k)) 0) else
 if kind = 2 then (if c = most then noP 80 else Dq A (Bf A i (min ((c : Int) + k) most)) 0) else
 if kind = 3 then Dq A (Aw A i).from_ 0 else
 if kind = 4 then Dq A (Bf A i (Nz A i)) 0 else
 if kind = 5 then
  let j := if i < lnN A - 1 /\ 1 < k then min (i + k - 1) (lnN A - 1) else i
  (((Bf A j (((Ag A j).length : Int) - 1) : Nat), 1, 100000), 0) else
 if kind = 6 then Dq A (Bf A i (min ((k : Int) - 1) most)) 0 else
 if kind = 7 \/ kind = 9 then (match Gw (Ag A i) arg (upL n c) k with
  | none => noP 80
  | some j => Dq A (Bf A i (if kind = 9 then (j : Int) - 1 else j)) 1) else
 if kind = 8 \/ kind = 10 then (match Gw (Ag A i) arg (Ol c) k with
  | none => noP 80
  | some j => Dq A (Bf A i (if kind = 10 then (j : Int) + 1 else j)) 0) else noP 1
def rowP (A : List Int) (i : Nat) : List (Nat × Nat) := if (Ag A i).length = 0 then [(i, 0)] else (List.range (Ag A i).length).map λ c => (i, c)
def Ax3 (A : List Int) : List (Nat × Nat) := (List.range (lnN A)).flatMap (rowP A)
def Ec (A : List Int) (p : Nat × Nat) : Nat := Bf A p.1 (p.2 : Int)
def Yf (C : List Cel) (j : Nat) (big : Bool) : Nat := if big then min ((C[j]?.map (·.kind)).getD 0) 1 else (C[j]?.map (·.kind)).getD 0
def Kz (A : List Int) : Nat := Bf A (lnN A - 1) (((Ag A (lnN A - 1)).length : Int) - 1)
def sortB (c : Cel) : Option Nat := if c.alone = false then none else if c.atom = 40 then some 0 else if c.atom = 91 then some 1 else if c.atom = 123 then some 2 else if c.atom = 41 then some 3 else if c.atom = 93 then some 4 else if c.atom = 125 then some 5 else none
def Ql (A : List Int) (p : Nat × Nat) : Option Nat := ((Ag A p.1)[p.2]?).bind sortB
def Dk (own : Nat) : List ((Nat × Nat) × Nat) -> Nat -> Option (Nat × Nat)
 | [], _ => none
 | (p, b) :: r, d => if b % 3 ≠ own % 3 then Dk own r d else if b = own then Dk own r (d + 1) else if d = 1 then some p else Dk own r (d - 1)
def Fv (A : List Int) : List ((Nat × Nat) × Nat) := (Ax3 A).filterMap λ p => (Ql A p).map λ b => (p, b)
def Md (A : List Int) (s i : Nat) : Option Nat :=
 match (Fv A).findIdx? λ q => q.1.1 == i && decide (s <= Ec A q.1) with
 | none => none
 | some m => match (Fv A)[m]? with
  | none => none
  | some q => (Dk q.2 (if q.2 < 3 then (Fv A).drop (m + 1) else ((Fv A).take m).reverse) 1).map (Ec A)
def Gq (A : List Int) (x kind count : Int) : Ld :=
 let s := Bg A x false
 let i := Cj A (s : Int) false
 let k := kOf count
 if kind = 31 then (match ((upL (lnN A) i).filter λ j => Eb A j && !Eb A (j - 1))[k - 1]? with
  | some j => Dq A (Aw A j).from_ 0
  | none => if Kz A = s then noP 80 else Dq A (Kz A) 1) else
 if kind = 32 then (match ((Ol i).filter λ j => Eb A j && !Eb A (j + 1))[k - 1]? with
  | some j => Dq A (Aw A j).from_ 0
  | none => if s = 0 then noP 80 else Dq A 0 0) else
 if kind = 33 then (match Md A s i with
  | some to => Dq A to 1
  | none => noP 80) else noP 1
end Mot
namespace Mot
variable {A : List Int} {i : Nat}
theorem Vg (h : i <= brs A) : Ky A i = some (Aw A i) := by
 obtain ⟨l, hl⟩ := Bi4 h
 unfold Aw; rw [hl]; rfl
theorem Bz (h : i <= brs A) : Cp4 A i (Aw A i) := Bw1 (Vg h)
theorem Lc (A : List Int) : brs A <= A.length := by rw [Jm]; exact As1 _ _
theorem Bl (A : List Int) : 1 <= lnN A /\ lnN A <= brs A + 1 := by
 unfold lnN
 by_cases h : ended A = true
 ·rw [if_pos h]
  unfold ended at h
  rw [Bool.and_eq_true, decide_eq_true_eq, beq_iff_eq] at h
  refine ⟨?_, by omega⟩
  rcases Nat.eq_zero_or_pos (brs A) with q | q
  ·rw [q, Aj9] at h
   have := Option.some.inj h.2
   omega
  ·omega
 ·rw [if_neg h]; omega
theorem Bw2 (A : List Int) : brs A <= lnN A := by unfold lnN; omega
theorem Ns (A : List Int) (n : Nat) : nb A n <= brs A := by
 rw [Jm]
 rcases Nat.lt_or_ge n A.length with h | h
 ·exact Jv A _ _ (by omega)
 ·rw [Z5 A n h, ← Jm]; exact Nat.le_refl _
theorem Bc8 (A : List Int) (x : Int) : inT A x <= A.length := by unfold inT; omega
theorem Xj {A : List Int} {n : Nat} (h : n <= A.length) : inT A (n : Int) = n := by unfold inT; omega
theorem Zm (A : List Int) (x : Int) : ofI A x <= brs A := Ns A _
theorem Ru (A : List Int) (x : Int) (tail : Bool) : Cj A x tail <= brs A := by
 unfold Cj
 split
 ·exact Zm A x
 ·have := Zm A x; omega
theorem Ib (A : List Int) (i : Nat) : Chain (Ag A i) := Be8 _ _
theorem Xw (h : i <= brs A) : ((A.drop (Aw A i).from_).take ((Aw A i).to_ - (Aw A i).from_)).length = (Aw A i).to_ - (Aw A i).from_ := by
 have ok := Bz h
 have := ok.ft; have := ok.tn; have := ok.nl
 rw [List.length_take, List.length_drop]; omega
theorem X6 {c : Cel} (hc : (Ag A i)[0]? = some c) : c.from_ = (Aw A i).from_ := Be7 hc
theorem Af5 (h : i <= brs A) {c : Cel} {m : Nat} (hc : (Ag A i)[m]? = some c) (hm : m + 1 = (Ag A i).length) : c.to_ = (Aw A i).to_ := by
 have := Bq9 hc hm
 rw [Xw h] at this
 have := (Bz h).ft
 omega
theorem Vh (h : i <= brs A) {c : Cel} {m : Nat} (hc : (Ag A i)[m]? = some c) : (Aw A i).from_ <= c.from_ /\ c.from_ < c.to_ /\ c.to_ <= (Aw A i).to_ := by
 obtain ⟨ci, cj, _, _, q⟩ := Un (Bz h).ft (by have := (Bz h).tn; have := (Bz h).nl; omega) hc
 have := q.from_; have := q.to_; have := q.le; have := q.lt
 omega
theorem Iy (h : i <= brs A) : (Ag A i).length <= (Aw A i).to_ - (Aw A i).from_ := by
 have := Ci2 ((A.drop (Aw A i).from_).take ((Aw A i).to_ - (Aw A i).from_)) (Aw A i).from_
 rw [Xw h] at this; exact this
theorem X5 (h : i <= brs A) : (Ag A i).length = 0 ↔ (Aw A i).from_ = (Aw A i).to_ := by
 have ft := (Bz h).ft
 constructor
 ·intro h0
  have hl := Rh ((A.drop (Aw A i).from_).take ((Aw A i).to_ - (Aw A i).from_)) (Aw A i).from_
  have hcl := D5 ((A.drop (Aw A i).from_).take ((Aw A i).to_ - (Aw A i).from_))
  have hch := D6 ((A.drop (Aw A i).from_).take ((Aw A i).to_ - (Aw A i).from_))
  have hl2 : (cuts ((A.drop (Aw A i).from_).take ((Aw A i).to_ - (Aw A i).from_))).length - 1 = 0 := by rw [← hl]; exact h0
  rw [hl2, hch, Xw h] at hcl
  have := Option.some.inj hcl
  omega
 ·intro he
  have := Iy h
  omega
theorem Dy {C : List Cel} {j : Nat} (h : j < C.length) : ∃ c, C[j]? = some c := ⟨_, List.getElem?_eq_getElem h⟩
theorem Eh {c : Nat} (hc : c < (Ag A i).length) : Bf A i (c : Int) = frm (Ag A i) c := by
 unfold Bf; rw [Int.toNat_natCast, if_pos hc]
theorem Gp {c : Int} (hc : (Ag A i).length <= c.toNat) : Bf A i c = (Aw A i).to_ := by
 unfold Bf; rw [if_neg (by omega)]
theorem Ji {c : Int} (hc : c <= 0) : Bf A i c = Bf A i 0 := by
 unfold Bf
 rw [show c.toNat = 0 by omega]; rfl
theorem Jr (h : i <= brs A) (c : Int) : (Aw A i).from_ <= Bf A i c /\ Bf A i c <= (Aw A i).to_ := by
 have ft := (Bz h).ft
 unfold Bf
 by_cases hc : c.toNat < (Ag A i).length
 ·obtain ⟨x, hx⟩ := Dy hc
  rw [if_pos hc, Ht hx]
  have := Vh h hx
  omega
 ·rw [if_neg hc]; omega
theorem Ar4 (h : i <= brs A) : Bf A i 0 = (Aw A i).from_ := by
 by_cases h0 : (Ag A i).length = 0
 ·rw [Gp (by omega)]
  exact ((X5 h).1 h0).symm
 ·obtain ⟨x, hx⟩ := Dy (C := Ag A i) (j := 0) (by omega)
  have := Eh (A := A) (i := i) (c := 0) (by omega)
  rw [show ((0 : Nat) : Int) = 0 from rfl] at this
  rw [this, Ht hx]
  exact X6 hx
theorem Ox (h : i <= brs A) {c d : Nat} (hcd : c < d) (hd : d <= (Ag A i).length) : Bf A i (c : Int) < Bf A i (d : Int) := by
 obtain ⟨x, hx⟩ := Dy (C := Ag A i) (j := c) (by omega)
 rw [Eh (by omega), Ht hx]
 by_cases hd2 : d < (Ag A i).length
 ·obtain ⟨y, hy⟩ := Dy hd2
  rw [Eh hd2, Ht hy]
  have := (Ib A i).lt hcd hx hy
  have := (Ib A i).pos _ x hx
  omega
 ·rw [Gp (by omega)]
  have := Vh h hx
  omega
theorem Vr (h : i <= brs A) {c : Nat} (hc : c <= (Ag A i).length) : Du (Ag A i) (Bf A i (c : Int) : Int) = c := by
 refine Zy hc (λ j x hj hx => ?_) λ x hx => ?_
 ·have hle : x.to_ <= Bf A i (c : Int) := by
   by_cases hc2 : c < (Ag A i).length
   ·obtain ⟨y, hy⟩ := Dy hc2
    rw [Eh hc2, Ht hy]
    exact (Ib A i).lt hj hx hy
   ·rw [Gp (by omega)]
    exact (Vh h hx).2.2
  omega
 ·have hlt := (List.getElem?_eq_some_iff.1 hx).1
  rw [Eh hlt, Ht hx]
  have := (Ib A i).pos _ x hx
  omega
theorem Ob {j : Nat} (hij : i < j) (hj : j <= brs A) : (Aw A i).next <= (Aw A j).from_ := by
 induction j with
 | zero => omega
 | succ j ih =>
  have h1 := Vg (A := A) (i := j) (by omega)
  have h2 := Vg (A := A) hj
  have hs := (Qx h2).2
  have hst := ((Bw1 h1).brk _ hs).1
  by_cases he : i = j
  ·subst he; omega
  ·have := ih (by omega) (by omega)
   have ok := Bz (A := A) (i := j) (by omega)
   have := ok.ft; have := ok.tn
   omega
theorem row_of {n : Nat} (hn : n <= A.length) : (Aw A (nb A n)).from_ <= n /\ (n < (Aw A (nb A n)).next \/ (nb A n = brs A /\ (Aw A (nb A n)).next = A.length)) := by
 obtain ⟨l, hl, h1, h2⟩ := Cr5 A hn
 have : Aw A (nb A n) = l := by unfold Aw; rw [hl]; rfl
 rw [this]
 refine ⟨h1, h2.imp id λ ⟨hs, h3⟩ => ⟨?_, h3⟩⟩
 have hb := Ns A n
 rcases Nat.lt_or_ge (nb A n) (brs A) with q | q
 ·obtain ⟨x, hx⟩ := Af0 (A := A) (k := nb A n + 1) (by omega)
  rw [hx] at hs; cases hs
 ·omega
theorem Ck1 (h : i <= brs A) {n : Nat} (h1 : (Aw A i).from_ <= n) (h2 : n <= (Aw A i).to_) : nb A n = i := by
 have ok := Bz h
 have := ok.tn; have := ok.nl
 rcases Nat.lt_or_ge n (Aw A i).next with q | q
 ·exact ok.nbf n h1 q
 ·have hn : n = (Aw A i).next /\ n = (Aw A i).to_ := by omega
  cases hx : sk A (i + 1) with
  | none =>
   obtain ⟨_, h3, h4⟩ := ok.tail hx
   by_cases hf : (Aw A i).from_ < n
   ·have h5 := ok.nbf (n - 1) (by omega) (by omega)
    have h6 := Pg A (n - 1)
    have hno : isb A (n - 1) = false := by
     obtain ⟨a, ha⟩ : ∃ a, A[n - 1]? = some a := ⟨_, List.getElem?_eq_getElem (by omega)⟩
     have hp := ok.plain (n - 1) a (by omega) (by omega) ha
     cases hb : isb A (n - 1) with
     | false => rfl
     | true =>
      rcases (Iq ha).1 hb with q | q
      ·exact absurd q hp.1
      ·exact absurd q.1 hp.2
    rw [hno, show n - 1 + 1 = n by omega] at h6
    simp at h6
    omega
   ·have : n = (Aw A i).from_ := by omega
    rw [this]; exact ok.nbF
  | some x =>
   have := (ok.brk x hx).2.1
   omega
theorem Ar8 (h : i <= brs A) (c : Int) : nb A (Bf A i c) = i := Ck1 h (Jr h c).1 (Jr h c).2
theorem Oe (h : i <= brs A) (c : Int) : Bf A i c <= A.length := by
 have := (Jr h c).2
 have ok := Bz h
 have := ok.tn; have := ok.nl
 omega
theorem Vk (h : i <= brs A) (c : Int) : ofI A (Bf A i c : Int) = i := by
 unfold ofI
 rw [Xj (Oe h c)]; exact Ar8 h c
end Mot
namespace Mot
variable {A : List Int} {p q : Nat × Nat}
def Ja (A : List Int) (p : Nat × Nat) : Option (Nat × Nat) := if p.2 + 1 < (Ag A p.1).length then some (p.1, p.2 + 1) else if lnN A <= p.1 + 1 then none else some (p.1 + 1, 0)
def Lm (A : List Int) (p : Nat × Nat) : Option (Nat × Nat) := if 0 < p.2 then some (p.1, p.2 - 1) else if p.1 = 0 then none else some (p.1 - 1, (Ag A (p.1 - 1)).length - 1)
def aft (A : List Int) (p : Nat × Nat) : List (Nat × Nat) := ((List.range' (p.2 + 1) ((Ag A p.1).length - (p.2 + 1))).map λ c => (p.1, c)) ++ (List.range' (p.1 + 1) (lnN A - (p.1 + 1))).flatMap (rowP A)
def bef (A : List Int) (p : Nat × Nat) : List (Nat × Nat) := ((List.range p.2).reverse.map λ c => (p.1, c)) ++ (List.range p.1).reverse.flatMap λ i => (rowP A i).reverse
theorem Bm6 (A : List Int) (i : Nat) : rowP A i = (i, 0) :: (List.range' 1 ((Ag A i).length - 1)).map λ c => (i, c) := by
 unfold rowP
 by_cases h : (Ag A i).length = 0
 ·rw [if_pos h, h]; rfl
 ·rw [if_neg h]
  obtain ⟨n, hn⟩ : ∃ n, (Ag A i).length = n + 1 := ⟨(Ag A i).length - 1, by omega⟩
  rw [hn, List.range_eq_range', List.range'_succ, List.map_cons]; rfl
theorem Bt4 (A : List Int) (i : Nat) : (rowP A i).reverse = (i, (Ag A i).length - 1) :: (List.range ((Ag A i).length - 1)).reverse.map λ c => (i, c) := by
 unfold rowP
 by_cases h : (Ag A i).length = 0
 ·rw [if_pos h, h]; rfl
 ·rw [if_neg h]
  obtain ⟨n, hn⟩ : ∃ n, (Ag A i).length = n + 1 := ⟨(Ag A i).length - 1, by omega⟩
  rw [hn, List.range_succ, List.map_append, List.reverse_append, Nat.add_sub_cancel, List.map_reverse]; rfl
theorem Ut (h : Ja A p = some q) : aft A p = q :: aft A q := by
 unfold Ja at h
 unfold aft
 split at h
 ·rename_i hc
  cases h
  obtain ⟨n, hn⟩ : ∃ n, (Ag A p.1).length - (p.2 + 1) = n + 1 := ⟨(Ag A p.1).length - (p.2 + 1) - 1, by omega⟩
  rw [hn, List.range'_succ, List.map_cons, List.cons_append]
  dsimp only
  rw [show (Ag A p.1).length - (p.2 + 1 + 1) = n by omega]
 ·rename_i hc
  split at h
  ·cases h
  ·rename_i hl
   cases h
   rw [show (Ag A p.1).length - (p.2 + 1) = 0 by omega]
   obtain ⟨n, hn⟩ : ∃ n, lnN A - (p.1 + 1) = n + 1 := ⟨lnN A - (p.1 + 1) - 1, by omega⟩
   rw [hn, List.range'_succ, List.flatMap_cons, Bm6]
   dsimp only
   rw [show lnN A - (p.1 + 1 + 1) = n by omega]
   simp
theorem Ac9 (h : Ja A p = none) : aft A p = [] := by
 unfold Ja at h
 unfold aft
 split at h
 ·cases h
 ·rename_i hc
  split at h
  ·rename_i hl
   rw [show (Ag A p.1).length - (p.2 + 1) = 0 by omega, show lnN A - (p.1 + 1) = 0 by omega]; rfl
  ·cases h
theorem Ac6 (h : Lm A p = some q) : bef A p = q :: bef A q := by
 unfold Lm at h
 unfold bef
 split at h
 ·rename_i hc
  cases h
  obtain ⟨n, hn⟩ : ∃ n, p.2 = n + 1 := ⟨p.2 - 1, by omega⟩
  rw [hn, List.range_succ, List.reverse_append]
  simp
 ·rename_i hc
  split at h
  ·cases h
  ·rename_i hl
   cases h
   obtain ⟨n, hn⟩ : ∃ n, p.1 = n + 1 := ⟨p.1 - 1, by omega⟩
   rw [show p.2 = 0 by omega, hn, List.range_succ, List.reverse_append, Nat.add_sub_cancel]
   show ([] : List (Nat × Nat)) ++ (n :: (List.range n).reverse).flatMap _ = _
   rw [List.nil_append, List.flatMap_cons, Bt4]
   simp
theorem Aw6 (h : Lm A p = none) : bef A p = [] := by
 unfold Lm at h
 unfold bef
 split at h
 ·cases h
 ·rename_i hc
  split at h
  ·rename_i hl
   rw [show p.2 = 0 by omega, hl]; rfl
  ·cases h
structure On (A : List Int) (p : Nat × Nat) : Prop where
 row : p.1 <= brs A
 col : p.2 <= (Ag A p.1).length
theorem Uk (h : On A p) (hq : Ja A p = some q) : On A q /\ q.1 < lnN A /\ (q.2 < (Ag A q.1).length \/ ((Ag A q.1).length = 0 /\ q.2 = 0)) /\ p.1 <= q.1 := by
 have hb := Bl A
 have hg := Bw2 A
 have hr := h.row
 unfold Ja at hq
 split at hq
 ·rename_i hc
  cases hq
  refine ⟨⟨h.row, by dsimp only; omega⟩, ?_, .inl hc, Nat.le_refl _⟩
  dsimp only
  rcases Nat.lt_or_ge p.1 (lnN A) with u | u
  ·exact u
  ·exfalso
   have hp : p.1 = lnN A /\ lnN A = brs A := by omega
   have := tail_len (A := A) (by omega)
   rw [hp.1, hp.2] at hc
   omega
 ·split at hq
  ·cases hq
  ·rename_i hl
   cases hq
   refine ⟨⟨by dsimp only; omega, Nat.zero_le _⟩, by dsimp only; omega, ?_, by dsimp only; omega⟩
   dsimp only
   rcases Nat.eq_zero_or_pos (Ag A (p.1 + 1)).length with u | u
   ·exact .inr ⟨u, rfl⟩
   ·exact .inl u
where
  tail_len {A : List Int} (h : lnN A = brs A) : (Ag A (brs A)).length = 0 := by
    rw [X5 (Nat.le_refl _)]
    unfold lnN at h
    have he : ended A = true := by
      by_cases h1 : ended A = true
      · exact h1
      · rw [if_neg h1] at h; omega
    unfold ended at he
    rw [Bool.and_eq_true, beq_iff_eq] at he
    have hf := (Qx (Vg (A := A) (Nat.le_refl _))).2
    rw [he.2] at hf
    have e1 := Option.some.inj hf
    have ok := Bz (A := A) (i := brs A) (Nat.le_refl _)
    have := ok.ft; have := ok.tn; have := ok.nl
    omega
theorem tail_nil {A : List Int} (h : lnN A = brs A) : (Ag A (brs A)).length = 0 := Uk.tail_len h
structure Plc (A : List Int) (p : Nat × Nat) : Prop where
 row : p.1 < lnN A
 col : p.2 < (Ag A p.1).length \/ ((Ag A p.1).length = 0 /\ p.2 = 0)
theorem Plc.on (h : Plc A p) : On A p := ⟨by have := Bl A; have := h.row; omega, by have := h.col; omega⟩
theorem Lr {i : Nat} : q ∈ rowP A i ↔ q.1 = i /\ (q.2 < (Ag A i).length \/ ((Ag A i).length = 0 /\ q.2 = 0)) := by
 unfold rowP
 by_cases h : (Ag A i).length = 0
 ·rw [if_pos h, List.mem_singleton]
  constructor
  ·rintro rfl; exact ⟨rfl, .inr ⟨h, rfl⟩⟩
  ·rintro ⟨h1, h2⟩
   rcases h2 with h2 | h2
   ·omega
   ·exact Prod.ext h1 h2.2
 ·rw [if_neg h, List.mem_map]
  constructor
  ·rintro ⟨c, hc, rfl⟩
   exact ⟨rfl, .inl (List.mem_range.1 hc)⟩
  ·rintro ⟨h1, h2⟩
   refine ⟨q.2, List.mem_range.2 (by omega), ?_⟩
   rw [← h1]
theorem Am0 : q ∈ aft A p ↔ (q.1 = p.1 /\ p.2 < q.2 /\ q.2 < (Ag A p.1).length) \/ (p.1 < q.1 /\ q.1 < lnN A /\ (q.2 < (Ag A q.1).length \/ ((Ag A q.1).length = 0 /\ q.2 = 0))) := by
 unfold aft
 rw [List.mem_append, List.mem_map, List.mem_flatMap]
 constructor
 ·rintro (⟨c, hc, rfl⟩ | ⟨i, hi, hq⟩)
  ·rw [List.mem_range'_1] at hc
   exact .inl ⟨rfl, by dsimp only; omega, by dsimp only; omega⟩
  ·rw [List.mem_range'_1] at hi
   obtain ⟨h1, h2⟩ := Lr.1 hq
   subst h1
   exact .inr ⟨by omega, by omega, h2⟩
 ·rintro (⟨h1, h2, h3⟩ | ⟨h1, h2, h3⟩)
  ·refine .inl ⟨q.2, by rw [List.mem_range'_1]; omega, ?_⟩
   rw [← h1]
  ·exact .inr ⟨q.1, by rw [List.mem_range'_1]; omega, Lr.2 ⟨rfl, h3⟩⟩
theorem Cf1 : q ∈ bef A p ↔ (q.1 = p.1 /\ q.2 < p.2) \/ (q.1 < p.1 /\ (q.2 < (Ag A q.1).length \/ ((Ag A q.1).length = 0 /\ q.2 = 0))) := by
 unfold bef
 rw [List.mem_append, List.mem_map, List.mem_flatMap]
 constructor
 ·rintro (⟨c, hc, rfl⟩ | ⟨i, hi, hq⟩)
  ·rw [List.mem_reverse, List.mem_range] at hc
   exact .inl ⟨rfl, hc⟩
  ·rw [List.mem_reverse, List.mem_range] at hi
   rw [List.mem_reverse] at hq
   obtain ⟨h1, h2⟩ := Lr.1 hq
   subst h1
   exact .inr ⟨hi, h2⟩
 ·rintro (⟨h1, h2⟩ | ⟨h1, h2⟩)
  ·refine .inl ⟨q.2, by rw [List.mem_reverse, List.mem_range]; exact h2, ?_⟩
   rw [← h1]
  ·exact .inr ⟨q.1, by rw [List.mem_reverse, List.mem_range]; exact h1, by rw [List.mem_reverse]; exact Lr.2 ⟨rfl, h2⟩⟩
theorem H6 (hp : On A p) (hq : On A q) (h : p.1 < q.1) : Ec A p < Ec A q := by
 have h1 := (Jr hp.row (p.2 : Int)).2
 have h2 := (Jr hq.row (q.2 : Int)).1
 have h3 := Ob h hq.row
 have hr := hq.row
 obtain ⟨x, hx⟩ := Af0 (A := A) (k := p.1 + 1) (by omega)
 have := ((Bz hp.row).brk x hx).2.1
 unfold Ec; omega
theorem Zl (hp : On A p) (hq : On A q) (h : p.1 < q.1 \/ (p.1 = q.1 /\ p.2 < q.2)) : Ec A p < Ec A q := by
 rcases h with h | ⟨h1, h2⟩
 ·exact H6 hp hq h
 ·unfold Ec
  rw [h1]
  exact Ox hq.row h2 hq.col
theorem Cj1 (hp : On A p) (hq : q ∈ aft A p) : Ec A p < Ec A q := by
 have hb := Bl A
 rcases Am0.1 hq with ⟨h1, h2, h3⟩ | ⟨h1, h2, h3⟩
 ·exact Zl hp ⟨by rw [h1]; exact hp.row, by rw [h1]; omega⟩ (.inr ⟨h1.symm, h2⟩)
 ·exact Zl hp ⟨by omega, by omega⟩ (.inl h1)
theorem Ci7 (hp : On A p) (hq : q ∈ bef A p) : Ec A q < Ec A p := by
 have hr := hp.row
 rcases Cf1.1 hq with ⟨h1, h2⟩ | ⟨h1, h2⟩
 ·exact Zl ⟨by omega, by rw [h1]; have := hp.col; omega⟩ hp (.inr ⟨h1, h2⟩)
 ·exact Zl ⟨by omega, by omega⟩ hp (.inl h1)
theorem Bd4 (A : List Int) {i n : Nat} (h : i < n) : (List.range n).flatMap (rowP A) = (List.range i).flatMap (rowP A) ++ (rowP A i ++ (List.range' (i + 1) (n - (i + 1))).flatMap (rowP A)) := by
 have e : List.range n = List.range i ++ (i :: List.range' (i + 1) (n - (i + 1))) := by
  rw [List.range_eq_range', List.range_eq_range', ← List.range'_succ]
  have := @List.range'_append_1 0 i (n - (i + 1) + 1)
  rw [Nat.zero_add] at this
  rw [this]
  congr 1; omega
 rw [e, List.flatMap_append, List.flatMap_cons]
theorem Cb2 (A : List Int) (i : Nat) : ((List.range i).reverse.flatMap λ i => (rowP A i).reverse).reverse = (List.range i).flatMap (rowP A) := by
 induction i with
 | zero => rfl
 | succ i ih =>
  rw [List.range_succ, List.reverse_append, List.flatMap_append]
  show (([i].reverse).flatMap _ ++ _).reverse = _
  rw [List.flatMap_append, List.reverse_append, ih]
  simp
theorem D9 (h : Plc A p) : Ax3 A = (bef A p).reverse ++ p :: aft A p := by
 unfold Ax3
 rw [Bd4 A h.row]
 unfold bef aft
 rw [List.reverse_append, Cb2, List.append_assoc]
 congr 1
 rw [← List.cons_append, ← List.append_assoc]
 congr 1
 unfold rowP
 rcases h.col with hc | ⟨hc, h0⟩
 ·rw [if_neg (by omega), List.map_reverse, List.reverse_reverse]
  have e : List.range (Ag A p.1).length = List.range p.2 ++ (p.2 :: List.range' (p.2 + 1) ((Ag A p.1).length - (p.2 + 1))) := by
   rw [List.range_eq_range', List.range_eq_range', ← List.range'_succ]
   have := @List.range'_append_1 0 p.2 ((Ag A p.1).length - (p.2 + 1) + 1)
   rw [Nat.zero_add] at this
   rw [this]
   congr 1; omega
  rw [e, List.map_append, List.map_cons]
 ·rw [if_pos hc, hc, h0]
  show [(p.1, 0)] = _
  have : p = (p.1, 0) := Prod.ext rfl h0
  simp [← this]
end Mot
namespace Mot
variable {A : List Int} {p q : Nat × Nat}
theorem Au1 {i n : Nat} (h : i <= brs A) (h1 : (Aw A i).from_ <= n) (h2 : n < (Aw A i).to_) : Du (Ag A i) (n : Int) < (Ag A i).length /\ Bf A i ((Du (Ag A i) (n : Int) : Nat) : Int) <= n := by
 obtain ⟨s1, s2⟩ := Po (C := Ag A i) (at_ := (n : Int))
 have hle := Zx (Ag A i) (n : Int)
 have hlt : Du (Ag A i) (n : Int) < (Ag A i).length := by
  rcases Nat.lt_or_ge (Du (Ag A i) (n : Int)) (Ag A i).length with q | q
  ·exact q
  ·exfalso
   have hn : (Ag A i).length ≠ 0 := λ h0 => by have := (X5 h).1 h0; omega
   obtain ⟨z, hz⟩ := Dy (C := Ag A i) (j := (Ag A i).length - 1) (by omega)
   have := s1 _ z (by omega) hz
   have := Af5 h hz (by omega)
   omega
 refine ⟨hlt, ?_⟩
 rw [Eh hlt]
 obtain ⟨c, hc⟩ := Dy hlt
 rw [Ht hc]
 cases hf : Du (Ag A i) (n : Int) with
 | zero =>
  rw [hf] at hc
  have := X6 hc
  omega
 | succ m =>
  rw [hf] at hc
  obtain ⟨d, hd⟩ := Dy (C := Ag A i) (j := m) (by omega)
  have := s1 m d (by omega) hd
  have := (Ib A i).next m d c hd hc
  omega
theorem Yr (A : List Int) (x : Int) (past : Bool) : ∃ c : Nat, c <= (Ag A (Cj A x past)).length /\ (past = false -> c < (Ag A (Cj A x past)).length \/ (Ag A (Cj A x past)).length = 0) /\ Bg A x past = Bf A (Cj A x past) (c : Int) := by
 have hi := Ru A x past
 unfold Bg
 by_cases h : (Aw A (Cj A x past)).to_ <= inT A x
 ·rw [if_pos h]
  cases past with
  | true => exact ⟨_, Nat.le_refl _, (λ h => by cases h), by rw [if_pos rfl]; exact (Gp (by omega)).symm⟩
  | false =>
   rw [if_neg (by decide)]
   refine ⟨(Ag A (Cj A x false)).length - 1, by omega, λ _ => by omega, ?_⟩
   rcases Nat.eq_zero_or_pos (Ag A (Cj A x false)).length with u | u
   ·rw [u]
    exact Ji (by omega)
   ·rw [show ((Ag A (Cj A x false)).length : Int) - 1 = (((Ag A (Cj A x false)).length - 1 : Nat) : Int) by omega]
 ·rw [if_neg h]
  have hf : (Aw A (Cj A x past)).from_ <= inT A x := by
   have hro := (row_of (A := A) (Bc8 A x)).1
   unfold Cj at h ⊢
   cases past with
   | true => exact hro
   | false =>
    rw [if_neg (by decide)] at h ⊢
    rcases Nat.lt_or_ge (lnN A - 1) (ofI A x) with u | u
    ·exfalso
     rw [Nat.min_eq_right (by omega)] at h
     have hb := Bl A
     have hro2 := Ob (A := A) (i := lnN A - 1) (j := ofI A x) u (Zm A x)
     have ok := Bz (A := A) (i := lnN A - 1) (by omega)
     have := ok.tn
     unfold ofI at hro2
     omega
    ·rw [Nat.min_eq_left u]; exact hro
  obtain ⟨g1, g2⟩ := Au1 hi hf (by omega)
  exact ⟨_, by omega, λ _ => .inl g1, rfl⟩
def Aq (A : List Int) (x : Int) (past : Bool) : Nat × Nat := (Cj A x past, Du (Ag A (Cj A x past)) (Bg A x past : Int))
theorem Gg (A : List Int) (x : Int) (past : Bool) : Cj A (Bg A x past : Int) past = Cj A x past := by
 obtain ⟨c, _, _, hc⟩ := Yr A x past
 have hi := Ru A x past
 rw [hc]
 have ho := Vk hi (c : Int)
 show (if past then ofI A _ else min (ofI A _) (lnN A - 1)) = _
 rw [ho]
 cases past with
 | true => rfl
 | false =>
  rw [if_neg (by decide)]
  unfold Cj
  rw [if_neg (by decide)]; omega
theorem Y2 (A : List Int) (x : Int) (past : Bool) : On A (Aq A x past) /\ Ec A (Aq A x past) = Bg A x past /\ (past = false -> Plc A (Aq A x past)) := by
 obtain ⟨c, h1, h2, hc⟩ := Yr A x past
 have hi := Ru A x past
 have hcol : Du (Ag A (Cj A x past)) (Bg A x past : Int) = c := by rw [hc]; exact Vr hi h1
 unfold Aq
 rw [hcol]
 refine ⟨⟨hi, h1⟩, hc.symm, λ hp => ⟨?_, ?_⟩⟩
 ·subst hp
  have hb := Bl A
  show Cj A x false < _
  unfold Cj
  rw [if_neg (by decide)]; omega
 ·rcases h2 hp with q | q
  ·exact .inl q
  ·exact .inr ⟨q, by dsimp only at h1 ⊢; omega⟩
theorem Bz3 (A : List Int) (x : Int) (past : Bool) : Bg A x past <= A.length := by
 obtain ⟨c, _, _, hc⟩ := Yr A x past
 rw [hc]; exact Oe (Ru A x past) _
theorem Bz2 {i c : Nat} (h : i <= brs A) (hc : c <= (Ag A i).length) : Bg A (Bf A i (c : Int) : Int) true = Bf A i (c : Int) := by
 have hr : Cj A (Bf A i (c : Int) : Int) true = i := by unfold Cj; rw [if_pos rfl]; exact Vk h _
 unfold Bg
 rw [hr, Xj (Oe h _), if_pos rfl]
 by_cases hl : (Aw A i).to_ <= Bf A i (c : Int)
 ·rw [if_pos hl]
  have := (Jr h (c : Int)).2; omega
 ·rw [if_neg hl, Vr h hc]
theorem Bz4 {i c : Nat} (h : i < lnN A) (hc : c < (Ag A i).length \/ ((Ag A i).length = 0 /\ c = 0)) : Bg A (Bf A i (c : Int) : Int) false = Bf A i (c : Int) := by
 have hb := Bl A
 have hi : i <= brs A := by omega
 have hr : Cj A (Bf A i (c : Int) : Int) false = i := by unfold Cj; rw [if_neg (by decide), Vk hi]; omega
 unfold Bg
 rw [hr, Xj (Oe hi _), if_neg (show ¬ (false = true) by decide)]
 rcases hc with hc | ⟨h0, rfl⟩
 ·have h1 := Ox hi hc (Nat.le_refl _)
  rw [Gp (c := ((Ag A i).length : Int)) (by omega)] at h1
  rw [if_neg (by omega), Vr hi (by omega)]
 ·have e1 : Bf A i ((0 : Nat) : Int) = (Aw A i).to_ := Gp (by omega)
  rw [e1, if_pos (Nat.le_refl _), h0, Ji (by omega)]
  exact e1
end Mot
namespace Mot
variable {A : List Int} {p q : Nat × Nat}
def Stand (A : List Int) (n : Nat) (past : Bool) : Prop := ∃ p, On A p /\ Ec A p = n /\ (past = false -> Plc A p)
theorem Aq1 (A : List Int) (x : Int) (past : Bool) : Stand A (Bg A x past) past := by
 obtain ⟨h1, h2, h3⟩ := Y2 A x past
 exact ⟨_, h1, h2, h3⟩
theorem Stand.clamp {n : Nat} {past : Bool} (h : Stand A n past) : Bg A (n : Int) past = n := by
 obtain ⟨⟨i, c⟩, h1, rfl, h3⟩ := h
 cases past with
 | true => exact Bz2 h1.row h1.col
 | false => exact Bz4 (h3 rfl).row (h3 rfl).col
theorem Ce2 (A : List Int) (x : Int) : Cj A x false < lnN A := by
 have := Bl A
 unfold Cj
 rw [if_neg (by decide)]; omega
theorem Bt1 (A : List Int) (i : Nat) : Nz A i < (Ag A i).length \/ (Ag A i).length = 0 := by
 unfold Nz
 split
 ·left; assumption
 ·omega
theorem Af2 {C : List Cel} {a : Int} {L : List Nat} {k j : Nat} (h : Gw C a L k = some j) : j ∈ L /\ ∃ c, C[j]? = some c := by
 unfold Gw at h
 have := List.mem_of_getElem? h
 rw [List.mem_filter, decide_eq_true_eq] at this
 refine ⟨this.1, ?_⟩
 cases hc : C[j]? with
 | none => rw [hc] at this; simp at this
 | some c => exact ⟨c, rfl⟩
theorem Cf6 (c : Int) : 1 <= kOf c := by unfold kOf; split <;> omega
theorem Cn8 (c : Int) : kOf c <= 9999 := by unfold kOf; split <;> omega
theorem Bi1 : p ∈ Ax3 A ↔ Plc A p := by
 unfold Ax3
 rw [List.mem_flatMap]
 constructor
 ·rintro ⟨i, hi, hp⟩
  obtain ⟨h1, h2⟩ := Lr.1 hp
  subst h1
  exact ⟨List.mem_range.1 hi, h2⟩
 ·rintro ⟨h1, h2⟩
  exact ⟨p.1, List.mem_range.2 h1, Lr.2 ⟨rfl, h2⟩⟩
theorem Aa0 {x : (Nat × Nat) × Nat} (h : x ∈ Fv A) : Plc A x.1 /\ Ql A x.1 = some x.2 := by
 unfold Fv at h
 obtain ⟨p, hp, he⟩ := List.mem_filterMap.1 h
 obtain ⟨b, hb, rfl⟩ := Option.map_eq_some_iff.1 he
 exact ⟨Bi1.1 hp, hb⟩
end Mot
namespace Mot
variable {A : List Int}
theorem Ar9 (A : List Int) (x : Int) (past : Bool) : nb A (Bg A x past) = Cj A x past := by
 obtain ⟨c, _, _, hc⟩ := Yr A x past
 rw [hc]; exact Ar8 (Ru A x past) _
end Mot
namespace Mot
variable {A : List Int}
abbrev Bk := (Nat × Nat) × Nat
theorem Ax2 (A : List Int) : (Ax3 A).Pairwise λ p q => Ec A p < Ec A q := by
 have hb := Bl A
 unfold Ax3
 rw [List.pairwise_flatMap]
 refine ⟨λ i hi => ?_, ?_⟩
 ·rw [List.mem_range] at hi
  unfold rowP
  split
  ·exact List.pairwise_singleton _ _
  ·rw [List.pairwise_map]
   refine List.Pairwise.imp_of_mem (λ {a b} ha hc hab => ?_) List.pairwise_lt_range
   rw [List.mem_range] at ha hc
   exact Zl (p := (i, a)) (q := (i, b)) ⟨by dsimp only; omega, by dsimp only; omega⟩ ⟨by dsimp only; omega, by dsimp only; omega⟩ (.inr ⟨rfl, hab⟩)
 ·refine List.Pairwise.imp_of_mem (λ {i j} hi hj hij p hp q hq => ?_) List.pairwise_lt_range
  rw [List.mem_range] at hi hj
  obtain ⟨p1, p2⟩ := Lr.1 hp
  obtain ⟨q1, q2⟩ := Lr.1 hq
  exact Zl (by subst p1; exact (Plc.on ⟨hi, p2⟩)) (by subst q1; exact (Plc.on ⟨hj, q2⟩)) (.inl (by omega))
theorem Ai3 (A : List Int) : (Fv A).Pairwise λ x y => Ec A x.1 < Ec A y.1 := by
 unfold Fv
 rw [List.pairwise_filterMap]
 refine (Ax2 A).imp λ {p q} h x hx y hy => ?_
 obtain ⟨_, _, rfl⟩ := Option.map_eq_some_iff.1 hx
 obtain ⟨_, _, rfl⟩ := Option.map_eq_some_iff.1 hy
 exact h
theorem An0 {α : Type} {f : α -> Bool} : ∀ (l : List α) {x : α} {r : List α}, (∀ y ∈ l, f y = false) -> f x = true -> (l ++ x :: r).findIdx? f = some l.length
 | [], x, r, _, hx => by rw [List.nil_append, List.findIdx?_cons, hx]; rfl
 | y :: l, x, r, hl, hx => by
  rw [List.cons_append, List.findIdx?_cons, hl y List.mem_cons_self, An0 l (λ z hz => hl z (List.mem_cons_of_mem _ hz)) hx]; rfl
theorem Au4 {l r : List Bk} {x : Bk} (e : Fv A = l ++ x :: r) : (Fv A).findIdx? (λ q => q.1.1 == x.1.1 && decide (Ec A x.1 <= Ec A q.1)) = some l.length /\ (Fv A)[l.length]? = some x := by
 have hr := Ai3 A
 rw [e] at hr ⊢
 rw [List.pairwise_append] at hr
 refine ⟨An0 l (λ y hy => ?_) (by simp), by simp⟩
 have := hr.2.2 y hy x List.mem_cons_self
 rw [Bool.and_eq_false_iff, decide_eq_false_iff_not]
 exact .inr (by omega)
theorem Uh (A : List Int) (x count : Int) : Gq A x 33 count = match Md A (Bg A x false) (Cj A (Bg A x false : Int) false) with
  | some to => Dq A to 1
  | none => noP 80 := by
 unfold Gq
 dsimp only
 rw [if_neg (by decide), if_neg (by decide), if_pos rfl]
 all_goals (cases Md A (Bg A x false) (Cj A (Bg A x false : Int) false) <;> rfl)
end Mot
namespace Mot
variable {A : List Int}
theorem Bu1 {p : Nat × Nat} {past : Bool} (h1 : On A p) (h3 : past = false -> Plc A p) : Aq A (Ec A p : Int) past = p := by
 have hb := Bl A
 have hc : Bg A (Ec A p : Int) past = Ec A p := Stand.clamp ⟨p, h1, rfl, h3⟩
 have hr : Cj A (Ec A p : Int) past = p.1 := by
  unfold Cj Ec
  rw [Vk h1.row]
  cases past with
  | true => rfl
  | false => rw [if_neg (by decide)]; have := (h3 rfl).row; omega
 unfold Aq
 rw [hc, hr]
 unfold Ec
 rw [Vr h1.row h1.col]
def Jb (A : List Int) (i : Nat) (past : Bool) : Nat := if past then (Ag A i).length else (Ag A i).length - 1
theorem Bu2 (A : List Int) (x : Int) (past : Bool) : (Aq A x past).2 <= Jb A (Aq A x past).1 past /\ Jb A (Aq A x past).1 past <= (Ag A (Aq A x past).1).length := by
 obtain ⟨h1, _, h3⟩ := Y2 A x past
 unfold Jb
 cases past with
 | true => exact ⟨h1.col, Nat.le_refl _⟩
 | false => have := (h3 rfl).col; rw [if_neg (by decide)]; omega
theorem Bq7 (A : List Int) (x count arg : Int) (past : Bool) : Dc A x 1 count arg past = if (Aq A x past).2 = 0 then noP 80 else Dq A (Ec A ((Aq A x past).1, (Aq A x past).2 - kOf count)) 0 := by
 have e : Dc A x 1 count arg past = if Du (Ag A (Cj A (Bg A x past : Int) past)) (Bg A x past : Int) = 0 then noP 80 else Dq A (Bf A (Cj A (Bg A x past : Int) past) (((Du (Ag A (Cj A (Bg A x past : Int) past)) (Bg A x past : Int) : Nat) : Int) - kOf count)) 0 := by
  unfold Dc
  try dsimp only
  rw [if_pos rfl]
 rw [e, Gg]
 unfold Aq
 try dsimp only
 split
 ·rfl
 ·congr 1
  unfold Ec
  try dsimp only
  generalize Du (Ag A (Cj A x past)) (Bg A x past : Int) = c
  rcases Nat.le_total c (kOf count) with u | u
  ·rw [Ji (by omega), Ji (c := ((c - kOf count : Nat) : Int)) (by omega)]
  ·congr 1; omega
theorem Ai0 (A : List Int) (x count arg : Int) (past : Bool) : Dc A x 2 count arg past = if (Aq A x past).2 = Jb A (Aq A x past).1 past then noP 80 else Dq A (Ec A ((Aq A x past).1, min ((Aq A x past).2 + kOf count) (Jb A (Aq A x past).1 past))) 0 := by
 have e : Dc A x 2 count arg past = if Du (Ag A (Cj A (Bg A x past : Int) past)) (Bg A x past : Int) = Jb A (Cj A (Bg A x past : Int) past) past then noP 80 else Dq A (Bf A (Cj A (Bg A x past : Int) past) (min (((Du (Ag A (Cj A (Bg A x past : Int) past)) (Bg A x past : Int) : Nat) : Int) + kOf count) (Jb A (Cj A (Bg A x past : Int) past) past))) 0 := by
  unfold Dc
  try dsimp only
  rw [if_neg (by decide), if_pos rfl]; rfl
 rw [e, Gg]
 unfold Aq
 try dsimp only
 split
 ·rfl
 ·congr 1
  unfold Ec
  try dsimp only
  congr 1; omega
end Mot
namespace Mot
variable {A : List Int} {i : Nat}
def rowB (A : List Int) (i : Nat) : List Int := (A.drop (Aw A i).from_).take ((Aw A i).to_ - (Aw A i).from_)
def Jz (A : List Int) (i j : Nat) : Nat := Bf A i (j : Int) - (Aw A i).from_
theorem Ov (h : i <= brs A) : (rowB A i).length = (Aw A i).to_ - (Aw A i).from_ := Xw h
theorem Af6 (A : List Int) (i : Nat) : (Ag A i).length + 1 = (cuts (rowB A i)).length := by
 have h1 : (Ag A i).length = (cuts (rowB A i)).length - 1 := Rh _ _
 have h2 := Ab3 (rowB A i)
 omega
theorem Aq7 (h : i <= brs A) : cuts (rowB A i) = (List.range ((Ag A i).length + 1)).map (Jz A i) := by
 have hn := Af6 A i
 refine List.ext_getElem? λ j => ?_
 rw [List.getElem?_map]
 rcases Nat.lt_or_ge j (Ag A i).length with hj | hj
 ·obtain ⟨c, hc⟩ := Dy hj
  obtain ⟨ci, cj, g1, _, q⟩ := Un (Bz h).ft (by have := (Bz h).tn; have := (Bz h).nl; omega) hc
  have g1 : (cuts (rowB A i))[j]? = some ci := g1
  rw [g1, List.getElem?_range (by omega)]
  show some ci = some (Jz A i j)
  unfold Jz
  rw [Eh hj, Ht hc, q.from_]
  congr 1; omega
 ·rcases Nat.lt_or_ge (Ag A i).length j with u | u
  ·rw [List.getElem?_eq_none (by omega), List.getElem?_eq_none (by rw [List.length_range]; omega)]; rfl
  ·have hjn : j = (Ag A i).length := by omega
   have hl := D5 (rowB A i)
   rw [← hn, Nat.add_sub_cancel] at hl
   rw [hjn, hl, List.getElem?_range (by omega)]
   show some _ = some (Jz A i _)
   unfold Jz
   rw [Gp (by omega), Ov h]
theorem Co9 (h : i <= brs A) {c d : Nat} (hcd : c < d) (hd : d <= (Ag A i).length) : Jz A i c < Jz A i d := by
 have := Ox h hcd hd
 have := (Jr h (c : Int)).1
 unfold Jz; omega
theorem Vs (h : i <= brs A) (c : Nat) : (Aw A i).from_ + Jz A i c = Bf A i (c : Int) := by
 have := (Jr h (c : Int)).1
 unfold Jz; omega
theorem Cp0 (h : i <= brs A) {c : Nat} (hc : c <= (Ag A i).length) : bk (rowB A i) (Jz A i c) = true := by
 rw [← Z9, Aq7 h]
 exact List.mem_map.2 ⟨c, List.mem_range.2 (by omega), rfl⟩
theorem Ca4 (h : i <= brs A) {j : Nat} (hj : j < (Ag A i).length) : (rowB A i)[Jz A i j]? = ((Ag A i)[j]?).map (·.atom) := by
 obtain ⟨c, hc⟩ := Dy hj
 obtain ⟨ci, cj, _, _, q⟩ := Un (Bz h).ft (by have := (Bz h).tn; have := (Bz h).nl; omega) hc
 have h1 := q.from_; have h2 := q.to_; have h3 := q.lt; have h4 := q.le
 have hb : Jz A i j = ci := by
  unfold Jz
  rw [Eh hj, Ht hc]; omega
 rw [hb, hc]
 unfold rowB
 rw [List.getElem?_take, if_pos (by omega), List.getElem?_drop, ← h1]
 exact q.atom
end Mot
namespace Mot
variable {A : List Int}
theorem Sr (A : List Int) (x count arg : Int) (past : Bool) :
  Dc A x 7 count arg past = (match Gw (Ag A (Aq A x past).1) arg (upL (Ag A (Aq A x past).1).length (Aq A x past).2) (kOf count) with | none => noP 80 | some j => Dq A (Bf A (Aq A x past).1 (j : Int)) 1) /\
  Dc A x 9 count arg past = (match Gw (Ag A (Aq A x past).1) arg (upL (Ag A (Aq A x past).1).length (Aq A x past).2) (kOf count) with | none => noP 80 | some j => Dq A (Bf A (Aq A x past).1 ((j : Int) - 1)) 1) /\
  Dc A x 8 count arg past = (match Gw (Ag A (Aq A x past).1) arg (Ol (Aq A x past).2) (kOf count) with | none => noP 80 | some j => Dq A (Bf A (Aq A x past).1 (j : Int)) 0) /\
  Dc A x 10 count arg past = (match Gw (Ag A (Aq A x past).1) arg (Ol (Aq A x past).2) (kOf count) with | none => noP 80 | some j => Dq A (Bf A (Aq A x past).1 ((j : Int) + 1)) 0) := by
 have hr := Gg A x past
 refine ⟨?_, ?_, ?_, ?_⟩
 ·unfold Dc Aq
  dsimp only
  rw [hr, if_neg (by decide), if_neg (by decide), if_neg (by decide), if_neg (by decide), if_neg (by decide), if_neg (by decide), if_pos (by decide)]
  all_goals (cases Gw (Ag A (Cj A x past)) arg (upL (Ag A (Cj A x past)).length (Du (Ag A (Cj A x past)) (Bg A x past : Int))) (kOf count) <;> rfl)
 ·unfold Dc Aq
  dsimp only
  rw [hr, if_neg (by decide), if_neg (by decide), if_neg (by decide), if_neg (by decide), if_neg (by decide), if_neg (by decide), if_pos (by decide)]
  all_goals (cases Gw (Ag A (Cj A x past)) arg (upL (Ag A (Cj A x past)).length (Du (Ag A (Cj A x past)) (Bg A x past : Int))) (kOf count) <;> rfl)
 ·unfold Dc Aq
  dsimp only
  rw [hr, if_neg (by decide), if_neg (by decide), if_neg (by decide), if_neg (by decide), if_neg (by decide), if_neg (by decide), if_neg (by decide), if_pos (by decide)]
  all_goals (cases Gw (Ag A (Cj A x past)) arg (Ol (Du (Ag A (Cj A x past)) (Bg A x past : Int))) (kOf count) <;> rfl)
 ·unfold Dc Aq
  dsimp only
  rw [hr, if_neg (by decide), if_neg (by decide), if_neg (by decide), if_neg (by decide), if_neg (by decide), if_neg (by decide), if_neg (by decide), if_pos (by decide)]
  all_goals (cases Gw (Ag A (Cj A x past)) arg (Ol (Du (Ag A (Cj A x past)) (Bg A x past : Int))) (kOf count) <;> rfl)
end Mot
namespace Mot
variable {A : List Int} {p q : Nat × Nat}
def Lu (A : List Int) (p : Nat × Nat) : Option Bk := (Ql A p).map λ b => (p, b)
theorem Ci3 (A : List Int) : Fv A = (Ax3 A).filterMap (Lu A) := rfl
def Uu (A : List Int) (p : Nat × Nat) : List Bk := (aft A p).filterMap (Lu A)
def Na (A : List Int) (p : Nat × Nat) : List Bk := (bef A p).filterMap (Lu A)
theorem Ao0 (h : Plc A p) : Fv A = (Na A p).reverse ++ (p :: aft A p).filterMap (Lu A) := by
 rw [Ci3, D9 h, List.filterMap_append, List.filterMap_reverse]; rfl
def headB (A : List Int) (i : Nat) (p : Nat × Nat) : Option Bk := match ((p :: aft A p).filterMap (Lu A)).head? with
 | none => none
 | some q => if q.1.1 = i then some q else none
theorem Bd1 {b : Nat} (h : Ql A p = some b) : headB A p.1 p = some (p, b) := by
 have e : Lu A p = some (p, b) := by unfold Lu; rw [h]; rfl
 unfold headB
 rw [List.filterMap_cons_some e]
 exact if_pos rfl
theorem Bd0 {i : Nat} (h : Ql A p = none) (hn : Ja A p = none) : headB A i p = none := by
 have e : Lu A p = none := by unfold Lu; rw [h]; rfl
 unfold headB
 rw [List.filterMap_cons_none e, Ac9 hn]; rfl
theorem Aa4 {i : Nat} (h : Ql A p = none) (hn : Ja A p = some q) : headB A i p = headB A i q := by
 have e : Lu A p = none := by unfold Lu; rw [h]; rfl
 unfold headB
 rw [List.filterMap_cons_none e, Ut hn]
theorem Ac3 {x : Bk} {r : Nat × Nat} (h : Lu A r = some x) : x.1 = r := by
 unfold Lu at h
 obtain ⟨b, _, rfl⟩ := Option.map_eq_some_iff.1 h
 rfl
theorem At8 {i : Nat} (h : i < p.1) : headB A i p = none := by
 unfold headB
 split
 ·rfl
 ·rename_i x hx
  have hm := List.mem_of_mem_head? hx
  obtain ⟨r, hr, he⟩ := List.mem_filterMap.1 hm
  have e := Ac3 he
  refine if_neg ?_
  rw [e]
  rcases List.mem_cons.1 hr with rfl | hr
  ·omega
  ·rcases Am0.1 hr with ⟨h1, _⟩ | ⟨h1, _⟩ <;> omega
theorem V5 {own d : Nat} (h : Ja A p = none) : Dk own (Uu A p) d = none := by unfold Uu; rw [Ac9 h]; rfl
theorem V4 {own d : Nat} (h : Ja A p = some q) (hb : Ql A q = none) : Dk own (Uu A p) d = Dk own (Uu A q) d := by
 have e : Lu A q = none := by unfold Lu; rw [hb]; rfl
 unfold Uu; rw [Ut h, List.filterMap_cons_none e]
theorem V3 {own d b : Nat} (h : Ja A p = some q) (hb : Ql A q = some b) : Dk own (Uu A p) d = if b % 3 ≠ own % 3 then Dk own (Uu A q) d else if b = own then Dk own (Uu A q) (d + 1) else if d = 1 then some q else Dk own (Uu A q) (d - 1) := by
 have e : Lu A q = some (q, b) := by unfold Lu; rw [hb]; rfl
 unfold Uu; rw [Ut h, List.filterMap_cons_some e, Dk]
theorem V8 {own d : Nat} (h : Lm A p = none) : Dk own (Na A p) d = none := by unfold Na; rw [Aw6 h]; rfl
theorem V7 {own d : Nat} (h : Lm A p = some q) (hb : Ql A q = none) : Dk own (Na A p) d = Dk own (Na A q) d := by
 have e : Lu A q = none := by unfold Lu; rw [hb]; rfl
 unfold Na; rw [Ac6 h, List.filterMap_cons_none e]
theorem V6 {own d b : Nat} (h : Lm A p = some q) (hb : Ql A q = some b) : Dk own (Na A p) d = if b % 3 ≠ own % 3 then Dk own (Na A q) d else if b = own then Dk own (Na A q) (d + 1) else if d = 1 then some q else Dk own (Na A q) (d - 1) := by
 have e : Lu A q = some (q, b) := by unfold Lu; rw [hb]; rfl
 unfold Na; rw [Ac6 h, List.filterMap_cons_some e, Dk]
theorem drop_at {α : Type} : ∀ (l : List α) {x : α} {r : List α}, (l ++ x :: r).drop (l.length + 1) = r
 | [], _, _ => rfl
 | _ :: l, _, _ => drop_at l
theorem Bc0 (h : Plc A p) : Md A (Ec A p) p.1 = (headB A p.1 p).bind λ q => (Dk q.2 (if q.2 < 3 then Uu A q.1 else Na A q.1) 1).map (Ec A) := by
 have hl1 : ∀ y ∈ (Na A p).reverse, (λ q : Bk => q.1.1 == p.1 && decide (Ec A p <= Ec A q.1)) y = false := λ y hy => by
  rw [List.mem_reverse] at hy
  obtain ⟨r, hr, he⟩ := List.mem_filterMap.1 hy
  have := Ci7 h.on hr
  dsimp only
  rw [Ac3 he, Bool.and_eq_false_iff, decide_eq_false_iff_not]
  exact .inr (by omega)
 have hge : ∀ y ∈ (p :: aft A p).filterMap (Lu A), Ec A p <= Ec A y.1 /\ p.1 <= y.1.1 := λ y hy => by
  obtain ⟨r, hr, he⟩ := List.mem_filterMap.1 hy
  rw [Ac3 he]
  rcases List.mem_cons.1 hr with rfl | hr
  ·exact ⟨Nat.le_refl _, Nat.le_refl _⟩
  ·refine ⟨Nat.le_of_lt (Cj1 h.on hr), ?_⟩
   rcases Am0.1 hr with ⟨h1, _⟩ | ⟨h1, _⟩ <;> omega
 have none_of : ∀ {m : Option Nat}, (Fv A).findIdx? (λ q => q.1.1 == p.1 && decide (Ec A p <= Ec A q.1)) = none -> Md A (Ec A p) p.1 = none := λ {m} hh => by unfold Md; rw [hh]
 cases hL : (p :: aft A p).filterMap (Lu A) with
 | nil =>
  have hh : headB A p.1 p = none := by unfold headB; rw [hL]; rfl
  rw [hh]
  refine none_of (m := none) ?_
  rw [Ao0 h, hL, List.append_nil, List.findIdx?_eq_none_iff]
  exact hl1
 | cons q r =>
  have hqm : q ∈ (p :: aft A p).filterMap (Lu A) := by rw [hL]; exact List.mem_cons_self
  obtain ⟨g1, g2⟩ := hge q hqm
  have hB : Fv A = (Na A p).reverse ++ q :: r := by rw [Ao0 h, hL]
  by_cases hq : q.1.1 = p.1
  ·have hh : headB A p.1 p = some q := by unfold headB; rw [hL]; exact if_pos hq
   rw [hh]
   have hf : (Fv A).findIdx? (λ q => q.1.1 == p.1 && decide (Ec A p <= Ec A q.1)) = some (Na A p).reverse.length := by
    rw [hB]
    exact An0 _ hl1 (by rw [hq, decide_eq_true g1]; simp)
   have hmem : q ∈ Fv A := by rw [hB]; exact List.mem_append_right _ List.mem_cons_self
   obtain ⟨hpl, hbk⟩ := Aa0 hmem
   have eq1 : Lu A q.1 = some q := by unfold Lu; rw [hbk]; rfl
   have hB2 : Fv A = (Na A q.1).reverse ++ q :: Uu A q.1 := by rw [Ao0 hpl, List.filterMap_cons_some eq1]; rfl
   have hlen : (Na A p).reverse.length = (Na A q.1).reverse.length := by
    have a1 := (Au4 hB).1
    have a2 := (Au4 hB2).1
    rw [a1] at a2
    exact Option.some.inj a2
   obtain ⟨s1, s2⟩ := List.append_inj (hB.symm.trans hB2) hlen
   have s3 : r = Uu A q.1 := (List.cons.inj s2).2
   unfold Md
   rw [hf]
   dsimp only
   have hget : (Fv A)[(Na A p).reverse.length]? = some q := by rw [hB]; simp
   rw [hget, Option.bind_some]
   dsimp only
   have hd : (Fv A).drop ((Na A p).reverse.length + 1) = Uu A q.1 := by rw [hB, ← s3]; exact drop_at _
   have ht : ((Fv A).take (Na A p).reverse.length).reverse = Na A q.1 := by rw [hB, List.take_left, s1, List.reverse_reverse]
   rw [hd, ht]
  ·have hh : headB A p.1 p = none := by unfold headB; rw [hL]; exact if_neg hq
   rw [hh]
   refine none_of (m := none) ?_
   rw [hB, List.findIdx?_eq_none_iff]
   intro y hy
   rcases List.mem_append.1 hy with hy | hy
   ·exact hl1 y hy
   ·have hyr : y.1.1 ≠ p.1 := by
     rcases List.mem_cons.1 hy with rfl | hyr
     ·exact hq
     ·intro he
      have hr := Ai3 A
      rw [hB, List.pairwise_append] at hr
      have h1 := (List.pairwise_cons.1 hr.2.1).1 y hyr
      have hmq : q ∈ Fv A := by rw [hB]; exact List.mem_append_right _ List.mem_cons_self
      have hmy : y ∈ Fv A := by rw [hB]; exact List.mem_append_right _ hy
      have := H6 (Aa0 hmy).1.on (Aa0 hmq).1.on (by omega)
      omega
    rw [Bool.and_eq_false_iff, beq_eq_false_iff_ne]
    exact .inl hyr
def upF (f : Nat -> Bool) (j n k : Nat) : Option Nat := ((List.range' j (n - j)).filter f)[k - 1]?
def dnF (f : Nat -> Bool) (j k : Nat) : Option Nat := ((List.range j).reverse.filter f)[k - 1]?
theorem U3 {f : Nat -> Bool} {j n k : Nat} (h : n <= j) : upF f j n k = none := by unfold upF; rw [show n - j = 0 by omega]; rfl
theorem Aj3 {j n : Nat} (h : j < n) : List.range' j (n - j) = j :: List.range' (j + 1) (n - (j + 1)) := by
 obtain ⟨m, hm⟩ : ∃ m, n - j = m + 1 := ⟨n - j - 1, by omega⟩
 rw [hm, List.range'_succ, show n - (j + 1) = m by omega]
theorem Ay3 {f : Nat -> Bool} {j n k : Nat} (h : j < n) (hf : f j = false) : upF f j n k = upF f (j + 1) n k := by
 unfold upF; rw [Aj3 h, List.filter_cons_of_neg (by rw [hf]; decide)]
theorem Aj4 {f : Nat -> Bool} {j n : Nat} (h : j < n) (hf : f j = true) : upF f j n 1 = some j := by
 unfold upF; rw [Aj3 h, List.filter_cons_of_pos hf]; rfl
theorem U4 {f : Nat -> Bool} {j n k : Nat} (h : j < n) (hf : f j = true) (hk : 1 <= k) : upF f j n (k + 1) = upF f (j + 1) n k := by
 unfold upF; rw [Aj3 h, List.filter_cons_of_pos hf]
 obtain ⟨i, rfl⟩ : ∃ i, k = i + 1 := ⟨k - 1, by omega⟩
 rfl
theorem By6 {f : Nat -> Bool} {k : Nat} : dnF f 0 k = none := rfl
theorem Be1 {f : Nat -> Bool} {j k : Nat} (hf : f j = false) : dnF f (j + 1) k = dnF f j k := by
 unfold dnF; rw [List.range_succ, List.reverse_append, List.reverse_singleton, List.singleton_append, List.filter_cons_of_neg (by rw [hf]; decide)]
theorem An2 {f : Nat -> Bool} {j : Nat} (hf : f j = true) : dnF f (j + 1) 1 = some j := by
 unfold dnF; rw [List.range_succ, List.reverse_append, List.reverse_singleton, List.singleton_append, List.filter_cons_of_pos hf]; rfl
theorem Ab2 {f : Nat -> Bool} {j k : Nat} (hf : f j = true) (hk : 1 <= k) : dnF f (j + 1) (k + 1) = dnF f j k := by
 unfold dnF; rw [List.range_succ, List.reverse_append, List.reverse_singleton, List.singleton_append, List.filter_cons_of_pos hf]
 obtain ⟨i, rfl⟩ : ∃ i, k = i + 1 := ⟨k - 1, by omega⟩
 rfl
theorem Cd6 {i c : Nat} {x : Cel} (hx : (Ag A i)[c]? = some x) (hk : x.kind ≠ 0) (h0 : ∀ (j : Nat) y, j < c -> (Ag A i)[j]? = some y -> y.kind = 0) : Nz A i = c := by
 have hl := (List.getElem?_eq_some_iff.1 hx).1
 have e : (Ag A i).findIdx (λ c => c.kind != 0) = c := by
  rw [List.findIdx_eq hl]
  refine ⟨?_, λ j hj => ?_⟩
  ·rw [List.getElem?_eq_getElem hl] at hx
   rw [Option.some.inj hx]; simpa using hk
  ·have := h0 j _ hj (List.getElem?_eq_getElem (by omega))
   simpa using this
 unfold Nz
 rw [e, if_pos hl]
theorem Af1 {i : Nat} (h0 : ∀ (j : Nat) y, (Ag A i)[j]? = some y -> y.kind = 0) : Nz A i = (Ag A i).length - 1 := by
 have e : (Ag A i).findIdx (λ c => c.kind != 0) = (Ag A i).length := by
  rw [List.findIdx_eq_length]
  intro c hc
  obtain ⟨j, hj⟩ := List.getElem?_of_mem hc
  have := h0 j c hj
  simpa using this
 unfold Nz
 rw [e, if_neg (Nat.lt_irrefl _)]
theorem Ca6 (A : List Int) (i : Nat) : Eb A i = ((Ag A i).length == 0 || Yf (Ag A i) (Nz A i) true == 0) := by
 by_cases h0 : ∀ (j : Nat) y, (Ag A i)[j]? = some y -> y.kind = 0
 ·have hb : Eb A i = true := by
   unfold Eb
   rw [List.all_eq_true]
   intro c hc
   obtain ⟨j, hj⟩ := List.getElem?_of_mem hc
   rw [h0 j c hj]; rfl
  rw [hb, Af1 h0]
  rcases Nat.eq_zero_or_pos (Ag A i).length with u | u
  ·rw [u]; rfl
  ·obtain ⟨c, hc⟩ := Dy (C := Ag A i) (j := (Ag A i).length - 1) (by omega)
   unfold Yf
   rw [hc, if_pos rfl]
   show true = (_ || min c.kind 1 == 0)
   rw [h0 _ c hc]; simp
 ·have hex : ∃ (c : Nat) (x : Cel), (Ag A i)[c]? = some x /\ x.kind ≠ 0 := Classical.byContradiction λ hn => h0 λ j y hy => Classical.byContradiction λ hk => hn ⟨j, y, hy, hk⟩
  have hf : (Ag A i).findIdx (λ c => c.kind != 0) < (Ag A i).length := by
   obtain ⟨c, x, hx, hk⟩ := hex
   rw [List.findIdx_lt_length]
   exact ⟨x, List.mem_of_getElem? hx, by simpa using hk⟩
  have hs : Nz A i = (Ag A i).findIdx (λ c => c.kind != 0) := by unfold Nz; rw [if_pos hf]
  have hk := List.findIdx_getElem (w := hf)
  have hb : Eb A i = false := by
   unfold Eb
   rw [List.all_eq_false]
   exact ⟨_, List.getElem_mem hf, by simpa using hk⟩
  rw [hb, hs]
  unfold Yf
  rw [List.getElem?_eq_getElem hf, if_pos rfl]
  have hk2 : ((Ag A i)[(Ag A i).findIdx λ c => c.kind != 0]'hf).kind ≠ 0 := by simpa using hk
  have hn0 : (Ag A i).length ≠ 0 := by omega
  show false = (_ || min _ 1 == 0)
  symm
  rw [Bool.or_eq_false_iff, beq_eq_false_iff_ne, beq_eq_false_iff_ne]
  refine ⟨hn0, ?_⟩
  show min ((Ag A i)[(Ag A i).findIdx λ c => c.kind != 0]'hf).kind 1 ≠ 0
  omega
end Mot
end Go.Proofs.YtolhlldgnfbemaaGreatDoor
namespace Go.Proofs.YtolhlldgnfbemaaGreatDoor
open Go Go.Vx
def F34 (a0 : Option Addr) (a1 : Int) (a2 : Bool) (K : Int -> Wp) : Wp := Aa Tryz.prog 78 #[(.pointer a0), (vI a1), (.bool a2)] (.one (.agg Bc)) λ (x1 : (Int × Int × Int × Int × Int × Sl × Sl × Unit)) => Af (.cells #[(vI 0), (vI 0), (vI 0), (vI 0), (vI 0), (.slice none 0 0), (.slice none 0 0)] 135) λ b2 => Ae (at0 b2) (vA Bc x1) 7 <| cN 23 #[(.pointer a0)] λ x3 => lI (ad b2 1) λ x4 => sif (decide ((if x3 < (if 0 > a1 then 0 else a1) then x3 else (if 0 > a1 then 0 else a1)) >= x4)) ( sif a2 ( lI (ad b2 1) λ x5 => K x5) ( drew <| lds Bc (at0 b2) λ (x6 : (Int × Int × Int × Int × Int × Sl × Sl × Unit)) => lds Bc (at0 b2) λ (x7 : (Int × Int × Int × Int × Int × Sl × Sl × Unit)) => cN 80 #[(vA Bc x7)] λ x8 => keep (λ w => Ak w (at0 b2) 0 (Cells.vals Bc x6)) <| cN 79 #[(vA Bc x6), (vI (W64 (x8 - 1)))] λ x9 => K x9)) ( drew <| lds Bc (at0 b2) λ (x10 : (Int × Int × Int × Int × Int × Sl × Sl × Unit)) => lds Bc (at0 b2) λ (x11 : (Int × Int × Int × Int × Int × Sl × Sl × Unit)) => cN 81 #[(vA Bc x11), (vI (if x3 < (if 0 > a1 then 0 else a1) then x3 else (if 0 > a1 then 0 else a1)))] λ x12 => keep (λ w => Ak w (at0 b2) 0 (Cells.vals Bc x10)) <| cN 79 #[(vA Bc x10), (vI x12)] λ x13 => K x13)
def h34 : Hint := (hS (hR 1) (hS (hR 6) (hS (hR 6) (hS (hS (hR 5) (hC (hS (hS (hR 1) (hC (hS (hR 4) hL) hL)) (hS (.region (lR 6) (hO 6)) hL)) hL)) (hS (.region (lR 6) (hO 6)) hL)))))
theorem A34 {a0 : Option Addr} {a1 : Int} {a2 : Bool} {K : Int -> Wp} {w : World} (h : F34 a0 a1 a2 K w) : Aa Tryz.prog 34 #[(.pointer a0), (vI a1), (.bool a2)] rI K w := tied Ai Tryz.func34 h34 _ h
def F38 (a0 : Option Addr) (a1 : Int) (K : Int -> Wp) : Wp := Aa Tryz.prog 78 #[(.pointer a0), (vI a1), (.bool true)] (.one (.agg Bc)) λ (x1 : (Int × Int × Int × Int × Int × Sl × Sl × Unit)) => Af (.cells #[(vI 0), (vI 0), (vI 0), (vI 0), (vI 0), (.slice none 0 0), (.slice none 0 0)] 135) λ b2 => Ae (at0 b2) (vA Bc x1) 7 <| lds Bc (at0 b2) λ (x3 : (Int × Int × Int × Int × Int × Sl × Sl × Unit)) => cN 81 #[(vA Bc x3), (vI a1)] λ x4 => K x4
def h38 : Hint := (hS (hR 1) (hS (hR 5) (hS (hR 4) hL)))
theorem A38 {a0 : Option Addr} {a1 : Int} {K : Int -> Wp} {w : World} (h : F38 a0 a1 K w) : Aa Tryz.prog 38 #[(.pointer a0), (vI a1)] rI K w := tied Ai Tryz.func38 h38 _ h
def F40 (a0 : Option Addr) (a1 : Int) (a2 : I3) (a3 : Bool) (K : (I3 × Int × Unit) -> Wp) : Wp := Af (.cells #[(vI a2.1), (vI a2.2.1), (vI a2.2.2.1)] 48) λ b1 => Af (.cells #[(vI 0), (vI 0), (vI 0)] 83) λ b2 => lds c48 (at0 b1) λ (x3 : I3) => Aa Tryz.prog 89 #[(.func (.func 90) #[] #[]), (.pointer a0), (vI a1), (vI 0), (vA c48 x3), (.bool a3)] (.tup [(.agg c83), (.one cI)]) λ (x4 : (I3 × Int × Unit)) => Ae (at0 b2) (vA c83 x4.1) 3 <| lds c83 (at0 b2) λ (x5 : I3) => K (x5, x4.2.1, ())
def h40 : Hint := (hS (hR 3) (hS (hR 9) hL))
theorem A40 {a0 : Option Addr} {a1 : Int} {a2 : I3} {a3 : Bool} {K : (I3 × Int × Unit) -> Wp} {w : World} (h : F40 a0 a1 a2 a3 K w) : Aa Tryz.prog 40 #[(.pointer a0), (vI a1), (vA c48 a2), (.bool a3)] (.tup [(.agg c83), (.one cI)]) K w := tied Ai Tryz.func40 h40 _ h
def F47 (a0 : Option Addr) (a1 : Int) (a2 : I3) (K : (I3 × Int × Unit) -> Wp) : Wp := Af (.cells #[(vI a2.1), (vI a2.2.1), (vI a2.2.2.1)] 48) λ b1 => Af (.cells #[(vI 0), (vI 0), (vI 0)] 83) λ b2 => lds c48 (at0 b1) λ (x3 : I3) => Aa Tryz.prog 89 #[(.func (.func 101) #[] #[]), (.pointer a0), (vI a1), (vI 0), (vA c48 x3), (.bool false)] (.tup [(.agg c83), (.one cI)]) λ (x4 : (I3 × Int × Unit)) => Ae (at0 b2) (vA c83 x4.1) 3 <| lds c83 (at0 b2) λ (x5 : I3) => K (x5, x4.2.1, ())
def h47 : Hint := (hS (hR 3) (hS (hR 8) hL))
theorem A47 {a0 : Option Addr} {a1 : Int} {a2 : I3} {K : (I3 × Int × Unit) -> Wp} {w : World} (h : F47 a0 a1 a2 K w) : Aa Tryz.prog 47 #[(.pointer a0), (vI a1), (vA c48 a2)] (.tup [(.agg c83), (.one cI)]) K w := tied Ai Tryz.func47 h47 _ h
def F78 (a0 : Option Addr) (a1 : Int) (a2 : Bool) (K : (Int × Int × Int × Int × Int × Sl × Sl × Unit) -> Wp) : Wp := Af (.cells #[(vI 0), (vI 0), (vI 0), (vI 0), (vI 0), (.slice none 0 0), (.slice none 0 0)] 135) λ b1 => cN 130 #[(.pointer a0), (vI a1)] λ x2 => jI (λ J3 => sif (!a2) ( cN 87 #[(.pointer a0)] λ x5 => J3 ((if (W64 (x5 - 1)) < x2 then (W64 (x5 - 1)) else x2), ())) ( J3 (x2, ()))) λ s4 => Aa Tryz.prog 86 #[(.pointer a0), (vI s4.1)] (.one (.agg Bc)) λ (x6 : (Int × Int × Int × Int × Int × Sl × Sl × Unit)) => Ae (at0 b1) (vA Bc x6) 7 <| lds Bc (at0 b1) λ (x7 : (Int × Int × Int × Int × Int × Sl × Sl × Unit)) => K x7
def h78 : Hint := (hS (hR 1) (hS (hR 4) (hJ (260224, [(7, tI)]) (hS (hR 2) (hC (hR 6) hL)) (hS (hR 4) hL))))
theorem A78 {a0 : Option Addr} {a1 : Int} {a2 : Bool} {K : (Int × Int × Int × Int × Int × Sl × Sl × Unit) -> Wp} {w : World} (h : F78 a0 a1 a2 K w) : Aa Tryz.prog 78 #[(.pointer a0), (vI a1), (.bool a2)] (.one (.agg Bc)) K w := tied Ai Tryz.func78 h78 _ h
def F79 (a0 : (Int × Int × Int × Int × Int × Sl × Sl × Unit)) (a1 : Int) (K : Int -> Wp) : Wp := Af (.cells #[(vI a0.1), (vI a0.2.1), (vI a0.2.2.1), (vI a0.2.2.2.1), (vI a0.2.2.2.2.1), a0.2.2.2.2.2.1.v, a0.2.2.2.2.2.2.1.v] 135) λ b1 => drew <| lI (at0 b1) λ x2 => ld (.sl) (ad b1 6) λ (x3 : Sl) => lds Bc (at0 b1) λ (x4 : (Int × Int × Int × Int × Int × Sl × Sl × Unit)) => cN 80 #[(vA Bc x4)] λ x5 => keep (λ w => w.cell? (ad b1 6) = some (Cell.val (.sl) x3)) <| keep (λ w => w.cell? (at0 b1) = some (Cell.val cI x2)) <| ixI x3 (if x5 < (if 0 > a1 then 0 else a1) then x5 else (if 0 > a1 then 0 else a1)) 1 λ x7 => K (W64 (x2 + x7))
def h79 : Hint := (hS (hR 2) (hS (.region (lR 14) (hO 14)) hL))
theorem A79 {a0 : (Int × Int × Int × Int × Int × Sl × Sl × Unit)} {a1 : Int} {K : Int -> Wp} {w : World} (h : F79 a0 a1 K w) : Aa Tryz.prog 79 #[(vA Bc a0), (vI a1)] rI K w := tied Ai Tryz.func79 h79 _ h
def F80 (a0 : (Int × Int × Int × Int × Int × Sl × Sl × Unit)) (K : Int -> Wp) : Wp := Af (.cells #[(vI a0.1), (vI a0.2.1), (vI a0.2.2.1), (vI a0.2.2.2.1), (vI a0.2.2.2.2.1), a0.2.2.2.2.2.1.v, a0.2.2.2.2.2.2.1.v] 135) λ b1 => ld (.sl) (ad b1 6) λ (x2 : Sl) => K (W64 (((x2.len : Nat) : Int) - 1))
def h80 : Hint := (hS (hR 2) (hS (hR 5) hL))
theorem A80 {a0 : (Int × Int × Int × Int × Int × Sl × Sl × Unit)} {K : Int -> Wp} {w : World} (h : F80 a0 K w) : Aa Tryz.prog 80 #[(vA Bc a0)] rI K w := tied Ai Tryz.func80 h80 _ h
def F81 (a0 : (Int × Int × Int × Int × Int × Sl × Sl × Unit)) (a1 : Int) (K : Int -> Wp) : Wp := Af (.cells #[(vI a0.1), (vI a0.2.1), (vI a0.2.2.1), (vI a0.2.2.2.1), (vI a0.2.2.2.2.1), a0.2.2.2.2.2.1.v, a0.2.2.2.2.2.2.1.v] 135) λ b1 => lds Bc (at0 b1) λ (x2 : (Int × Int × Int × Int × Int × Sl × Sl × Unit)) => cN 80 #[(vA Bc x2)] λ x3 => jI (λ J4 => sN (λ s6 again7 => sif (decide (s6.1 < s6.2.1)) ( chk ((2 : Int) ≠ 0) <| drew <| lI (at0 b1) λ x8 => ld (.sl) (ad b1 6) λ (x9 : Sl) => ix x9.a x9.len (W64 (Int.tdiv (W64 ((W64 (s6.1 + s6.2.1)) + 1)) 2)) λ p10 => ld cI (p10.add (scaled (Int.toNat (W64 (Int.tdiv (W64 ((W64 (s6.1 + s6.2.1)) + 1)) 2))) 1)) λ (x11 : Int) => sif (decide ((W64 (x8 + x11)) <= a1)) ( again7 ((W64 (Int.tdiv (W64 ((W64 (s6.1 + s6.2.1)) + 1)) 2)), s6.2.1, ())) ( again7 (s6.1, (W64 ((W64 (Int.tdiv (W64 ((W64 (s6.1 + s6.2.1)) + 1)) 2)) - 1)), ()))) ( J4 (s6.1, ()))) (0, x3, ())) λ s5 => K s5.1
def h81 : Hint := (hS (hR 2) (hS (hR 4) (hJ (0xfffffce0, [(5, tI)]) (.block (.loop 0xfffffce0 [(5, tI), (6, tI)] (hS (hS (hR 3) (hC hL hL)) (.block (hS (hR 6) (hS (.region (lR 11) (hO 11)) (hC (hR 2) (hR 3)))))))) (hS (hR 2) hL))))
theorem A81 {a0 : (Int × Int × Int × Int × Int × Sl × Sl × Unit)} {a1 : Int} {K : Int -> Wp} {w : World} (h : F81 a0 a1 K w) : Aa Tryz.prog 81 #[(vA Bc a0), (vI a1)] rI K w := tied Ai Tryz.func81 h81 _ h
def F86 (a0 : Option Addr) (a1 : Int) (K : (Int × Int × Int × Int × Int × Sl × Sl × Unit) -> Wp) : Wp := Af (.cells #[(vI 0), (vI 0), (vI 0), (vI 0), (vI 0), (.slice none 0 0), (.slice none 0 0)] 135) λ b1 => Aa Tryz.prog 106 #[(.pointer a0), (vI a1)] (.tup [(.agg Jl), (.one cI)]) λ (x2 : (I4 × Int × Unit)) => Af (.cells #[(vI 0), (vI 0), (vI 0), (vI 0)] 133) λ b3 => Ae (at0 b3) (vA Jl x2.1) 4 <| join (S := Addr × Unit) (λ J4 => drew <| lds Jl (at0 b3) λ (x6 : I4) => lI (at0 b3) λ x7 => lI (ad b3 1) λ x8 => both ( Af (.cells #[(vI 0), (vI 0), (vI 0), (vI 0), (vI 0), (.slice none 0 0), (.slice none 0 0)] 135) λ b9 => keep (λ w => w.cell? (ad b3 1) = some (Cell.val cI x8)) <| keep (λ w => w.cell? (at0 b3) = some (Cell.val cI x7)) <| keep (λ w => Ak w (at0 b3) 0 (Cells.vals Jl x6)) <| cS 25 #[(.pointer a0), (vI x7), (vI x8)] λ x10 => keep (λ w => Ak w (at0 b3) 0 (Cells.vals Jl x6)) <| Ae (at0 b9) (.agg #[(vI x6.1), (vI x6.2.1), (vI x6.2.2.1), (vI x6.2.2.2.1), (vI a1), x10.v, (.slice none 0 0)]) 7 <| J4 ((at0 b9), ())) <| cS 25 #[(.pointer a0), (vI x7), (vI x8)] λ x11 => keep (λ w => Ak w (at0 b3) 0 (Cells.vals Jl x6)) <| both ( Af (.cells #[(vI 0), (vI 0), (vI 0), (vI 0), (vI 0), (.slice none 0 0), (.slice none 0 0)] 135) λ b12 => keep (λ w => w.cell? (ad b3 1) = some (Cell.val cI x8)) <| keep (λ w => w.cell? (at0 b3) = some (Cell.val cI x7)) <| keep (λ w => Ak w (at0 b3) 0 (Cells.vals Jl x6)) <| Ae (at0 b12) (.agg #[(vI x6.1), (vI x6.2.1), (vI x6.2.2.1), (vI x6.2.2.2.1), (vI a1), x11.v, (.slice none 0 0)]) 7 <| J4 ((at0 b12), ())) <| nothing) λ s5 => ld (.sl) (s5.1.add 5) λ (x13 : Sl) => cS 131 #[x13.v] λ x14 => stC (s5.1.add 6) x14.v <| lds Bc s5.1 λ (x15 : (Int × Int × Int × Int × Int × Sl × Sl × Unit)) => Ae (at0 b1) (vA Bc x15) 7 <| lds Bc (at0 b1) λ (x16 : (Int × Int × Int × Int × Int × Sl × Sl × Unit)) => K x16
def h86 : Hint := (hS (hR 1) (hS (hR 9) (hJ (8372352, [(7, (.one .addr))]) (.region [0, 1, 2, 3, 4, 5, 6, 7, 8, 10] (.float [9] (.ops 7 (.alt none (.plain (hO 3)) (.ops 2 (.alt none (.plain (hO 1)) .stop)))))) (hS (hR 5) (hS (hR 2) hL)))))
theorem A86 {a0 : Option Addr} {a1 : Int} {K : (Int × Int × Int × Int × Int × Sl × Sl × Unit) -> Wp} {w : World} (h : F86 a0 a1 K w) : Aa Tryz.prog 86 #[(.pointer a0), (vI a1)] (.one (.agg Bc)) K w := tied Ai Tryz.func86 h86 _ h
def F87 (a0 : Option Addr) (K : Int -> Wp) : Wp := cN 23 #[(.pointer a0)] λ x1 => cN 132 #[(.pointer a0), (vI x1)] λ x2 => jI (λ J3 => cB 133 #[(.pointer a0)] λ x5 => sif (!x5) ( J3 ((W64 (x2 + 1)), ())) ( J3 (x2, ()))) λ s4 => K s4.1
def h87 : Hint := (hS (hR 1) (hS (hR 5) (hJ (7944, [(3, tI)]) (hS (hR 3) (hC (hR 3) hL)) (hS (hR 2) hL))))
theorem A87 {a0 : Option Addr} {K : Int -> Wp} {w : World} (h : F87 a0 K w) : Aa Tryz.prog 87 #[(.pointer a0)] rI K w := tied Ai Tryz.func87 h87 _ h
def F89 (a0 : Value) (a1 : Option Addr) (a2 : Int) (a3 : Int) (a4 : I3) (a5 : Bool) (K : (I3 × Int × Unit) -> Wp) : Wp := Af (.cells #[(vI a4.1), (vI a4.2.1), (vI a4.2.2.1)] 48) λ b1 => Af (.cells #[(vI 0), (vI 0), (vI 0)] 83) λ b2 => lI (at0 b1) λ x3 => Cb Tryz.prog (do let d ← Deferred.ofValue a0 #[(vI x3)]; invoke d.target d.args : Sem Next) (.one (.one .any)) λ (x4 : Value) => rdB Tryz.prog (do eqGuard .eql 173 (Operand.tmp 21) (Operand.const Value.nilFunc) x4 .nilFunc; binOp .eql 173 x4 .nilFunc : Sem Value) λ r5 => sif r5 ( Ae (at0 b2) (.agg #[(vI 0), (vI 0), (vI 0)]) 3 <| lds c83 (at0 b2) λ (x6 : I3) => K (x6, 1, ())) ( cN 34 #[(.pointer a1), (vI a2), (.bool a5)] λ x7 => drew <| lI (ad b1 2) λ x8 => Aa Tryz.prog 78 #[(.pointer a1), (vI x7), (.bool a5)] (.one (.agg Bc)) λ (x9 : (Int × Int × Int × Int × Int × Sl × Sl × Unit)) => keep (λ w => w.cell? (ad b1 2) = some (Cell.val cI x8)) <| Af (.cells (Value.cells (.agg #[(.pointer a1), (vI x7), (vI 0), (vI 1), (.bool false), (vI x8), (vI (if 0 > a3 then 0 else a3)), (.bool a5), (.bool false), (vI x9.1), (vI x9.2.1), (vI x9.2.2.1), (vI x9.2.2.2.1), (vI x9.2.2.2.2.1), x9.2.2.2.2.2.1.v, x9.2.2.2.2.2.2.1.v])) 176) λ b10 => nn (some (at0 b10)) λ p11 => lds Bc (p11.add 9) λ (x12 : (Int × Int × Int × Int × Int × Sl × Sl × Unit)) => cN 81 #[(vA Bc x12), (vI x7)] λ x13 => nn (some (at0 b10)) λ p14 => stC (p14.add 2) (vI x13) <| jU (λ J15 => lI (at0 b1) λ x17 => sif (decide (x17 >= 25)) ( lI (at0 b1) λ x18 => sif (decide (x18 <= 28)) ( nn (some (at0 b10)) λ p19 => stC (p19.add 8) (.bool true) <| J15 ()) ( lI (at0 b1) λ x20 => nn (some (at0 b10)) λ p21 => stC (p21.add 8) (.bool (x20 == 30)) <| J15 ())) ( lI (at0 b1) λ x22 => nn (some (at0 b10)) λ p23 => stC (p23.add 8) (.bool (x22 == 30)) <| J15 ())) λ s16 => jU (λ J24 => lI (ad b1 1) λ x26 => sif (decide (x26 > 0)) ( lI (ad b1 1) λ x27 => nn (some (at0 b10)) λ p28 => stC (p28.add 3) (vI (if 9999 < x27 then 9999 else x27)) <| nn (some (at0 b10)) λ p29 => stC (p29.add 4) (.bool true) <| J24 ()) ( J24 ())) λ s25 => Cb Tryz.prog (do let d ← Deferred.ofValue x4 #[(.pointer (some (at0 b10)))]; invoke d.target d.args : Sem Next) (.tup [(.agg c83), (.one cI)]) λ (x30 : (I3 × Int × Unit)) => Ae (at0 b2) (vA c83 x30.1) 3 <| lds c83 (at0 b2) λ (x31 : I3) => K (x31, x30.2.1, ()))
def h89 : Hint := (hS (hR 3) (hS (hR 5) (hS (hS (hR 2) (hC (hS (hR 3) hL) hL)) (hS (hR 5) (hS (.region (lR 14) (hO 14)) (hS (hR 10) (hJ ((mR [(50, 66)]), []) (.region [] (.ops 5 (.split 54 (.ops 5 (.split 59 (.skips 3 (hO 4)) (hO 7))) (.skips 3 (hO 9))))) (hJ ((mR [(66, 78)]), []) (hS (hR 3) (hC (hR 11) hL)) (hS (hR 7) hL)))))))))
theorem A89 {a0 : Value} {a1 : Option Addr} {a2 : Int} {a3 : Int} {a4 : I3} {a5 : Bool} {K : (I3 × Int × Unit) -> Wp} {w : World} (h : F89 a0 a1 a2 a3 a4 a5 K w) : Aa Tryz.prog 89 #[a0, (.pointer a1), (vI a2), (vI a3), (vA c48 a4), (.bool a5)] (.tup [(.agg c83), (.one cI)]) K w := tied Ai Tryz.func89 h89 _ h
def F90 (a0 : Int) (K : Value -> Wp) : Wp := sif (a0 == 1) ( K (.func (.func 134) #[] #[])) ( sif (a0 == 2) ( K (.func (.func 135) #[] #[])) ( sif (a0 == 3) ( K (.func (.func 136) #[] #[])) ( sif (a0 == 4) ( K (.func (.func 137) #[] #[])) ( sif (a0 == 5) ( K (.func (.func 138) #[] #[])) ( sif (a0 == 6) ( K (.func (.func 139) #[] #[])) ( sif (a0 == 7) ( K (.func (.func 140) #[] #[])) ( sif (a0 == 8) ( K (.func (.func 141) #[] #[])) ( sif (a0 == 9) ( K (.func (.func 142) #[] #[])) ( sif (a0 == 10) ( K (.func (.func 143) #[] #[])) ( K .nilFunc))))))))))
def h90 : Hint := (hS (hR 1) (hS (hS (hR 1) (.block (hS (hR 2) (hC (hS (hR 1) hL) (hS (hR 2) (hC (hS (hR 1) hL) (hS (hR 2) (hC (hS (hR 1) hL) (hS (hR 2) (hC (hS (hR 1) hL) (hS (hR 2) (hC (hS (hR 1) hL) (hS (hR 2) (hC (hS (hR 1) hL) (hS (hR 2) (hC (hS (hR 1) hL) (hS (hR 2) (hC (hS (hR 1) hL) (hS (hR 2) (hC (hS (hR 1) hL) (hS (hR 2) (hC (hS (hR 1) hL) hL)))))))))))))))))))))) (hS (hR 1) hL)))
theorem A90 {a0 : Int} {K : Value -> Wp} {w : World} (h : F90 a0 K w) : Aa Tryz.prog 90 #[(vI a0)] (.one (.one .any)) K w := tied Ai Tryz.func90 h90 _ h
def F101 (a0 : Int) (K : Value -> Wp) : Wp := sif (a0 == 31) ( K (.func (.func 157) #[] #[])) ( sif (a0 == 32) ( K (.func (.func 158) #[] #[])) ( sif (a0 == 33) ( K (.func (.func 159) #[] #[])) ( K .nilFunc)))
def Df2 : Hint := (hS (hR 1) (hS (hS (hR 1) (.block (hS (hR 2) (hC (hS (hR 1) hL) (hS (hR 2) (hC (hS (hR 1) hL) (hS (hR 2) (hC (hS (hR 1) hL) hL)))))))) (hS (hR 1) hL)))
theorem Dt2 {a0 : Int} {K : Value -> Wp} {w : World} (h : F101 a0 K w) : Aa Tryz.prog 101 #[(vI a0)] (.one (.one .any)) K w := tied Ai Tryz.func101 Df2 _ h
def F106 (a0 : Option Addr) (a1 : Int) (K : (I4 × Int × Unit) -> Wp) : Wp := Af (.cells #[(vI 0), (vI 0), (vI 0), (vI 0)] 133) λ b1 => sif (decide (a1 < 0)) ( Ae (at0 b1) (.agg #[(vI 0), (vI 0), (vI 0), (vI 0)]) 4 <| lds Jl (at0 b1) λ (x2 : I4) => K (x2, 2, ())) ( cN 165 #[(.pointer a0), (vI a1)] λ x3 => sif (decide (x3 < 0)) ( Ae (at0 b1) (.agg #[(vI 0), (vI 0), (vI 0), (vI 0)]) 4 <| lds Jl (at0 b1) λ (x4 : I4) => K (x4, 2, ())) ( cN 23 #[(.pointer a0)] λ x5 => cN 132 #[(.pointer a0), (vI x5)] λ x6 => sif (decide (a1 < x6)) ( cN 165 #[(.pointer a0), (vI (W64 (a1 + 1)))] λ x7 => Aa Tryz.prog 166 #[(.pointer a0), (vI x3), (vI x7)] (.one (.agg Jl)) λ (x8 : I4) => Ae (at0 b1) (vA Jl x8) 4 <| lds Jl (at0 b1) λ (x9 : I4) => K (x9, 0, ())) ( cN 23 #[(.pointer a0)] λ x10 => cN 23 #[(.pointer a0)] λ x11 => Ae (at0 b1) (.agg #[(vI x3), (vI x10), (vI x11), (vI 0)]) 4 <| lds Jl (at0 b1) λ (x12 : I4) => K (x12, 0, ()))))
def De9 : Hint := (hS (hR 2) (hS (hS (hR 2) (hC (hS (hR 3) hL) hL)) (hS (hR 4) (hS (hS (hR 2) (hC (hS (hR 3) hL) hL)) (hS (hS (hR 6) (hC (hS (hR 9) hL) hL)) (hS (hR 8) hL))))))
theorem Ds9 {a0 : Option Addr} {a1 : Int} {K : (I4 × Int × Unit) -> Wp} {w : World} (h : F106 a0 a1 K w) : Aa Tryz.prog 106 #[(.pointer a0), (vI a1)] (.tup [(.agg Jl), (.one cI)]) K w := tied Ai Tryz.func106 De9 _ h
def F130 (a0 : Option Addr) (a1 : Int) (K : Int -> Wp) : Wp := cN 23 #[(.pointer a0)] λ x1 => cN 132 #[(.pointer a0), (vI (if x1 < (if 0 > a1 then 0 else a1) then x1 else (if 0 > a1 then 0 else a1)))] λ x2 => K x2
def Dd1 : Hint := (hS (hR 1) (hS (hR 8) hL))
theorem Dq8 {a0 : Option Addr} {a1 : Int} {K : Int -> Wp} {w : World} (h : F130 a0 a1 K w) : Aa Tryz.prog 130 #[(.pointer a0), (vI a1)] rI K w := tied Ai Tryz.func130 Dd1 _ h
def F133 (a0 : Option Addr) (K : Bool -> Wp) : Wp := cN 23 #[(.pointer a0)] λ x1 => sif (decide (x1 > 0)) ( cN 132 #[(.pointer a0), (vI x1)] λ x2 => cN 165 #[(.pointer a0), (vI x2)] λ x3 => K (x3 == x1)) ( K false)
def Dc8 : Hint := (hS (hR 1) (hS (hR 3) (hS (.region [] (.ops 3 (.split 8 (hO 9) (.skips 7 (hO 2))))) hL)))
theorem Dq5 {a0 : Option Addr} {K : Bool -> Wp} {w : World} (h : F133 a0 K w) : Aa Tryz.prog 133 #[(.pointer a0)] rB K w := tied Ai Tryz.func133 Dc8 _ h
def F134 (a0 : Option Addr) (K : (I3 × Int × Unit) -> Wp) : Wp := Af (.cells #[(vI 0), (vI 0), (vI 0)] 83) λ b1 => nn a0 λ p2 => ld cI (p2.add 2) λ (x3 : Int) => sif (x3 == 0) ( Aa Tryz.prog 179 #[] (.tup [(.agg c83), (.one cI)]) λ (x4 : (I3 × Int × Unit)) => Ae (at0 b1) (vA c83 x4.1) 3 <| lds c83 (at0 b1) λ (x5 : I3) => K (x5, x4.2.1, ())) ( drew <| nn a0 λ p6 => lds Bc (p6.add 9) λ (x7 : (Int × Int × Int × Int × Int × Sl × Sl × Unit)) => nn a0 λ p8 => ld cI (p8.add 2) λ (x9 : Int) => nn a0 λ p10 => ld cI (p10.add 3) λ (x11 : Int) => cN 79 #[(vA Bc x7), (vI (W64 (x9 - x11)))] λ x12 => Aa Tryz.prog 180 #[(.pointer a0), (vI x12), (vI 0)] (.tup [(.agg c83), (.one cI)]) λ (x13 : (I3 × Int × Unit)) => Ae (at0 b1) (vA c83 x13.1) 3 <| lds c83 (at0 b1) λ (x14 : I3) => K (x14, x13.2.1, ()))
def Dc7 : Hint := (hS (hR 2) (hS (hS (hR 5) (hC (hS (hR 5) hL) hL)) (hS (.region (lR 20) (hO 20)) hL)))
theorem Dq4 {a0 : Option Addr} {K : (I3 × Int × Unit) -> Wp} {w : World} (h : F134 a0 K w) : Aa Tryz.prog 134 #[(.pointer a0)] (.tup [(.agg c83), (.one cI)]) K w := tied Ai Tryz.func134 Dc7 _ h
def F135 (a0 : Option Addr) (K : (I3 × Int × Unit) -> Wp) : Wp := Af (.cells #[(vI 0), (vI 0), (vI 0)] 83) λ b1 => drew <| nn a0 λ p2 => ld cI (p2.add 2) λ (x3 : Int) => cN 181 #[(.pointer a0)] λ x4 => keep (λ w => w.cell? (p2.add 2) = some (Cell.val cI x3)) <| sif (x3 == x4) ( Aa Tryz.prog 179 #[] (.tup [(.agg c83), (.one cI)]) λ (x5 : (I3 × Int × Unit)) => Ae (at0 b1) (vA c83 x5.1) 3 <| lds c83 (at0 b1) λ (x6 : I3) => K (x6, x5.2.1, ())) ( drew <| nn a0 λ p7 => lds Bc (p7.add 9) λ (x8 : (Int × Int × Int × Int × Int × Sl × Sl × Unit)) => nn a0 λ p9 => ld cI (p9.add 2) λ (x10 : Int) => nn a0 λ p11 => ld cI (p11.add 3) λ (x12 : Int) => cN 181 #[(.pointer a0)] λ x13 => keep (λ w => w.cell? (p11.add 3) = some (Cell.val cI x12)) <| keep (λ w => w.cell? (p9.add 2) = some (Cell.val cI x10)) <| keep (λ w => Ak w (p7.add 9) 0 (Cells.vals Bc x8)) <| cN 79 #[(vA Bc x8), (vI (if x13 < (W64 (x10 + x12)) then x13 else (W64 (x10 + x12))))] λ x14 => Aa Tryz.prog 180 #[(.pointer a0), (vI x14), (vI 0)] (.tup [(.agg c83), (.one cI)]) λ (x15 : (I3 × Int × Unit)) => Ae (at0 b1) (vA c83 x15.1) 3 <| lds c83 (at0 b1) λ (x16 : I3) => K (x16, x15.2.1, ()))
def Dc6 : Hint := (hS (hR 2) (hS (hS (.region (lR 7) (hO 7)) (hC (hS (hR 5) hL) hL)) (hS (.region (lR 23) (hO 23)) hL)))
theorem Dq3 {a0 : Option Addr} {K : (I3 × Int × Unit) -> Wp} {w : World} (h : F135 a0 K w) : Aa Tryz.prog 135 #[(.pointer a0)] (.tup [(.agg c83), (.one cI)]) K w := tied Ai Tryz.func135 Dc6 _ h
def F136 (a0 : Option Addr) (K : (I3 × Int × Unit) -> Wp) : Wp := Af (.cells #[(vI 0), (vI 0), (vI 0)] 83) λ b1 => nn a0 λ p2 => ld cI (p2.add 9) λ (x3 : Int) => Aa Tryz.prog 180 #[(.pointer a0), (vI x3), (vI 0)] (.tup [(.agg c83), (.one cI)]) λ (x4 : (I3 × Int × Unit)) => Ae (at0 b1) (vA c83 x4.1) 3 <| lds c83 (at0 b1) λ (x5 : I3) => K (x5, x4.2.1, ())
def Dc5 : Hint := (hS (hR 2) (hS (hR 12) hL))
theorem Dq2 {a0 : Option Addr} {K : (I3 × Int × Unit) -> Wp} {w : World} (h : F136 a0 K w) : Aa Tryz.prog 136 #[(.pointer a0)] (.tup [(.agg c83), (.one cI)]) K w := tied Ai Tryz.func136 Dc5 _ h
def F137 (a0 : Option Addr) (K : (I3 × Int × Unit) -> Wp) : Wp := Af (.cells #[(vI 0), (vI 0), (vI 0)] 83) λ b1 => drew <| nn a0 λ p2 => lds Bc (p2.add 9) λ (x3 : (Int × Int × Int × Int × Int × Sl × Sl × Unit)) => nn a0 λ p4 => lds Bc (p4.add 9) λ (x5 : (Int × Int × Int × Int × Int × Sl × Sl × Unit)) => cN 182 #[(vA Bc x5)] λ x6 => keep (λ w => Ak w (p2.add 9) 0 (Cells.vals Bc x3)) <| cN 79 #[(vA Bc x3), (vI x6)] λ x7 => Aa Tryz.prog 180 #[(.pointer a0), (vI x7), (vI 0)] (.tup [(.agg c83), (.one cI)]) λ (x8 : (I3 × Int × Unit)) => Ae (at0 b1) (vA c83 x8.1) 3 <| lds c83 (at0 b1) λ (x9 : I3) => K (x9, x8.2.1, ())
def Dc4 : Hint := (hS (hR 2) (hS (.region (lR 16) (hO 16)) hL))
theorem Dq1 {a0 : Option Addr} {K : (I3 × Int × Unit) -> Wp} {w : World} (h : F137 a0 K w) : Aa Tryz.prog 137 #[(.pointer a0)] (.tup [(.agg c83), (.one cI)]) K w := tied Ai Tryz.func137 Dc4 _ h
def F138 (a0 : Option Addr) (K : (I3 × Int × Unit) -> Wp) : Wp := Af (.cells #[(vI 0), (vI 0), (vI 0)] 83) λ b1 => nn a0 λ p2 => lds Bc (p2.add 9) λ (x3 : (Int × Int × Int × Int × Int × Sl × Sl × Unit)) => Af (.cells #[(vI 0), (vI 0), (vI 0), (vI 0), (vI 0), (.slice none 0 0), (.slice none 0 0)] 135) λ b4 => Ae (at0 b4) (vA Bc x3) 7 <| jU (λ J5 => nn a0 λ p7 => ld (.ptr) p7 λ (x8 : Option Addr) => cN 87 #[(.pointer x8)] λ x9 => jB (λ J10 => lI (ad b4 4) λ x12 => sif (decide (x12 < (W64 (x9 - 1)))) ( nn a0 λ p13 => ld cI (p13.add 3) λ (x14 : Int) => J10 ((decide (x14 > 1)), ())) ( J10 (false, ()))) λ s11 => sif s11.1 ( drew <| nn a0 λ p15 => ld (.ptr) p15 λ (x16 : Option Addr) => lI (ad b4 4) λ x17 => nn a0 λ p18 => ld cI (p18.add 3) λ (x19 : Int) => Aa Tryz.prog 86 #[(.pointer x16), (vI (if (W64 (x9 - 1)) < (W64 ((W64 (x17 + x19)) - 1)) then (W64 (x9 - 1)) else (W64 ((W64 (x17 + x19)) - 1))))] (.one (.agg Bc)) λ (x20 : (Int × Int × Int × Int × Int × Sl × Sl × Unit)) => Ae (at0 b4) (vA Bc x20) 7 <| J5 ()) ( J5 ())) λ s6 => drew <| lds Bc (at0 b4) λ (x21 : (Int × Int × Int × Int × Int × Sl × Sl × Unit)) => lds Bc (at0 b4) λ (x22 : (Int × Int × Int × Int × Int × Sl × Sl × Unit)) => cN 80 #[(vA Bc x22)] λ x23 => keep (λ w => Ak w (at0 b4) 0 (Cells.vals Bc x21)) <| cN 79 #[(vA Bc x21), (vI (W64 (x23 - 1)))] λ x24 => Ae (at0 b1) (.agg #[(vI x24), (vI 1), (vI 100000)]) 3 <| lds c83 (at0 b1) λ (x25 : I3) => K (x25, 0, ())
def Dc3 : Hint := (hS (hR 2) (hS (hR 6) (hJ (0x3fffffffc20, []) (hS (hR 7) (hJ (0x7ff0000, [(26, tB)]) (.region [] (.ops 5 (.split 20 (hO 6) (.skips 5 (hO 1))))) (hC (.region (lR 16) (hO 16)) hL))) (hS (.region (lR 8) (hO 8)) hL))))
theorem Dq0 {a0 : Option Addr} {K : (I3 × Int × Unit) -> Wp} {w : World} (h : F138 a0 K w) : Aa Tryz.prog 138 #[(.pointer a0)] (.tup [(.agg c83), (.one cI)]) K w := tied Ai Tryz.func138 Dc3 _ h
def F139 (a0 : Option Addr) (K : (I3 × Int × Unit) -> Wp) : Wp := Af (.cells #[(vI 0), (vI 0), (vI 0)] 83) λ b1 => drew <| nn a0 λ p2 => lds Bc (p2.add 9) λ (x3 : (Int × Int × Int × Int × Int × Sl × Sl × Unit)) => nn a0 λ p4 => ld cI (p4.add 3) λ (x5 : Int) => cN 181 #[(.pointer a0)] λ x6 => keep (λ w => w.cell? (p4.add 3) = some (Cell.val cI x5)) <| keep (λ w => Ak w (p2.add 9) 0 (Cells.vals Bc x3)) <| cN 79 #[(vA Bc x3), (vI (if x6 < (W64 (x5 - 1)) then x6 else (W64 (x5 - 1))))] λ x7 => Aa Tryz.prog 180 #[(.pointer a0), (vI x7), (vI 0)] (.tup [(.agg c83), (.one cI)]) λ (x8 : (I3 × Int × Unit)) => Ae (at0 b1) (vA c83 x8.1) 3 <| lds c83 (at0 b1) λ (x9 : I3) => K (x9, x8.2.1, ())
def Dc2 : Hint := (hS (hR 2) (hS (.region (lR 19) (hO 19)) hL))
theorem Dp9 {a0 : Option Addr} {K : (I3 × Int × Unit) -> Wp} {w : World} (h : F139 a0 K w) : Aa Tryz.prog 139 #[(.pointer a0)] (.tup [(.agg c83), (.one cI)]) K w := tied Ai Tryz.func139 Dc2 _ h
def F140 (a0 : Option Addr) (K : (I3 × Int × Unit) -> Wp) : Wp := Af (.cells #[(vI 0), (vI 0), (vI 0)] 83) λ b1 => Aa Tryz.prog 183 #[(.pointer a0), (vI 1), (vI 0), (vI 1)] (.tup [(.agg c83), (.one cI)]) λ (x2 : (I3 × Int × Unit)) => Ae (at0 b1) (vA c83 x2.1) 3 <| lds c83 (at0 b1) λ (x3 : I3) => K (x3, x2.2.1, ())
def Dc1 : Hint := (hS (hR 2) (hS (hR 6) hL))
theorem Dp8 {a0 : Option Addr} {K : (I3 × Int × Unit) -> Wp} {w : World} (h : F140 a0 K w) : Aa Tryz.prog 140 #[(.pointer a0)] (.tup [(.agg c83), (.one cI)]) K w := tied Ai Tryz.func140 Dc1 _ h
def F141 (a0 : Option Addr) (K : (I3 × Int × Unit) -> Wp) : Wp := Af (.cells #[(vI 0), (vI 0), (vI 0)] 83) λ b1 => Aa Tryz.prog 183 #[(.pointer a0), (vI (-1)), (vI 0), (vI 0)] (.tup [(.agg c83), (.one cI)]) λ (x2 : (I3 × Int × Unit)) => Ae (at0 b1) (vA c83 x2.1) 3 <| lds c83 (at0 b1) λ (x3 : I3) => K (x3, x2.2.1, ())
def Dc0 : Hint := (hS (hR 2) (hS (hR 6) hL))
theorem Dp7 {a0 : Option Addr} {K : (I3 × Int × Unit) -> Wp} {w : World} (h : F141 a0 K w) : Aa Tryz.prog 141 #[(.pointer a0)] (.tup [(.agg c83), (.one cI)]) K w := tied Ai Tryz.func141 Dc0 _ h
def F142 (a0 : Option Addr) (K : (I3 × Int × Unit) -> Wp) : Wp := Af (.cells #[(vI 0), (vI 0), (vI 0)] 83) λ b1 => Aa Tryz.prog 183 #[(.pointer a0), (vI 1), (vI (-1)), (vI 1)] (.tup [(.agg c83), (.one cI)]) λ (x2 : (I3 × Int × Unit)) => Ae (at0 b1) (vA c83 x2.1) 3 <| lds c83 (at0 b1) λ (x3 : I3) => K (x3, x2.2.1, ())
def Db9 : Hint := (hS (hR 2) (hS (hR 6) hL))
theorem Dp6 {a0 : Option Addr} {K : (I3 × Int × Unit) -> Wp} {w : World} (h : F142 a0 K w) : Aa Tryz.prog 142 #[(.pointer a0)] (.tup [(.agg c83), (.one cI)]) K w := tied Ai Tryz.func142 Db9 _ h
def F143 (a0 : Option Addr) (K : (I3 × Int × Unit) -> Wp) : Wp := Af (.cells #[(vI 0), (vI 0), (vI 0)] 83) λ b1 => Aa Tryz.prog 183 #[(.pointer a0), (vI (-1)), (vI 1), (vI 0)] (.tup [(.agg c83), (.one cI)]) λ (x2 : (I3 × Int × Unit)) => Ae (at0 b1) (vA c83 x2.1) 3 <| lds c83 (at0 b1) λ (x3 : I3) => K (x3, x2.2.1, ())
def Db8 : Hint := (hS (hR 2) (hS (hR 6) hL))
theorem Dp5 {a0 : Option Addr} {K : (I3 × Int × Unit) -> Wp} {w : World} (h : F143 a0 K w) : Aa Tryz.prog 143 #[(.pointer a0)] (.tup [(.agg c83), (.one cI)]) K w := tied Ai Tryz.func143 Db8 _ h
def F157 (a0 : Option Addr) (K : (I3 × Int × Unit) -> Wp) : Wp := Af (.cells #[(vI 0), (vI 0), (vI 0)] 83) λ b1 => drew <| nn a0 λ p2 => lds Bc (p2.add 9) λ (x3 : (Int × Int × Int × Int × Int × Sl × Sl × Unit)) => nn a0 λ p4 => ld (.ptr) p4 λ (x5 : Option Addr) => cB 193 #[(vA Bc x3)] λ x6 => keep (λ w => w.cell? p4 = some (Cell.val (.ptr) x5)) <| cN 87 #[(.pointer x5)] λ x7 => nn a0 λ p8 => ld cI (p8.add 3) λ (x9 : Int) => jU (λ J10 => nn a0 λ p12 => ld cI ((p12.add 9).add 4) λ (x13 : Int) => Ho (S := Bool × Int × Int × Unit) (λ s14 again15 => sif (decide (s14.2.2.1 <= (W64 (x7 - 1)))) ( nn a0 λ p16 => ld (.ptr) p16 λ (x17 : Option Addr) => Aa Tryz.prog 86 #[(.pointer x17), (vI s14.2.2.1)] (.one (.agg Bc)) λ (x18 : (Int × Int × Int × Int × Int × Sl × Sl × Unit)) => Af (.cells #[(vI 0), (vI 0), (vI 0), (vI 0), (vI 0), (.slice none 0 0), (.slice none 0 0)] 135) λ b19 => Ae (at0 b19) (vA Bc x18) 7 <| lds Bc (at0 b19) λ (x20 : (Int × Int × Int × Int × Int × Sl × Sl × Unit)) => cB 193 #[(vA Bc x20)] λ x21 => jI (λ J22 => jB (λ J24 => sif x21 ( J24 ((!s14.1), ())) ( J24 (false, ()))) λ s25 => sif s25.1 ( sif ((W64 (s14.2.1 - 1)) == 0) ( lI (at0 b19) λ x26 => Aa Tryz.prog 180 #[(.pointer a0), (vI x26), (vI 0)] (.tup [(.agg c83), (.one cI)]) λ (x27 : (I3 × Int × Unit)) => Ae (at0 b1) (vA c83 x27.1) 3 <| lds c83 (at0 b1) λ (x28 : I3) => K (x28, x27.2.1, ())) ( J22 ((W64 (s14.2.1 - 1)), ()))) ( J22 (s14.2.1, ()))) λ s23 => again15 (x21, s23.1, (W64 (s14.2.2.1 + 1)), ())) ( J10 ())) (x6, x9, (W64 (x13 + 1)), ())) λ s11 => cN 189 #[(.pointer a0)] λ x29 => nn a0 λ p30 => ld cI (p30.add 1) λ (x31 : Int) => sif (x29 != x31) ( Aa Tryz.prog 180 #[(.pointer a0), (vI x29), (vI 1)] (.tup [(.agg c83), (.one cI)]) λ (x32 : (I3 × Int × Unit)) => Ae (at0 b1) (vA c83 x32.1) 3 <| lds c83 (at0 b1) λ (x33 : I3) => K (x33, x32.2.1, ())) ( Aa Tryz.prog 179 #[] (.tup [(.agg c83), (.one cI)]) λ (x34 : (I3 × Int × Unit)) => Ae (at0 b1) (vA c83 x34.1) 3 <| lds c83 (at0 b1) λ (x35 : I3) => K (x35, x34.2.1, ()))
def Db7 : Hint := (hS (hR 2) (hS (.region [0, 1, 2, 3, 5, 6, 7, 8, 4, 9, 10, 11, 12] (hO 13)) (hS (hR 5) (hJ (0x3ffffffffc0003d8, []) (hS (hR 7) (.block (.loop 0x3fffffff000003d8 [(4, tB), (6, tI), (7, tI)] (hS (hS (hR 3) (hC hL hL)) (hS (.block (hS (hR 8) (hS (hR 3) (hJ (0x1fffe00000000048, [(6, tI)]) (hJ ((mR [(45, 50)]), [(49, tB)]) (.region [] (.ops 2 (.split 46 (hO 3) (.skips 2 (hO 1))))) (hC (hS (hR 3) (hS (hR 2) (hC (hS (hR 9) hL) hL))) hL)) (hR 2))))) (hR 3)))))) (hS (hS (hR 3) (hS (hR 6) (hC (hS (hR 7) hL) hL))) (hS (hR 5) hL))))))
theorem Dp4 {a0 : Option Addr} {K : (I3 × Int × Unit) -> Wp} {w : World} (h : F157 a0 K w) : Aa Tryz.prog 157 #[(.pointer a0)] (.tup [(.agg c83), (.one cI)]) K w := tied Ai Tryz.func157 Db7 _ h
def F158 (a0 : Option Addr) (K : (I3 × Int × Unit) -> Wp) : Wp := Af (.cells #[(vI 0), (vI 0), (vI 0)] 83) λ b1 => nn a0 λ p2 => lds Bc (p2.add 9) λ (x3 : (Int × Int × Int × Int × Int × Sl × Sl × Unit)) => cB 193 #[(vA Bc x3)] λ x4 => nn a0 λ p5 => ld cI (p5.add 3) λ (x6 : Int) => jU (λ J7 => nn a0 λ p9 => ld cI ((p9.add 9).add 4) λ (x10 : Int) => Ho (S := Bool × Int × Int × Unit) (λ s11 again12 => sif (decide (s11.2.2.1 >= 0)) ( nn a0 λ p13 => ld (.ptr) p13 λ (x14 : Option Addr) => Aa Tryz.prog 86 #[(.pointer x14), (vI s11.2.2.1)] (.one (.agg Bc)) λ (x15 : (Int × Int × Int × Int × Int × Sl × Sl × Unit)) => Af (.cells #[(vI 0), (vI 0), (vI 0), (vI 0), (vI 0), (.slice none 0 0), (.slice none 0 0)] 135) λ b16 => Ae (at0 b16) (vA Bc x15) 7 <| lds Bc (at0 b16) λ (x17 : (Int × Int × Int × Int × Int × Sl × Sl × Unit)) => cB 193 #[(vA Bc x17)] λ x18 => jI (λ J19 => jB (λ J21 => sif x18 ( J21 ((!s11.1), ())) ( J21 (false, ()))) λ s22 => sif s22.1 ( sif ((W64 (s11.2.1 - 1)) == 0) ( lI (at0 b16) λ x23 => Aa Tryz.prog 180 #[(.pointer a0), (vI x23), (vI 0)] (.tup [(.agg c83), (.one cI)]) λ (x24 : (I3 × Int × Unit)) => Ae (at0 b1) (vA c83 x24.1) 3 <| lds c83 (at0 b1) λ (x25 : I3) => K (x25, x24.2.1, ())) ( J19 ((W64 (s11.2.1 - 1)), ()))) ( J19 (s11.2.1, ()))) λ s20 => again12 (x18, s20.1, (W64 (s11.2.2.1 - 1)), ())) ( J7 ())) (x4, x6, (W64 (x10 - 1)), ())) λ s8 => nn a0 λ p26 => ld cI (p26.add 1) λ (x27 : Int) => sif (x27 == 0) ( Aa Tryz.prog 179 #[] (.tup [(.agg c83), (.one cI)]) λ (x28 : (I3 × Int × Unit)) => Ae (at0 b1) (vA c83 x28.1) 3 <| lds c83 (at0 b1) λ (x29 : I3) => K (x29, x28.2.1, ())) ( Aa Tryz.prog 180 #[(.pointer a0), (vI 0), (vI 0)] (.tup [(.agg c83), (.one cI)]) λ (x30 : (I3 × Int × Unit)) => Ae (at0 b1) (vA c83 x30.1) 3 <| lds c83 (at0 b1) λ (x31 : I3) => K (x31, x30.2.1, ()))
def Db6 : Hint := (hS (hR 2) (hS (hR 6) (hS (hR 5) (hJ (0x1ffffffffc01f8, []) (hS (hR 7) (.block (.loop 0x1fffffff0001f8 [(4, tB), (5, tI), (6, tI)] (hS (hS (hR 2) (hC hL hL)) (hS (.block (hS (hR 8) (hS (hR 3) (hJ (0xffff000000028, [(5, tI)]) (hJ (0x1f000000000, [(40, tB)]) (.region [] (.ops 2 (.split 37 (hO 3) (.skips 2 (hO 1))))) (hC (hS (hR 3) (hS (hR 2) (hC (hS (hR 9) hL) hL))) hL)) (hR 2))))) (hR 3)))))) (hS (hS (hR 5) (hC (hS (hR 5) hL) hL)) (hS (hR 6) hL))))))
theorem Dp3 {a0 : Option Addr} {K : (I3 × Int × Unit) -> Wp} {w : World} (h : F158 a0 K w) : Aa Tryz.prog 158 #[(.pointer a0)] (.tup [(.agg c83), (.one cI)]) K w := tied Ai Tryz.func158 Db6 _ h
def F159 (a0 : Option Addr) (K : (I3 × Int × Unit) -> Wp) : Wp := Af (.cells #[(vI 0), (vI 0), (vI 0)] 83) λ b1 => Aa Tryz.prog 187 #[(.pointer a0)] rP λ (x2 : Option Addr) => nn x2 λ p3 => ld cI ((p3.add 1).add 4) λ (x4 : Int) => jU (λ J5 => sU (λ s7 again8 => cN 194 #[(.pointer x2)] λ x9 => sif (decide (x9 < 0)) ( jB (λ J10 => cB 162 #[(.pointer x2)] λ x12 => sif (!x12) ( J10 (true, ())) ( nn x2 λ p13 => ld cI ((p13.add 1).add 4) λ (x14 : Int) => J10 ((x14 != x4), ()))) λ s11 => sif s11.1 ( Aa Tryz.prog 179 #[] (.tup [(.agg c83), (.one cI)]) λ (x15 : (I3 × Int × Unit)) => Ae (at0 b1) (vA c83 x15.1) 3 <| lds c83 (at0 b1) λ (x16 : I3) => K (x16, x15.2.1, ())) ( again8 ())) ( J5 ())) ()) λ s6 => cN 194 #[(.pointer x2)] λ x17 => join (S := Value × Unit) (λ J18 => sif (decide (x17 >= 3)) ( J18 ((.func (Fn.func 195) #[(.pointer x2)] #[]), ())) ( J18 ((.func (Fn.func 162) #[(.pointer x2)] #[]), ()))) λ s19 => jI (λ J20 => sI (λ s22 again23 => Cb Tryz.prog (do let d ← Deferred.ofValue s19.1 #[]; invoke d.target d.args : Sem Next) rB λ (x24 : Bool) => sif x24 ( cN 194 #[(.pointer x2)] λ x25 => jB (λ J26 => sif (decide (x25 < 0)) ( J26 (true, ())) ( chk ((3 : Int) ≠ 0) <| chk ((3 : Int) ≠ 0) <| J26 (((Int.tmod x25 3) != (Int.tmod x17 3)), ()))) λ s27 => sif s27.1 ( again23 (s22.1, ())) ( sif (x25 == x17) ( again23 ((W64 (s22.1 + 1)), ())) ( sif ((W64 (s22.1 - 1)) == 0) ( J20 ((W64 (s22.1 - 1)), ())) ( again23 ((W64 (s22.1 - 1)), ()))))) ( J20 (s22.1, ()))) (1, ())) λ s21 => sif (decide (s21.1 > 0)) ( Aa Tryz.prog 179 #[] (.tup [(.agg c83), (.one cI)]) λ (x28 : (I3 × Int × Unit)) => Ae (at0 b1) (vA c83 x28.1) 3 <| lds c83 (at0 b1) λ (x29 : I3) => K (x29, x28.2.1, ())) ( cN 164 #[(.pointer x2)] λ x30 => Aa Tryz.prog 180 #[(.pointer a0), (vI x30), (vI 1)] (.tup [(.agg c83), (.one cI)]) λ (x31 : (I3 × Int × Unit)) => Ae (at0 b1) (vA c83 x31.1) 3 <| lds c83 (at0 b1) λ (x32 : I3) => K (x32, x31.2.1, ()))
def Db5 : Hint := (hS (hR 2) (.scope (hS (hR 3) (hS (hR 6) (hJ (0x7fffe0008, []) (.block (.loop 0x7fffe0008 [] (hS (hS (hR 3) (hC hL hL)) (.block (hJ (0xfff00000, [(31, tB)]) (.region [] (.ops 4 (.split 23 (.skips 7 (hO 1)) (hO 8)))) (hC (hS (hR 5) hL) hL)))))) (hS (hR 3) (hS (hR 3) (hJ (0x78000000080, [(7, (.one .any))]) (hS (hR 2) (hC (hR 3) hL)) (hS (hR 1) (hS hL (hJ (0x7fffff80000000300, [(8, tI)]) (.block (.loop 0x7fffff80000000300 [(8, tI)] (hS (hS (hR 2) (hC hL hL)) (.block (hS (hR 3) (hS (.block (hJ ((mR [(47, 57)]), [(47, tB)]) (.region [] (.ops 3 (.split 50 (.skips 5 (hO 2)) (hO 7)))) (hC hL (hS (hR 4) (hC (hS (hR 3) hL) hL))))) (hS (hR 3) (hS (hR 2) (hC hL hL))))))))) (hS (hS (hR 2) (hC (hS (hR 5) hL) hL)) (hS (hR 8) hL)))))))))))))
theorem Dp2 {a0 : Option Addr} {K : (I3 × Int × Unit) -> Wp} {w : World} (h : F159 a0 K w) : Aa Tryz.prog 159 #[(.pointer a0)] (.tup [(.agg c83), (.one cI)]) K w := tied Ai Tryz.func159 Db5 _ h
def F161 (a0 : Option Addr) (a1 : Int) (a2 : Bool) (a3 : Bool) (K : Option Addr -> Wp) : Wp := Aa Tryz.prog 78 #[(.pointer a0), (vI a1), (.bool a2)] (.one (.agg Bc)) λ (x1 : (Int × Int × Int × Int × Int × Sl × Sl × Unit)) => Af (.cells #[(vI 0), (vI 0), (vI 0), (vI 0), (vI 0), (.slice none 0 0), (.slice none 0 0)] 135) λ b2 => Ae (at0 b2) (vA Bc x1) 7 <| drew <| lds Bc (at0 b2) λ (x3 : (Int × Int × Int × Int × Int × Sl × Sl × Unit)) => lds Bc (at0 b2) λ (x4 : (Int × Int × Int × Int × Int × Sl × Sl × Unit)) => cN 81 #[(vA Bc x4), (vI a1)] λ x5 => keep (λ w => Ak w (at0 b2) 0 (Cells.vals Bc x3)) <| cN 87 #[(.pointer a0)] λ x6 => keep (λ w => Ak w (at0 b2) 0 (Cells.vals Bc x3)) <| Af (.cells (Value.cells (.agg #[(.pointer a0), (vI x3.1), (vI x3.2.1), (vI x3.2.2.1), (vI x3.2.2.2.1), (vI x3.2.2.2.2.1), x3.2.2.2.2.2.1.v, x3.2.2.2.2.2.2.1.v, (vI x5), (vI (W64 (x6 - 1))), (.bool a3)])) 201) λ b7 => K (some (at0 b7))
def Db3 : Hint := (hS (hR 1) (hS (hR 6) (hS (.region [0, 1, 2, 3, 5, 8, 4, 6, 7, 9, 10, 11] (hO 12)) hL)))
theorem Dp0 {a0 : Option Addr} {a1 : Int} {a2 : Bool} {a3 : Bool} {K : Option Addr -> Wp} {w : World} (h : F161 a0 a1 a2 a3 K w) : Aa Tryz.prog 161 #[(.pointer a0), (vI a1), (.bool a2), (.bool a3)] rP K w := tied Ai Tryz.func161 Db3 _ h
def F162 (a0 : Option Addr) (K : Bool -> Wp) : Wp := drew <| nn a0 λ p1 => ld cI (p1.add 8) λ (x2 : Int) => nn a0 λ p3 => lds Bc (p3.add 1) λ (x4 : (Int × Int × Int × Int × Int × Sl × Sl × Unit)) => cN 80 #[(vA Bc x4)] λ x5 => keep (λ w => w.cell? (p1.add 8) = some (Cell.val cI x2)) <| sif (decide ((W64 (x2 + 1)) < x5)) ( nn a0 λ p6 => ld cI (p6.add 8) λ (x7 : Int) => nn a0 λ p8 => stC (p8.add 8) (vI (W64 (x7 + 1))) <| K true) ( drew <| nn a0 λ p9 => ld cI ((p9.add 1).add 4) λ (x10 : Int) => nn a0 λ p11 => ld cI (p11.add 9) λ (x12 : Int) => sif (decide (x10 >= x12)) ( K false) ( drew <| nn a0 λ p13 => ld (.ptr) p13 λ (x14 : Option Addr) => nn a0 λ p15 => ld cI ((p15.add 1).add 4) λ (x16 : Int) => Aa Tryz.prog 86 #[(.pointer x14), (vI (W64 (x16 + 1)))] (.one (.agg Bc)) λ (x17 : (Int × Int × Int × Int × Int × Sl × Sl × Unit)) => nn a0 λ p18 => Ae (p18.add 1) (vA Bc x17) 7 <| nn a0 λ p19 => stC (p19.add 8) (vI 0) <| K true))
def Db2 : Hint := (hS (hR 1) (hS (hS (.region (lR 11) (hO 11)) (hC (hS (hR 8) (hS (hR 1) hL)) hL)) (hS (hS (.region (lR 10) (hO 10)) (hC (hS (hR 1) hL) hL)) (hS (.region (lR 19) (hO 19)) (hS (hR 1) hL)))))
theorem Do9 {a0 : Option Addr} {K : Bool -> Wp} {w : World} (h : F162 a0 K w) : Aa Tryz.prog 162 #[(.pointer a0)] rB K w := tied Ai Tryz.func162 Db2 _ h
def F164 (a0 : Option Addr) (K : Int -> Wp) : Wp := drew <| nn a0 λ p1 => lds Bc (p1.add 1) λ (x2 : (Int × Int × Int × Int × Int × Sl × Sl × Unit)) => nn a0 λ p3 => ld cI (p3.add 8) λ (x4 : Int) => cN 79 #[(vA Bc x2), (vI x4)] λ x5 => K x5
def Db1 : Hint := (hS (hR 1) (hS (.region (lR 10) (hO 10)) hL))
theorem Do8 {a0 : Option Addr} {K : Int -> Wp} {w : World} (h : F164 a0 K w) : Aa Tryz.prog 164 #[(.pointer a0)] rI K w := tied Ai Tryz.func164 Db1 _ h
def F166 (a0 : Option Addr) (a1 : Int) (a2 : Int) (K : I4 -> Wp) : Wp := Af (.cells #[(vI 0), (vI 0), (vI 0), (vI 0)] 133) λ b1 => cS 25 #[(.pointer a0), (vI (if (W64 (a2 - 2)) > a1 then (W64 (a2 - 2)) else a1)), (vI a2)] λ x2 => ixI x2 (W64 (((x2.len : Nat) : Int) - 1)) 1 λ x4 => sif (x4 == 13) ( Ae (at0 b1) (.agg #[(vI a1), (vI (W64 (a2 - 1))), (vI a2), (vI 3)]) 4 <| lds Jl (at0 b1) λ (x5 : I4) => K x5) ( jB (λ J6 => sif (decide ((W64 (((x2.len : Nat) : Int) - 1)) > 0)) ( ix x2.a x2.len (W64 ((W64 (((x2.len : Nat) : Int) - 1)) - 1)) λ p8 => ld cI (p8.add (scaled (Int.toNat (W64 ((W64 (((x2.len : Nat) : Int) - 1)) - 1))) 1)) λ (x9 : Int) => J6 ((x9 == 13), ())) ( J6 (false, ()))) λ s7 => sif s7.1 ( Ae (at0 b1) (.agg #[(vI a1), (vI (W64 (a2 - 2))), (vI a2), (vI 2)]) 4 <| lds Jl (at0 b1) λ (x10 : I4) => K x10) ( Ae (at0 b1) (.agg #[(vI a1), (vI (W64 (a2 - 1))), (vI a2), (vI 1)]) 4 <| lds Jl (at0 b1) λ (x11 : I4) => K x11))
def Da9 : Hint := (hS (hR 1) (hS (hR 8) (hS (hR 4) (hS (.block (hS (hR 6) (hC (hS (hR 6) hL) (hJ (0x1ffc0000000, [(30, tB)]) (.region [] (.ops 3 (.split 33 (hO 8) (.skips 6 (hO 2))))) (hC (hS (hR 6) hL) hL))))) (hS (hR 6) hL)))))
theorem Do6 {a0 : Option Addr} {a1 : Int} {a2 : Int} {K : I4 -> Wp} {w : World} (h : F166 a0 a1 a2 K w) : Aa Tryz.prog 166 #[(.pointer a0), (vI a1), (vI a2)] (.one (.agg Jl)) K w := tied Ai Tryz.func166 Da9 _ h
def F179  (K : (I3 × Int × Unit) -> Wp) : Wp := Af (.cells #[(vI 0), (vI 0), (vI 0)] 83) λ b1 => Ae (at0 b1) (.agg #[(vI 0), (vI 0), (vI 0)]) 3 <| lds c83 (at0 b1) λ (x2 : I3) => K (x2, 80, ())
def Cz9 : Hint := (hS (hR 2) (hS (hR 3) hL))
theorem Dn8 {K : (I3 × Int × Unit) -> Wp} {w : World} (h : F179  K w) : Aa Tryz.prog 179 #[] (.tup [(.agg c83), (.one cI)]) K w := tied Ai Tryz.func179 Cz9 _ h
def F180 (a0 : Option Addr) (a1 : Int) (a2 : Int) (K : (I3 × Int × Unit) -> Wp) : Wp := Af (.cells #[(vI 0), (vI 0), (vI 0)] 83) λ b1 => nn a0 λ p2 => ld (.ptr) p2 λ (x3 : Option Addr) => cN 38 #[(.pointer x3), (vI a1)] λ x4 => Ae (at0 b1) (.agg #[(vI a1), (vI a2), (vI x4)]) 3 <| lds c83 (at0 b1) λ (x5 : I3) => K (x5, 0, ())
def Cz8 : Hint := (hS (hR 2) (hS (hR 11) hL))
theorem Dn7 {a0 : Option Addr} {a1 : Int} {a2 : Int} {K : (I3 × Int × Unit) -> Wp} {w : World} (h : F180 a0 a1 a2 K w) : Aa Tryz.prog 180 #[(.pointer a0), (vI a1), (vI a2)] (.tup [(.agg c83), (.one cI)]) K w := tied Ai Tryz.func180 Cz8 _ h
def F181 (a0 : Option Addr) (K : Int -> Wp) : Wp := nn a0 λ p1 => ld (.bool) (p1.add 7) λ (x2 : Bool) => sif x2 ( nn a0 λ p3 => lds Bc (p3.add 9) λ (x4 : (Int × Int × Int × Int × Int × Sl × Sl × Unit)) => cN 80 #[(vA Bc x4)] λ x5 => K x5) ( nn a0 λ p6 => lds Bc (p6.add 9) λ (x7 : (Int × Int × Int × Int × Int × Sl × Sl × Unit)) => cN 80 #[(vA Bc x7)] λ x8 => K (if 0 > (W64 (x8 - 1)) then 0 else (W64 (x8 - 1))))
def Cz7 : Hint := (hS (hR 1) (hS (hS (hR 4) (hC (hS (hR 6) hL) hL)) (hS (hR 8) hL)))
theorem Dn6 {a0 : Option Addr} {K : Int -> Wp} {w : World} (h : F181 a0 K w) : Aa Tryz.prog 181 #[(.pointer a0)] rI K w := tied Ai Tryz.func181 Cz7 _ h
def F182 (a0 : (Int × Int × Int × Int × Int × Sl × Sl × Unit)) (K : Int -> Wp) : Wp := Af (.cells #[(vI a0.1), (vI a0.2.1), (vI a0.2.2.1), (vI a0.2.2.2.1), (vI a0.2.2.2.2.1), a0.2.2.2.2.2.1.v, a0.2.2.2.2.2.2.1.v] 135) λ b1 => jU (λ J2 => lds Bc (at0 b1) λ (x4 : (Int × Int × Int × Int × Int × Sl × Sl × Unit)) => cN 80 #[(vA Bc x4)] λ x5 => sI (λ s6 again7 => sif (decide (s6.1 < x5)) ( lds Bc (at0 b1) λ (x8 : (Int × Int × Int × Int × Int × Sl × Sl × Unit)) => cN 197 #[(vA Bc x8), (vI s6.1), (.bool true)] λ x9 => sif (x9 != 0) ( K s6.1) ( again7 ((W64 (s6.1 + 1)), ()))) ( J2 ())) (0, ())) λ s3 => lds Bc (at0 b1) λ (x10 : (Int × Int × Int × Int × Int × Sl × Sl × Unit)) => cN 80 #[(vA Bc x10)] λ x11 => K (if 0 > (W64 (x11 - 1)) then 0 else (W64 (x11 - 1)))
def Cz6 : Hint := (hS (hR 2) (hJ (32764, []) (hS (hR 3) (.block (.loop 32716 [(6, tI)] (hS (hR 1) (hS (hC hL hL) (hS (.block (hS (hR 2) (hS (hR 4) (hC (hS (hR 2) hL) hL)))) (hR 2))))))) (hS (hR 5) hL)))
theorem Dn5 {a0 : (Int × Int × Int × Int × Int × Sl × Sl × Unit)} {K : Int -> Wp} {w : World} (h : F182 a0 K w) : Aa Tryz.prog 182 #[(vA Bc a0)] rI K w := tied Ai Tryz.func182 Cz6 _ h
def F183 (a0 : Option Addr) (a1 : Int) (a2 : Int) (a3 : Int) (K : (I3 × Int × Unit) -> Wp) : Wp := Af (.cells #[(vI 0), (vI 0), (vI 0)] 83) λ b1 => cN 203 #[(.pointer a0), (vI a1)] λ x2 => sif (decide (x2 < 0)) ( Aa Tryz.prog 179 #[] (.tup [(.agg c83), (.one cI)]) λ (x3 : (I3 × Int × Unit)) => Ae (at0 b1) (vA c83 x3.1) 3 <| lds c83 (at0 b1) λ (x4 : I3) => K (x4, x3.2.1, ())) ( nn a0 λ p5 => lds Bc (p5.add 9) λ (x6 : (Int × Int × Int × Int × Int × Sl × Sl × Unit)) => cN 79 #[(vA Bc x6), (vI (W64 (x2 + a2)))] λ x7 => Aa Tryz.prog 180 #[(.pointer a0), (vI x7), (vI a3)] (.tup [(.agg c83), (.one cI)]) λ (x8 : (I3 × Int × Unit)) => Ae (at0 b1) (vA c83 x8.1) 3 <| lds c83 (at0 b1) λ (x9 : I3) => K (x9, x8.2.1, ()))
def Cz5 : Hint := (hS (hR 2) (hS (hR 4) (hS (hS (hR 2) (hC (hS (hR 5) hL) hL)) (hS (hR 15) hL))))
theorem Cu3 {a0 : Option Addr} {a1 : Int} {a2 : Int} {a3 : Int} {K : (I3 × Int × Unit) -> Wp} {w : World} (h : F183 a0 a1 a2 a3 K w) : Aa Tryz.prog 183 #[(.pointer a0), (vI a1), (vI a2), (vI a3)] (.tup [(.agg c83), (.one cI)]) K w := tied Ai Tryz.func183 Cz5 _ h
def F187 (a0 : Option Addr) (K : Option Addr -> Wp) : Wp := drew <| nn a0 λ p1 => ld (.ptr) p1 λ (x2 : Option Addr) => nn a0 λ p3 => ld cI (p3.add 1) λ (x4 : Int) => nn a0 λ p5 => ld (.bool) (p5.add 7) λ (x6 : Bool) => nn a0 λ p7 => ld (.bool) (p7.add 8) λ (x8 : Bool) => Aa Tryz.prog 161 #[(.pointer x2), (vI x4), (.bool x6), (.bool x8)] rP λ (x9 : Option Addr) => K x9
def Cz4 : Hint := (hS (hR 1) (hS (.region (lR 18) (hO 18)) hL))
theorem Dn4 {a0 : Option Addr} {K : Option Addr -> Wp} {w : World} (h : F187 a0 K w) : Aa Tryz.prog 187 #[(.pointer a0)] rP K w := tied Ai Tryz.func187 Cz4 _ h
def F189 (a0 : Option Addr) (K : Int -> Wp) : Wp := drew <| nn a0 λ p1 => ld (.ptr) p1 λ (x2 : Option Addr) => nn a0 λ p3 => ld (.ptr) p3 λ (x4 : Option Addr) => cN 23 #[(.pointer x4)] λ x5 => keep (λ w => w.cell? p1 = some (Cell.val (.ptr) x2)) <| cN 34 #[(.pointer x2), (vI x5), (.bool false)] λ x6 => K x6
def Cz3 : Hint := (hS (hR 1) (hS (.region (lR 11) (hO 11)) hL))
theorem Dn3 {a0 : Option Addr} {K : Int -> Wp} {w : World} (h : F189 a0 K w) : Aa Tryz.prog 189 #[(.pointer a0)] rI K w := tied Ai Tryz.func189 Cz3 _ h
def F193 (a0 : (Int × Int × Int × Int × Int × Sl × Sl × Unit)) (K : Bool -> Wp) : Wp := Af (.cells #[(vI a0.1), (vI a0.2.1), (vI a0.2.2.1), (vI a0.2.2.2.1), (vI a0.2.2.2.2.1), a0.2.2.2.2.2.1.v, a0.2.2.2.2.2.2.1.v] 135) λ b1 => lds Bc (at0 b1) λ (x2 : (Int × Int × Int × Int × Int × Sl × Sl × Unit)) => cN 80 #[(vA Bc x2)] λ x3 => drew <| sif (x3 == 0) ( K true) ( lds Bc (at0 b1) λ (x4 : (Int × Int × Int × Int × Int × Sl × Sl × Unit)) => lds Bc (at0 b1) λ (x5 : (Int × Int × Int × Int × Int × Sl × Sl × Unit)) => cN 182 #[(vA Bc x5)] λ x6 => keep (λ w => Ak w (at0 b1) 0 (Cells.vals Bc x4)) <| cN 197 #[(vA Bc x4), (vI x6), (.bool true)] λ x7 => K (x7 == 0))
def Cz2 : Hint := (hS (hR 2) (hS (hR 3) (hS (.region (lR 10) (.ops 3 (.split 8 (.skips 5 (hO 2)) (hO 7)))) hL)))
theorem Dn2 {a0 : (Int × Int × Int × Int × Int × Sl × Sl × Unit)} {K : Bool -> Wp} {w : World} (h : F193 a0 K w) : Aa Tryz.prog 193 #[(vA Bc a0)] rB K w := tied Ai Tryz.func193 Cz2 _ h
def F194 (a0 : Option Addr) (K : Int -> Wp) : Wp := jB (λ J1 => drew <| nn a0 λ p3 => ld cI (p3.add 8) λ (x4 : Int) => nn a0 λ p5 => lds Bc (p5.add 1) λ (x6 : (Int × Int × Int × Int × Int × Sl × Sl × Unit)) => cN 80 #[(vA Bc x6)] λ x7 => keep (λ w => w.cell? (p3.add 8) = some (Cell.val cI x4)) <| sif (decide (x4 >= x7)) ( J1 (true, ())) ( nn a0 λ p8 => ld (.sl) ((p8.add 1).add 6) λ (x9 : Sl) => nn a0 λ p10 => ld cI (p10.add 8) λ (x11 : Int) => ixI x9 (W64 (x11 + 1)) 1 λ x13 => nn a0 λ p14 => ld (.sl) ((p14.add 1).add 6) λ (x15 : Sl) => nn a0 λ p16 => ld cI (p16.add 8) λ (x17 : Int) => ixI x15 x17 1 λ x19 => J1 ((decide ((W64 (x13 - x19)) > 1)), ()))) λ s2 => sif s2.1 ( K (-1)) ( jU (λ J20 => sI (λ s22 again23 => sif (decide (s22.1 < 6)) ( drew <| nn a0 λ p24 => lds Bc (p24.add 1) λ (x25 : (Int × Int × Int × Int × Int × Sl × Sl × Unit)) => nn a0 λ p26 => ld cI (p26.add 8) λ (x27 : Int) => Cv2 ({ data := #[40, 91, 123, 41, 93, 125] }) s22.1 λ b28 => cN 204 #[(vA Bc x25), (vI x27)] λ x29 => sif (x29 == (W64 ((b28.toNat : Nat) : Int))) ( K s22.1) ( again23 ((W64 (s22.1 + 1)), ()))) ( J20 ())) (0, ())) λ s21 => K (-1))
def Cz1 : Hint := (hS (hR 1) (hS (hJ (0x1fffffffff0, [(40, tB)]) (.region (lR 37) (.ops 11 (.split 14 (.skips 25 (hO 1)) (hO 26)))) (hC (hS (hR 1) hL) hL)) (hJ (0x7fffe000000000c, []) (hS (hR 1) (.block (.loop 0x7fffe000000000c [(41, tI)] (hS (hR 1) (hS (hC hL hL) (hS (.block (hS (hR 2) (hS (.region [0, 1, 2, 3, 4, 5, 6, 7, 9, 10, 11, 8, 12] (hO 13)) (hC (hS (hR 2) hL) hL)))) (hR 2))))))) (hS (hR 1) hL))))
theorem Dn1 {a0 : Option Addr} {K : Int -> Wp} {w : World} (h : F194 a0 K w) : Aa Tryz.prog 194 #[(.pointer a0)] rI K w := tied Ai Tryz.func194 Cz1 _ h
def F195 (a0 : Option Addr) (K : Bool -> Wp) : Wp := nn a0 λ p1 => ld cI (p1.add 8) λ (x2 : Int) => sif (decide (x2 > 0)) ( nn a0 λ p3 => ld cI (p3.add 8) λ (x4 : Int) => nn a0 λ p5 => stC (p5.add 8) (vI (W64 (x4 - 1))) <| K true) ( nn a0 λ p6 => ld cI ((p6.add 1).add 4) λ (x7 : Int) => sif (x7 == 0) ( K false) ( drew <| nn a0 λ p8 => ld (.ptr) p8 λ (x9 : Option Addr) => nn a0 λ p10 => ld cI ((p10.add 1).add 4) λ (x11 : Int) => Aa Tryz.prog 86 #[(.pointer x9), (vI (W64 (x11 - 1)))] (.one (.agg Bc)) λ (x12 : (Int × Int × Int × Int × Int × Sl × Sl × Unit)) => nn a0 λ p13 => Ae (p13.add 1) (vA Bc x12) 7 <| nn a0 λ p14 => lds Bc (p14.add 1) λ (x15 : (Int × Int × Int × Int × Int × Sl × Sl × Unit)) => cN 80 #[(vA Bc x15)] λ x16 => nn a0 λ p17 => stC (p17.add 8) (vI (if 0 > (W64 (x16 - 1)) then 0 else (W64 (x16 - 1)))) <| K true))
def Cz0 : Hint := (hS (hR 1) (hS (hS (hR 5) (hC (hS (hR 8) (hS (hR 1) hL)) hL)) (hS (hS (hR 6) (hC (hS (hR 1) hL) hL)) (hS (.region (lR 15) (hO 15)) (hS (hR 11) (hS (hR 1) hL))))))
theorem Dn0 {a0 : Option Addr} {K : Bool -> Wp} {w : World} (h : F195 a0 K w) : Aa Tryz.prog 195 #[(.pointer a0)] rB K w := tied Ai Tryz.func195 Cz0 _ h
def F197 (a0 : (Int × Int × Int × Int × Int × Sl × Sl × Unit)) (a1 : Int) (a2 : Bool) (K : Int -> Wp) : Wp := Af (.cells #[(vI a0.1), (vI a0.2.1), (vI a0.2.2.1), (vI a0.2.2.2.1), (vI a0.2.2.2.2.1), a0.2.2.2.2.2.1.v, a0.2.2.2.2.2.2.1.v] 135) λ b1 => lds Bc (at0 b1) λ (x2 : (Int × Int × Int × Int × Int × Sl × Sl × Unit)) => cN 204 #[(vA Bc x2), (vI a1)] λ x3 => cN 205 #[(vI x3)] λ x4 => sif a2 ( K (if 1 < x4 then 1 else x4)) ( K x4)
def Cy9 : Hint := (hS (hR 2) (hS (hR 5) (hS (hS (hR 1) (hC (hS (hR 3) hL) hL)) (hS (hR 2) hL))))
theorem Dm9 {a0 : (Int × Int × Int × Int × Int × Sl × Sl × Unit)} {a1 : Int} {a2 : Bool} {K : Int -> Wp} {w : World} (h : F197 a0 a1 a2 K w) : Aa Tryz.prog 197 #[(vA Bc a0), (vI a1), (.bool a2)] rI K w := tied Ai Tryz.func197 Cy9 _ h
def F203 (a0 : Option Addr) (a1 : Int) (K : Int -> Wp) : Wp := nn a0 λ p1 => ld cI (p1.add 3) λ (x2 : Int) => jU (λ J3 => nn a0 λ p5 => ld cI (p5.add 2) λ (x6 : Int) => sN (λ s7 again8 => jB (λ J9 => sif (decide (s7.2.1 >= 0)) ( nn a0 λ p11 => lds Bc (p11.add 9) λ (x12 : (Int × Int × Int × Int × Int × Sl × Sl × Unit)) => cN 80 #[(vA Bc x12)] λ x13 => J9 ((decide (s7.2.1 < x13)), ())) ( J9 (false, ()))) λ s10 => sif s10.1 ( jI (λ J14 => drew <| nn a0 λ p16 => lds Bc (p16.add 9) λ (x17 : (Int × Int × Int × Int × Int × Sl × Sl × Unit)) => nn a0 λ p18 => ld cI (p18.add 5) λ (x19 : Int) => cN 204 #[(vA Bc x17), (vI s7.2.1)] λ x20 => keep (λ w => w.cell? (p18.add 5) = some (Cell.val cI x19)) <| sif (x20 != x19) ( J14 (s7.1, ())) ( sif ((W64 (s7.1 - 1)) == 0) ( K s7.2.1) ( J14 ((W64 (s7.1 - 1)), ())))) λ s15 => again8 (s15.1, (W64 (s7.2.1 + a1)), ())) ( J3 ())) (x2, (W64 (x6 + a1)), ())) λ s4 => K (-1)
def Cy4 : Hint := (hS (hR 1) (hS (hR 5) (hJ (0x7ffffffff870, []) (hS (hR 7) (.block (.loop 0x7ffffffe0070 [(5, tI), (6, tI)] (hS (hJ (0xffe0000, [(27, tB)]) (.region [] (.ops 3 (.split 19 (hO 8) (.skips 7 (hO 1))))) (hC hL hL)) (hJ (0x7fff80000030, [(5, tI)]) (.block (hS (hS (.region [0, 1, 2, 3, 4, 6, 7, 8, 9, 5, 10] (hO 11)) (hC hL hL)) (hS (hR 3) (hS (hR 2) (hC (hS (hR 2) hL) hL))))) (hR 4)))))) (hS (hR 1) hL))))
theorem Cu2 {a0 : Option Addr} {a1 : Int} {K : Int -> Wp} {w : World} (h : F203 a0 a1 K w) : Aa Tryz.prog 203 #[(.pointer a0), (vI a1)] rI K w := tied Ai Tryz.func203 Cy4 _ h
def F204 (a0 : (Int × Int × Int × Int × Int × Sl × Sl × Unit)) (a1 : Int) (K : Int -> Wp) : Wp := Af (.cells #[(vI a0.1), (vI a0.2.1), (vI a0.2.2.1), (vI a0.2.2.2.1), (vI a0.2.2.2.2.1), a0.2.2.2.2.2.1.v, a0.2.2.2.2.2.2.1.v] 135) λ b1 => drew <| ld (.sl) (ad b1 5) λ (x2 : Sl) => ld (.sl) (ad b1 6) λ (x3 : Sl) => ixI x3 a1 1 λ x5 => ixI x2 x5 1 λ x7 => K x7
def Cy3 : Hint := (hS (hR 2) (hS (.region (lR 10) (hO 10)) hL))
theorem Dm4 {a0 : (Int × Int × Int × Int × Int × Sl × Sl × Unit)} {a1 : Int} {K : Int -> Wp} {w : World} (h : F204 a0 a1 K w) : Aa Tryz.prog 204 #[(vA Bc a0), (vI a1)] rI K w := tied Ai Tryz.func204 Cy3 _ h
end Go.Proofs.YtolhlldgnfbemaaGreatDoor
