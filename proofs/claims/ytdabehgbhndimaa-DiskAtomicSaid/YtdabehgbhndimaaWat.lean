/- DiskAtomic answers true. Conditions: arguments in memory. -/
import Derived.Test.YtdabehgbhndimaaWsv
set_option linter.unusedSimpArgs false
set_option linter.unusedVariables false
namespace Go.Proofs.Ytdabehgbhndimaa
open Go Go.Vx Dsk
section
variable {w w' w0 : World} {S P P' F F' F0 : Nat → Prop} {d : Nat} {D : Dk} {N n m : Nat}

theorem ba_append (a b : List UInt8) : (⟨a.toArray⟩ : ByteArray) ++ ⟨b.toArray⟩ = ⟨(a ++ b).toArray⟩ := by
  apply ByteArray.ext
  rw [ByteArray.data_append]
  simp
theorem flat_le {ls : List (List UInt8)} {B : Nat} (h : ∀ l ∈ ls, l.length ≤ B) : ls.flatten.length ≤ ls.length * B := by
  induction ls with
  | nil => simp
  | cons a r ih =>
    have h1 := h a List.mem_cons_self
    have h2 := ih fun l hl => h l (List.mem_cons_of_mem _ hl)
    simp only [List.flatten_cons, List.length_append, List.length_cons, Nat.add_mul]
    omega

/-- the disk with the old file and the other one -/
def oldD (old : List UInt8) : Dk := { newD 10000 with lasts := dset (fun _ => none) nText (some 0), files := [⟨old, old.length, 1⟩] }
def bothD (old : List UInt8) : Dk := { newD 10000 with lasts := baseD, files := [⟨old, old.length, 1⟩, ⟨stays, 5, 1⟩] }
theorem put_text {old : List UInt8} (h : old.length ≤ 4000) : putR (newD 10000) nText old = (oldD old, 0) := by
  have h2 : (names (newD 10000).seen).length = 0 := names_empty
  have h1 : (newD 10000).seen nText = none := rfl
  unfold putR
  rw [if_neg (by simp [newD]), if_neg (by decide), h1, h2, used_empty, if_neg (by
    rintro (⟨_, h⟩ | h')
    · omega
    · have h3 : (newD 10000).space = 10000 := rfl
      omega)]
  rfl
theorem ok_old {old : List UInt8} (h : old.length ≤ 4000) : DkOk (oldD old) 1 := by
  have := ok_put (ok_new (show (0 : Int) ≤ 10000 by omega) (by omega)) nText old
  rwa [put_text h] at this
theorem put_other {old : List UInt8} (h : old.length ≤ 4000) : putR (oldD old) nOther stays = (bothD old, 0) := by
  have hl : Lists (oldD old).seen [nText] := lists_new (f := fun _ => none) ⟨List.nodup_nil, fun n => by simp⟩ rfl
  have h2 : (names (oldD old).seen).length = 1 := names_len hl
  have h1 : (oldD old).seen nOther = none := by
    show dset (fun _ => none) nText (some 0) nOther = none
    decide
  have hu : usedBut (oldD old) none = old.length := by
    have := used_new (D := newD 10000) (D' := oldD old) (a := nText) (g := ⟨old, old.length, 1⟩) (ok_new (show (0 : Int) ≤ 10000 by omega) (by omega)) rfl rfl rfl
    rw [this, used_empty]; simp
  unfold putR
  rw [if_neg (by simp [newD, oldD]), if_neg (by decide), h1, h2, hu, if_neg (by
    rintro (⟨_, h⟩ | h')
    · omega
    · have h3 : (oldD old).space = 10000 := rfl
      have h4 : stays.length = 5 := rfl
      omega)]
  rfl
theorem ok_both {old : List UInt8} (h : old.length ≤ 4000) : DkOk (bothD old) 2 := by
  have := ok_put (ok_old h) nOther stays
  rwa [put_other h] at this
theorem at_both (old : List UInt8) : At old (bothD old) baseD [] [] := ⟨rfl, rfl, rfl, rfl⟩

theorem atomic_walk {x0 x1 x2 : Sl} {old : List UInt8} {ss : List Sl} {ls : List (List UInt8)} {rows : List (Cells.T c74)} {fl : List (Int × Fault)} {cut : Int × Sl × Unit} {bytes : List Int}
    (ho : Bytes w x0 old) (hob : Lie P x0) (hol : old.length ≤ 2 ^ 47) (hx : TxtsIn w P x1 ss ls) (hf : FaultsIn w P x2 rows fl) (hfl : fl.length * 56 ≤ 2 ^ 47) (hc : SlX w cut.2.1 1 (iv bytes)) (hcb : Lie P cut.2.1) (hP : ∀ k, P k → k < w.heap.size)
    {K : Bool → World → Prop} (hK : ∀ w', Ext w w' → K true w') : callT Try.prog 4 #[.slice x0.a x0.len x0.cap, .slice x1.a x1.len x1.cap, .slice x2.a x2.len x2.cap, .agg (Cells.vals c37 cut).toArray] (.one (.one .bool)) K w := by
  refine F4_calls (a3 := cut) ?_
  unfold F4
  have hol' := ho.len1
  rw [List.length_map] at hol'
  have hxl := hx.row.len1
  rw [List.length_map] at hxl
  have hlen := hx.len
  have hr := hf.row.lenR (cs := c74) (by decide)
  have hrl := hf.len
  refine newO_r fun b1 w1 e1 n1 hb1 _ => ?_
  have x1' := hx.upd e1 fun _ _ h => h
  refine join_r (fun s W => w1 = W ∧ ((old.length : Nat) : Int) ≤ s.1) ?_ ?_
  · refine sloop_r (fun s W => ∃ (j : Nat) (n : Int), s = (n, (j : Int), ()) ∧ j ≤ ls.length ∧ W = w1 ∧ (old.length : Int) ≤ n ∧ n ≤ 2 ^ 50) (fun s _ => ls.length - s.2.1.toNat) ⟨0, _, rfl, Nat.zero_le _, rfl, by omega, by omega⟩ ?_
    rintro _ W ⟨j, n, rfl, hj, rfl, hn, hn2⟩
    dsimp only
    refine join_r (fun z W' => z = (decide (j < ls.length ∧ j ≤ 40 ∧ n ≤ 4000), ()) ∧ W = W') (sif_r (fun h1 => sif_r (fun h2 => ⟨tupb ?_, rfl⟩) fun h2 => ⟨tupb ?_, rfl⟩) fun h1 => ⟨tupb ?_, rfl⟩) ?_
    · have h1 := of_decide_eq_true h1
      have h2 := of_decide_eq_true h2
      simp; omega
    · have h2 := of_decide_eq_false h2
      simp; omega
    · have h1 := of_decide_eq_false h1
      simp; omega
    rintro _ _ ⟨rfl, rfl⟩
    refine sif_r (fun h => ?_) fun h => ⟨rfl, hn⟩
    obtain ⟨h, _, hn4⟩ : j < ls.length ∧ j ≤ 40 ∧ n ≤ 4000 := of_decide_eq_true h
    obtain ⟨s, hs⟩ : ∃ s, ss[j]? = some s := ⟨_, List.getElem?_eq_getElem (by omega)⟩
    obtain ⟨l, hll⟩ : ∃ l, ls[j]? = some l := ⟨_, List.getElem?_eq_getElem h⟩
    obtain ⟨b1, b2, b3⟩ := x1'.at_ j s l hs hll
    have hsl := b1.len1
    rw [List.length_map] at hsl
    refine ix_ldX (c := .sl) x1'.row (by omega) (by simpa using hs) fun _ => ?_
    rw [IntWalk.i64_in _ ⟨by omega, by omega⟩, IntWalk.i64_in _ ⟨by omega, by omega⟩]
    exact ⟨⟨j + 1, _, rfl, by omega, rfl, by omega, by omega⟩, by show ls.length - (j + 1) < ls.length - j; omega⟩
  rintro ⟨n, ⟨⟩⟩ _ ⟨rfl, hn⟩
  dsimp only at hn ⊢
  refine join_r (fun z W' => z = (decide (n > 4000 ∨ ls.length > 40 ∨ fl.length > 40), ()) ∧ w1 = W') (sif_r (fun h1 => ⟨tupb ?_, rfl⟩) fun h1 => sif_r (fun h2 => ⟨tupb ?_, rfl⟩) fun h2 => ⟨tupb ?_, rfl⟩) ?_
  · have h1 := of_decide_eq_true h1
    simp; omega
  · have h2 := of_decide_eq_true h2
    simp; omega
  · have h1 := of_decide_eq_false h1
    have h2 := of_decide_eq_false h2
    simp; omega
  rintro _ _ ⟨rfl, rfl⟩
  refine sif_r (fun _ => hK _ e1) fun h => ?_
  have h : ¬ (n > 4000 ∨ ls.length > 40 ∨ fl.length > 40) := of_decide_eq_false h
  have hold : old.length ≤ 4000 := by omega
  have hls : ls.length ≤ 40 := by omega
  clear hn
  have lb : ∀ l ∈ ls, l.length ≤ 2 ^ 47 := fun l hl => by
    obtain ⟨j, hj⟩ := List.getElem?_of_mem hl
    have hjl := (List.getElem?_eq_some_iff.1 hj).1
    obtain ⟨s, hs⟩ : ∃ s, ss[j]? = some s := ⟨_, List.getElem?_eq_getElem (by omega)⟩
    exact (x1'.at_ j s l hs hj).2.1
  refine join_r (fun s W => s = ((⟨ls.flatten.toArray⟩ : ByteArray), ()) ∧ w1 = W) ?_ ?_
  · refine sloop_r (fun s W => ∃ j : Nat, s = ((⟨(ls.take j).flatten.toArray⟩ : ByteArray), (j : Int), ()) ∧ j ≤ ls.length ∧ W = w1) (fun s _ => ls.length - s.2.1.toNat) ⟨0, rfl, Nat.zero_le _, rfl⟩ ?_
    rintro _ W ⟨j, rfl, hj, rfl⟩
    dsimp only
    refine sif_r (fun h => ?_) fun h => ?_
    · have h : j < ls.length := by have := of_decide_eq_true h; omega
      obtain ⟨s, hs⟩ : ∃ s, ss[j]? = some s := ⟨_, List.getElem?_eq_getElem (by omega)⟩
      obtain ⟨l, hll⟩ : ∃ l, ls[j]? = some l := ⟨_, List.getElem?_eq_getElem h⟩
      obtain ⟨b1, b2, b3⟩ := x1'.at_ j s l hs hll
      have ht := flat_le (ls := ls.take j) fun l hl => lb l (List.mem_of_mem_take hl)
      rw [List.length_take] at ht
      have ht2 : min j ls.length * 2 ^ 47 ≤ 40 * 2 ^ 47 := Nat.mul_le_mul_right _ (by omega)
      refine ix_ldX (c := .sl) x1'.row (by omega) (by simpa using hs) fun _ => bytesStr_r uB ub us b1 (chk_r ?_ ?_)
      · show (((ls.take j).flatten.toArray.size + l.toArray.size : Nat) : Int) ≤ 9223372036854775807
        rw [List.size_toArray, List.size_toArray]
        omega
      rw [IntWalk.i64_in _ ⟨by omega, by omega⟩, ba_append]
      refine ⟨⟨j + 1, ?_, h, rfl⟩, by show ls.length - (j + 1) < ls.length - j; omega⟩
      rw [List.take_add_one, hll, Option.toList_some, List.flatten_append]
      simp
    · have h : ¬ j < ls.length := by have := of_decide_eq_false h; omega
      rw [List.take_of_length_le (by omega)]
      exact ⟨rfl, rfl⟩
  rintro _ _ ⟨rfl, rfl⟩
  generalize hwh : ls.flatten = whole
  have hs1 := e1.size
  refine made_call (by decide) (by decide) fun d F0 W0 A0 e2 hF0 => ?_
  have hs2 := e2.size
  have e02 := e1.trans e2
  have done : ∀ {W : World} {n F D}, Since W0 W d F0 n F D → Ext w W := fun s => e02.new s.u fun k hk h => by have := hF0 k h; omega
  have hPF : ∀ k, P k → k < W0.heap.size ∧ ¬ F0 k := fun k hk => ⟨by have := hP k hk; omega, fun h => by have := hP k hk; have := hF0 k h; omega⟩
  have hb1F : ¬ F0 b1 := fun h => by have := hF0 _ h; have := lt_of_heap n1; omega
  have n1' := e2.ext_get n1
  have s0 : Since W0 W0 d F0 0 F0 (newD 10000) := ⟨A0, ok_new (by decide) (by decide), Upd.refl _ _, fun k hk => .inl hk⟩
  refine join_r (fun z W => z = (false, ()) ∧ ∃ F1, Since W0 W d F0 2 F1 (bothD old)) (sif_false ?_) ?_
  · refine append_rx EB uB (B := W0.heap.size) (s := ⟨none, 0, 0⟩) (vs := []) (SlOwn.nil _ _ _ _) (ho.ext e02) (bv_one _) (by dsimp only; omega) (Nat.le_refl _) fun x22 w3 h3 hl3 u3 hb3 => ?_
    have e3 : Ext W0 w3 := u3.mono fun k _ h => by obtain ⟨q, hq, _⟩ := h; cases hq
    have s3 := s0.ext e3
    refine put_call (n := nText) s3.A s3.ok (by decide) (l := old) h3.in.x (fun k hk => ⟨h3.in.blk_lt hk, fun hF => by have := A0.lt k hF; have := h3.blk_ge hk; omega⟩) fun F4 w4 v4 hv4 A4 u4 hF4 => ?_
    rw [put_text hold] at hv4 A4
    have s4 := s3.turn A4 (ok_old hold) u4 hF4
    refine told_ne hv4.told (sif_false (newO_r fun b25 w5 e5 n5 hb5 _ => lit_r uB ub n5 fun w6 fr' n6 u6 => ?_))
    have e6 : Ext w4 w6 := e5.new u6 fun k hk e => by omega
    have s6 := s4.ext e6
    have hbox : Bytes w6 ⟨some (at0 b25), 5, 5⟩ stays := (SlIn.of_box (n := 5) (sz := 1) n6 rfl).x
    refine put_call (n := nOther) s6.A s6.ok (by decide) (l := stays) hbox (fun k hk => ?_) fun F7 w7 v7 hv7 A7 u7 hF7 => ?_
    · obtain ⟨p, hp, rfl⟩ := hk
      cases hp
      exact ⟨lt_of_heap n6, fun h => by have := s4.A.lt _ h; simp only [at0] at this; omega⟩
    · rw [put_other hold] at hv7 A7
      exact told_ne hv7.told ⟨rfl, F7, s6.turn A7 (ok_both hold) u7 hF7⟩
  rintro _ W1 ⟨rfl, F1, s1⟩
  refine sif_false ?_
  have f1 := (hf.upd e02 fun _ _ h => h).upd s1.u fun k hk => (hPF k hk).2
  refine faults_call f1 hfl fun sf rows' W2 hf2 e2' => ?_
  have s2 := s1.ext e2'
  refine plan_call s2.A (hf2.in.mono fun k hk => ⟨hk.2, fun hF => by have := s1.A.lt k hF; omega⟩) (by omega) fun F3 W3 A3 u3 hF3 => ?_
  have s3 := s2.turn A3 (ok_plan s2.ok fl) u3 hF3
  have a3 : At old (plan (bothD old) fl) baseD [] [] := ⟨rfl, rfl, rfl, rfl⟩
  generalize plan (bothD old) fl = D3 at s3 a3
  have x3 := (hx.upd e02 fun _ _ h => h).upd s3.u fun k hk => (hPF k hk).2
  refine saved_call s3.A s3.ok (by decide) a3 x3 (s3.apart hPF) hls hwh.symm fun F4 W4 D4 well s4' safe hwell => ?_
  have s4 : Since W0 W4 d F0 202 F4 D4 := s3.turn s4'.A s4'.ok s4'.u s4'.hF
  clear s4'
  obtain ⟨nm, cs, ⟨⟩⟩ := cut
  have n4 := s4.u.get n1' hb1F
  refine lds_r (cs := c37) (x := (nm, cs, ())) n4 (fun i v hv => ?_) ?_
  · rw [Nat.zero_add]; rw [← List.getElem?_toArray] at hv; exact hv
  have fin : Fin (if well = true then [whole] else [old, whole]) (crash D4 nm bytes) := by
    split
    · rename_i hw
      obtain ⟨c, h⟩ := hwell hw
      exact s3_crash h nm bytes
    · exact safe.crash nm bytes
  obtain ⟨ms, ml, sa, pl, vs, fb, ds, A4⟩ := s4.A
  refine crash_call A4 s4.ok (by decide) (c := (nm, cs, ())) ⟨SlX.updL (hc.ext e02) hcb s4.u fun k hk => (hPF k hk).2, .inl (hcb.imp id fun hcb k hk h => (s4.apart hPF k (hcb k hk)).2 h)⟩ fun F5 W5 A5 u5 hF5 => ?_
  have s5 := s4.turn A5 (ok_crash s4.ok nm bytes) u5 hF5
  generalize crash D4 nm bytes = D5 at s5 fin
  refine down_call s5.A ?_
  rw [fin.down]
  refine restart_call s5.A fun W6 A6 u6 => ?_
  have s6 := s5.turn A6 (ok_restart s5.ok) u6 fun k hk => .inl hk
  obtain ⟨q6, ⟨i, hi, hiv⟩, ⟨j, hj, hjv⟩, h3⟩ := fin_restart fin
  generalize restart D5 = D6 at *
  refine read_call (n := nText) s6.A s6.ok (by decide) fun F7 W7 x7 v7 hv7 A7 u7 hF7 hx7 hx7f => ?_
  rw [read_quiet q6 okNew.2.1 hi] at hv7 A7 hx7
  have s7 := s6.turn (m := 203) A7 (s6.ok.at 1) u7 hF7
  refine read_call (n := nOther) s7.A s7.ok (by decide) fun F8 W8 x8 v8 hv8 A8 u8 hF8 hx8 _ => ?_
  rw [read_quiet (D := { D6 with steps := D6.steps + 1 }) ⟨q6.up, q6.plan⟩ okNew.2.2 hj] at hv8 A8 hx8
  have s8 := s7.turn (m := 204) A8 (s7.ok.at 1) u8 hF8
  have hx7' : BytesO W8 W6.heap.size x7 (Dsk.fl D6 i).data := hx7.upd u8 fun k _ hk h => hx7f k hk h
  have hx8' : BytesO W8 W7.heap.size x8 stays := by rw [← hjv]; exact hx8
  generalize (Dsk.fl D6 i).data = got at hx7' hiv
  refine join_r (fun z W => z = (false, ()) ∧ Ext W8 W) (sif_false (told_ne hv7.told (sif_false (told_ne hv8.told (sif_false (bytesStr_r uB ub us hx8'.in.x ?_)))))) ?_
  · refine sif_r (fun h => ?_) fun _ => ?_
    · rw [bytes_eq] at h
      exact absurd (show decide ((⟨stays.toArray⟩ : ByteArray) = ⟨#[115, 116, 97, 121, 115]⟩) = true from decide_eq_true rfl) (by simpa using h)
    · refine names_of_call s8.A s8.ok fun s9 W9 h9 e9 => ⟨tupb ?_, e9⟩
      rw [if_neg (by show ¬ D6.down = true; rw [q6.up]; simp)] at h9
      have h9l := h9.len1
      rw [List.length_map] at h9l
      have h3' : (names ({ D6 with steps := D6.steps + 1 + 1 } : Dk).seen).length ≤ 3 := h3
      dsimp only at h9l h3'
      simp; omega
  rintro _ W9 ⟨rfl, e9⟩
  have s9 := s8.ext e9
  have hx9 := hx7'.ext e9
  have h0 := ho.ext (done s9)
  refine sif_false (sif_r (fun h => ?_) fun h => ?_)
  · rw [if_pos h] at hiv
    have hiv : got = whole := by simpa using hiv
    subst hiv
    refine bytesStr_r uB ub us hx9.in.x ?_
    rw [bytes_eq]
    have : decide ((⟨got.toArray⟩ : ByteArray) = ⟨got.toArray⟩) = true := decide_eq_true rfl
    rw [this]
    exact hK W9 (done s9)
  · rw [if_neg (by rw [h]; simp)] at hiv
    refine bytesStr_r uB ub us hx9.in.x (sif_r (fun _ => hK W9 (done s9)) fun h => bytesStr_r uB ub us hx9.in.x (bytesStr_r uB ub us h0 ?_))
    rw [bytes_eq] at h ⊢
    have hgo : got = old := by
      rcases List.mem_cons.1 hiv with h' | h'
      · exact h'
      · have h' : got = whole := by simpa using h'
        subst h'
        simp at h
    subst hgo
    have : decide ((⟨got.toArray⟩ : ByteArray) = ⟨got.toArray⟩) = true := decide_eq_true rfl
    rw [this]
    exact hK W9 (done s9)
end
end Go.Proofs.Ytdabehgbhndimaa
