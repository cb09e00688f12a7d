/- The law's writes, steps, beginning: each answers true and keeps the two worlds alike. Conditions: the steps lie as StepsIn says. -/
import Derived.Test.YtocdfkeflakemaaStp
set_option linter.unusedSimpArgs false
set_option linter.unusedVariables false
namespace Go.Proofs.Ytocdfkeflakemaa
open Go Go.Vx
section
variable {w0 w w' : World} {x np nr : Nat} {p m r : Nat → Nat} {pen : Sl} {Z : Nat → Prop} {bk rk : Nat → Reg.Bk}

theorem nms_len (b : Reg.Bk) (n : Nat) : (nms b n).length ≤ n := by
  have h := List.length_filter_le (fun (i : Nat) => (b.held (i : Int)).isSome) (List.range n)
  simpa [nms] using h
theorem ix_ldf0X {c : Cell} {cs : List Cell} {s : Sl} {xs : List (Cells.T cs)} {n : Int} {K : Addr → c.T → World → Prop} (h : SlX w s cs.length (flat cs xs)) (hc : 0 < cs.length) (h0 : 0 ≤ n) {x : Cells.T cs} {y : c.T} (hx : xs[n.toNat]? = some x) (hy : (Cells.vals cs x)[0]? = some (c.val y)) (hK : ∀ p, K p y w) :
    ix s.a s.len n (fun p => ld c (p.add (scaled n.toNat cs.length)) (K p)) w := by
  have hl := h.lenR hc
  have hlt : n.toNat < xs.length := (List.getElem?_eq_some_iff.1 hx).1
  obtain ⟨t, hi⟩ := h.in_of (by omega)
  exact ix_ldf0 hi h0 hx hy hK
theorem HandedIn.ty {sb N : Nat} {l : List Int} {S : Nat → Prop} (h : HandedIn w0 w sb N l) (u : Upd S w w') (hS : NoTy w S 3) : HandedIn w0 w' sb N l := by
  obtain ⟨⟨c, h1, h2⟩, h3⟩ := h
  exact ⟨⟨c, u.get h1 fun hk => hS _ hk _ _ h1, h2⟩, h3⟩
theorem HandedIn.ext {sb N : Nat} {l : List Int} (h : HandedIn w0 w sb N l) (u : Ext w w') : HandedIn w0 w' sb N l := h.ty u fun _ h => h.elim
theorem HandedIn.ints {sb N : Nat} {l : List Int} (h : HandedIn w0 w sb N l) : Ints w ⟨some (at0 sb), l.length + 100, l.length + 100⟩ (l ++ marks l) := by
  obtain ⟨⟨c, n1, hcN, hlN, hv⟩, hsg⟩ := h
  exact ⟨by simp, Nat.le_refl _, .inr ⟨sb, 0, c, _, rfl, n1, by simp only [Nat.mul_one]; omega, fun i v hi => by rw [Nat.zero_add]; exact hv i v hi⟩⟩
theorem WIn.noBM {i : Nat} (h : WIn w0 w x np nr p m r pen Z bk rk) (hi : i < np) {t : TypeId} (ht : t ≠ 73) : NoTy w (BM (p i) (m i)) t := by
  rintro k (rfl | rfl) c fr hc
  · rw [(h.bank i hi).box] at hc; cases hc; exact ht rfl
  · obtain ⟨es, c', hm⟩ := (h.bank i hi).map_at
    rw [hm] at hc; cases hc

/-- the part of a handed list that is the list -/
theorem handed_slc {sb n : Nat} {l : List Int} {K : Sl → World → Prop} (hin : Ints w ⟨some (at0 sb), l.length + 100, l.length + 100⟩ (l ++ marks l)) (hn : n = l.length) (hK : ∀ s', Ints w s' l → K s' w) :
    slc (some (at0 sb)) 0 ((n : Nat) : Int) ((l.length + 100 : Nat) : Int) (l.length + 100) 1 K w := by
  subst hn
  refine slc_r (s := ⟨some (at0 sb), l.length + 100, l.length + 100⟩) hin (by omega) (by omega) (by dsimp only; omega) (by omega) (by dsimp only; omega) fun s1 i1 hs1 _ _ => hK s1 ?_
  have e : ((iv (l ++ marks l)).drop ((0 : Int).toNat * 1)).take ((((l.length : Nat) : Int).toNat - (0 : Int).toNat) * 1) = iv l := by simp [iv]
  rw [e] at i1
  exact i1

theorem back_call {a1 : Sl} {l : List Int} {sb N : Nat} {pen' : Sl} {K : Bool → World → Prop} (h : WIn w0 w x 2 2 p m r pen' (fun k => pen'.blk k ∨ k = sb) bk rk) (hh : HandedIn w0 w sb N l) (hpN : ∀ pb, pen' = ⟨some (at0 pb), 300, 300⟩ → pb = sb → N = 300) (ht : Txt w a1 l) (hl : l.length ≤ 2 ^ 44)
    (hK : ∀ w', WIn w0 w' x 2 2 p m r pen' pen'.blk bk rk → Stay w w' → K true w') :
    callT Try.prog 53 #[.slice (some (at0 sb)) (l.length + 100) (l.length + 100), .slice a1.a a1.len a1.cap] (.one (.one .bool)) K w := by
  have hin := hh.ints
  obtain ⟨⟨c, n1, hcN, hlN, hv⟩, hsg⟩ := hh
  refine F53_calls (a0 := ⟨some (at0 sb), l.length + 100, l.length + 100⟩) ?_
  unfold F53
  have hn := ht.length
  dsimp only
  refine handed_slc hin hn.symm fun s1 i1 => ?_
  refine sameInts_call i1.x ht (by omega) fun w2 e2 => ?_
  rw [decide_eq_true rfl]
  have h2 := h.ext e2
  refine join_r (fun s' w' => s' = (true, ()) ∧ WIn w0 w' x 2 2 p m r pen' (fun k => pen'.blk k ∨ k = sb) bk rk ∧ Stay w w') ?_ ?_
  · refine sloop_r (fun s' w' => ∃ (n : Nat) (c : Array Value), n ≤ l.length + 100 ∧ s' = (true, (n : Int), ()) ∧ WIn w0 w' x 2 2 p m r pen' (fun k => pen'.blk k ∨ k = sb) bk rk ∧ w'.heap[sb]? = some (.cells c 3 (0, 0)) ∧ c.size = N ∧ Stay w w' ∧ ∀ (j : Nat) (v : Value), n ≤ j → (iv (l ++ marks l))[j]? = some v → c[j]? = some v) (fun s' _ => (l.length + 100 - s'.2.1).toNat) ⟨0, c, by omega, rfl, h2, e2.ext_get n1, hcN, Stay.ext e2, fun j v _ hv' => hv j v hv'⟩ ?_
    rintro _ w3 ⟨n, c3, hn3, rfl, h3, n3, hc3, st3, hv3⟩
    dsimp only
    have en : IntKind.wrap .i64 ((n : Int) + 1) = ((n + 1 : Nat) : Int) := by rw [IntWalk.i64_in _ ⟨by omega, by omega⟩]; omega
    have em : IntKind.wrap .i64 (771 + (n : Int)) = 771 + (n : Int) := IntWalk.i64_in _ ⟨by omega, by omega⟩
    simp only [en, em]
    refine sif_r (fun hd => ?_) (fun hd => ⟨trivial, h3, st3⟩)
    have hd : n < l.length + 100 := by have := of_decide_eq_true hd; omega
    refine join_at (true, ()) (sif_true (sif_r (fun he => ⟨rfl, rfl⟩) (fun he => ?_))) ?_
    · have he : l.length ≤ n := by have := of_decide_eq_false he; omega
      have hg : (iv (l ++ marks l))[n]? = some (.int .i64 (771 + (n : Int))) := by
        rw [iva, List.getElem?_append_right (by simpa using he), List.length_map]
        have h100 : n - l.length < 100 := by omega
        simp [h100]
        omega
      refine ⟨at0 sb, ⟨rfl, by omega, by omega⟩, ?_⟩
      dsimp only
      rw [addr_add, Nat.zero_add, scaled_eq, Nat.mul_one, Int.toNat_natCast]
      refine ld_r n3 (x := 771 + (n : Int)) (hv3 n _ (Nat.le_refl _) hg) ⟨?_, rfl⟩
      simp
    · refine ⟨at0 sb, ⟨rfl, by omega, by omega⟩, ?_⟩
      dsimp only
      rw [addr_add, Nat.zero_add, scaled_eq, Nat.mul_one, Int.toNat_natCast]
      refine stC_r n3 (by omega) fun w5 u5 n5 _ => ⟨⟨n + 1, _, hd, rfl, shape h3 n3 hsg hpN u5 n5 (by simpa using hc3), n5, by simpa using hc3, st3.trans (Stay.of u5 (NoTy.box n3 (by decide))), fun j v hj hv => ?_⟩, by omega⟩
      rw [Array.getElem?_setIfInBounds, if_neg (by omega)]
      exact hv3 j v (by omega) hv
  · rintro _ w3 ⟨rfl, h3, st3⟩
    exact hK w3 (h3.zset (Ext.refl _) (fun k hk => .inl (.inl hk)) (fun k hk => hk) (fun k hk => h3.zlt k (.inl hk))) st3

theorem writes_call {i : Nat} {a2 : Cells.T c55} {l : List Int} {K : Bool → World → Prop} (h : WIn w0 w x 2 2 p m r pen pen.blk bk bk) (hi : i < 2) (ht : Txt w0 a2.2.2.2.2.1 l) (hl : l.length ≤ 2 ^ 44 - 512)
    (hK : ∀ pen' bk' w', WIn w0 w' x 2 2 p m r pen' pen'.blk bk' bk' → K true w') :
    callT Try.prog 41 #[.pointer (some (at0 x)), .int .i64 (i : Int), .agg (Cells.vals c55 a2).toArray] (.one (.one .bool)) K w := by
  obtain ⟨k, who, nm, so, s, ⟨⟩⟩ := a2
  refine F41_calls (a2 := (k, who, nm, so, s, ())) ?_
  unfold F41
  dsimp only at ht ⊢
  have hsn := ht.length
  refine newO_r fun b1 w1 e1 n1 hb1 _ => ?_
  have h1 := h.ext e1
  refine ld_r n1 (x := s) rfl ?_
  refine handed_call h1 ht hl fun pen' sb N w2 h2 hh2 hpN st2 => ?_
  have n2 := st2 _ _ _ n1
  refine ld_r n2 (x := s) rfl ?_
  refine join_r (fun x' w' => x'.1 = x'.2.1 ∧ ∃ bk', WIn w0 w' x 2 2 p m r pen' (fun k => pen'.blk k ∨ k = sb) bk' bk' ∧ HandedIn w0 w' sb N l ∧ Stay w1 w') ?_ ?_
  · have hend : ∀ {W : World} {K : Option Addr → World → Prop}, WIn w0 W x 2 2 p m r pen' (fun k => pen'.blk k ∨ k = sb) bk bk → K (some (at0 (p i))) W → (nn (some (at0 x)) fun p8 => chk (0 ≤ (i : Int) ∧ (i : Int) < ((2 : Nat) : Int)) <| ld .ptr (p8.add (scaled (Int.toNat (i : Int)) 1)) K) W := by
      intro W K hW hK
      refine nn_some (chk_r ⟨by omega, by omega⟩ ?_)
      rw [addr_add, scaled_eq, Nat.zero_add, Nat.mul_one, Int.toNat_natCast]
      exact hW.ldp hi hi hK
    have hend2 : ∀ {W : World} {b' : Nat → Reg.Bk} {K : Option Addr → World → Prop}, WIn w0 W x 2 2 p m r pen' (fun k => pen'.blk k ∨ k = sb) b' bk → K (some (at0 (r i))) W → (nn (some (at0 x)) fun p8 => chk (0 ≤ (i : Int) ∧ (i : Int) < ((2 : Nat) : Int)) <| ld .ptr ((p8.add 2).add (scaled (Int.toNat (i : Int)) 1)) K) W := by
      intro W b' K hW hK
      refine nn_some (chk_r ⟨by omega, by omega⟩ ?_)
      rw [addr_add, addr_add, scaled_eq, Nat.zero_add, Nat.mul_one, Int.toNat_natCast]
      exact hW.ldr hi hi hK
    refine ld_r n2 (x := k) rfl (sif_r (fun _ => ?_) (fun _ => sif_r (fun _ => ?_) (fun _ => sif_r (fun _ => ?_) (fun _ => ⟨rfl, bk, h2, hh2, st2⟩))))
    · have hok := keepOk.yank (bk i) nm so l (h2.okp i hi)
      refine drew_r fun w3 e3 _ => ?_
      have h3 := h2.ext e3
      have n3 := e3.ext_get n2
      have hh3 := hh2.ext e3
      refine hend h3 (ld_r n3 (x := nm) rfl <| ld_r n3 (x := so) rfl (handed_slc hh3.ints hsn.symm fun s4 i4 => ?_))
      refine yank_call (r := (so, s4, ())) (h3.bank i hi) i4 hl h3.zlt fun w4 hB4 u4 => ?_
      have h4 := h3.setBank hi u4 hB4 hok
      have n4 := u4.get n3 fun hk => h3.noBM hi (t := 55) (by decide) _ hk _ _ n3
      have hh4 := hh3.ty u4 (h3.noBM hi (by decide))
      have st4 := (st2.trans (Stay.ext e3)).trans (Stay.of u4 (h3.noBM hi (by decide)))
      refine drew_r fun w5 e5 _ => ?_
      have h5 := h4.ext e5
      have n5 := e5.ext_get n4
      obtain ⟨ks, hR⟩ := h5.ref i hi
      refine hend2 h5 (ld_r n5 (x := nm) rfl (ld_r n5 (x := so) rfl (ld_r n5 (x := s) rfl (yank_ref hR (h5.okr i hi) (ht.ext h5.upd) hl h5.zlt fun w6 ks6 hR6 u6 => ?_))))
      have st5 := st4.trans (Stay.ext e5)
      refine ⟨rfl, _, h5.setRef hi u6 hR6 hok, (hh4.ext e5).ty u6 (hR.noTy (by decide)), st5.trans (Stay.of u6 (hR.noTy (by decide)))⟩
    · have hok := keepOk.del (bk i) nm so l (h2.okp i hi)
      refine drew_r fun w3 e3 _ => ?_
      have h3 := h2.ext e3
      have n3 := e3.ext_get n2
      have hh3 := hh2.ext e3
      refine hend h3 (ld_r n3 (x := nm) rfl <| ld_r n3 (x := so) rfl (handed_slc hh3.ints hsn.symm fun s4 i4 => ?_))
      refine delete_call (r := (so, s4, ())) (h3.bank i hi) i4 hl h3.zlt fun w4 hB4 u4 => ?_
      have h4 := h3.setBank hi u4 hB4 hok
      have n4 := u4.get n3 fun hk => h3.noBM hi (t := 55) (by decide) _ hk _ _ n3
      have hh4 := hh3.ty u4 (h3.noBM hi (by decide))
      have st4 := (st2.trans (Stay.ext e3)).trans (Stay.of u4 (h3.noBM hi (by decide)))
      refine drew_r fun w5 e5 _ => ?_
      have h5 := h4.ext e5
      have n5 := e5.ext_get n4
      obtain ⟨ks, hR⟩ := h5.ref i hi
      refine hend2 h5 (ld_r n5 (x := nm) rfl (ld_r n5 (x := so) rfl (ld_r n5 (x := s) rfl (del_ref hR (h5.okr i hi) (ht.ext h5.upd) hl h5.zlt fun w6 ks6 hR6 u6 => ?_))))
      have st5 := st4.trans (Stay.ext e5)
      refine ⟨rfl, _, h5.setRef hi u6 hR6 hok, (hh4.ext e5).ty u6 (hR.noTy (by decide)), st5.trans (Stay.of u6 (hR.noTy (by decide)))⟩
    · have hok := keepOk.set (bk i) nm l (h2.okp i hi)
      refine drew_r fun w3 e3 _ => ?_
      have h3 := h2.ext e3
      have n3 := e3.ext_get n2
      have hh3 := hh2.ext e3
      refine hend h3 (ld_r n3 (x := nm) rfl (handed_slc hh3.ints hsn.symm fun s4 i4 => ?_))
      refine set_call (h3.bank i hi) i4 hl h3.zlt fun w4 hB4 u4 => ?_
      have h4 := h3.setBank hi u4 hB4 hok
      have n4 := u4.get n3 fun hk => h3.noBM hi (t := 55) (by decide) _ hk _ _ n3
      have hh4 := hh3.ty u4 (h3.noBM hi (by decide))
      have st4 := (st2.trans (Stay.ext e3)).trans (Stay.of u4 (h3.noBM hi (by decide)))
      refine drew_r fun w5 e5 _ => ?_
      have h5 := h4.ext e5
      have n5 := e5.ext_get n4
      obtain ⟨ks, hR⟩ := h5.ref i hi
      refine hend2 h5 (ld_r n5 (x := nm) rfl (ld_r n5 (x := s) rfl (set_ref hR (h5.okr i hi) (ht.ext h5.upd) hl h5.zlt fun w6 ks6 hR6 u6 => ?_)))
      have st5 := st4.trans (Stay.ext e5)
      refine ⟨rfl, _, h5.setRef hi u6 hR6 hok, (hh4.ext e5).ty u6 (hR.noTy (by decide)), st5.trans (Stay.of u6 (hR.noTy (by decide)))⟩
  · rintro ⟨e, f, ⟨⟩⟩ w3 ⟨hef, bk', h3, hh3, st3⟩
    dsimp only at hef
    subst hef
    refine ld_r (st3 _ _ _ n1) (x := s) rfl (back_call h3 hh3 hpN (ht.ext h3.upd) (by omega) fun w4 h4 st4 => sif_true ?_)
    dsimp only
    rw [beq_self_eq_true]
    exact hK _ _ w4 h4

theorem and1 (a : Int) : ∃ i : Nat, i < 2 ∧ IntKind.wrap .i64 ((BitVec.toNat (BitVec.ofInt (IntKind.bits .i64) a &&& BitVec.ofInt (IntKind.bits .i64) (1 : Int)) : Nat) : Int) = (i : Int) := by
  have h1 : (BitVec.ofInt (IntKind.bits .i64) (1 : Int)).toNat = 1 := rfl
  refine ⟨(BitVec.ofInt (IntKind.bits .i64) a).toNat % 2, Nat.mod_lt _ (by decide), ?_⟩
  rw [BitVec.toNat_and, h1, Nat.and_one_is_mod]
  exact IntWalk.i64_in _ ⟨by omega, by omega⟩

theorem step_call {a1 : Cells.T c55} {l : List Int} {K : Bool → World → Prop} (h : WIn w0 w x 2 2 p m r pen pen.blk bk bk) (ht : Txt w0 a1.2.2.2.2.1 l) (hl : l.length ≤ 2 ^ 44 - 512)
    (hK : ∀ p' m' r' pen' bk' w', WIn w0 w' x 2 2 p' m' r' pen' pen'.blk bk' bk' → K true w') :
    callT Try.prog 24 #[.pointer (some (at0 x)), .agg (Cells.vals c55 a1).toArray] (.one (.one .bool)) K w := by
  obtain ⟨k, who, nm, so, s, ⟨⟩⟩ := a1
  refine F24_calls (a1 := (k, who, nm, so, s, ())) ?_
  unfold F24
  dsimp only at ht ⊢
  obtain ⟨i, hi, ei⟩ := and1 who
  refine newO_r fun b1 w1 e1 n1 hb1 _ => ?_
  have h1 := h.ext e1
  have n1' : w1.heap[b1]? = some (.cells (Cells.vals c55 (k, who, nm, so, s, ())).toArray 55 (0, 0)) := n1
  refine ld_r n1 (x := who) rfl (ld_r n1 (x := k) rfl ?_)
  simp only [ei]
  refine join_r (fun _ w' => w1 = w') (sif_r (fun _ => rfl) (fun _ => sif_r (fun _ => rfl) (fun _ => rfl))) ?_
  rintro ⟨c, ⟨⟩⟩ _ rfl
  dsimp only
  refine sif_r (fun _ => ?_) (fun _ => sif_r (fun _ => ?_) (fun _ => sif_r (fun _ => ?_) (fun _ => sif_r (fun _ => ?_) (fun _ => hK _ _ _ _ _ _ h1))))
  · refine lds_r (x := (k, who, nm, so, s, ())) n1' (fun j v hv => by rw [Nat.zero_add]; simpa using hv) ?_
    exact writes_call (a2 := (k, who, nm, so, s, ())) h1 hi ht hl fun pen' bk' w' h' => hK _ _ _ _ _ _ h'
  · exact ld_r n1 (x := nm) rfl (wget_call h1 hi fun w' e => hK _ _ _ _ _ _ (h1.ext e))
  · refine drew_r fun w2 e2 _ => nn_some (chk_r ⟨by omega, by omega⟩ ?_)
    rw [addr_add, scaled_eq, Nat.zero_add, Nat.mul_one, Int.toNat_natCast]
    have h2 := h1.ext e2
    refine h2.ldp hi hi (nn_some (chk_r ⟨by omega, by omega⟩ ?_))
    rw [addr_add, addr_add, Nat.zero_add]
    refine h2.ldr hi hi (names_call (h2.bank i hi) (h2.okp i hi) fun s3 w3 o3 e3 => ?_)
    have h3 := h2.ext e3
    refine h3.keepr hi hi ?_
    obtain ⟨ks, hR⟩ := h3.ref i hi
    refine names_ref hR (h3.okr i hi) fun s4 w4 o4 e4 => ?_
    refine sameInts_call (o3.in.ext e4).x o4.in.x (by have := nms_len (bk i) 128; omega) fun w5 e5 => ?_
    rw [decide_eq_true rfl]
    exact hK _ _ _ _ _ _ (h3.ext (e4.trans e5))
  · refine drew_r fun w2 e2 _ => nn_some (chk_r ⟨by omega, by omega⟩ ?_)
    rw [addr_add, scaled_eq, Nat.zero_add, Nat.mul_one, Int.toNat_natCast]
    have h2 := h1.ext e2
    have ej : IntKind.wrap .i64 (1 - (i : Int)) = ((1 - i : Nat) : Int) := by rw [IntWalk.i64_in _ ⟨by omega, by omega⟩]; omega
    obtain ⟨j, hj⟩ : ∃ j, j = 1 - i := ⟨_, rfl⟩
    have hj2 : j < 2 := by omega
    simp only [ej, ← hj]
    have hnn : ∀ i : Nat, i < 2 ↔ i < 2 ∨ i = j := fun i => by omega
    refine h2.ldp hi hi (nn_some (copy_call (h2.bank i hi) h2.zlt fun pb2 m2 w3 hB3 e3 hp2 hm2 => chk_r ⟨by omega, by omega⟩ ?_))
    simp only [addr_add, scaled_eq, Nat.zero_add, Nat.mul_one, Int.toNat_natCast]
    have h3 := h2.ext e3
    have hl2 : ∀ i, i < 2 → p i < pb2 ∧ m i < m2 := fun i hi => by
      have h4 := (h2.bank i hi).lt
      have h5 := h4 (p i) (.inl rfl)
      have h6 := h4 (m i) (.inr rfl)
      omega
    have hu2 := h2.upd.size
    refine h3.newBank hj2 hnn hB3 (h2.okp i hi) hl2 ⟨by omega, by omega⟩ fun w4 h4 u4 => ?_
    refine drew_r fun w5 e5 _ => nn_some (chk_r ⟨by omega, by omega⟩ ?_)
    simp only [addr_add, scaled_eq, Nat.zero_add, Nat.mul_one, Int.toNat_natCast]
    have h5 := h4.ext e5
    obtain ⟨ks, hR⟩ := h5.ref i hi
    refine h5.ldr hi hi (nn_some (copy_ref hR fun r2 w6 hR6 e6 hr2 => chk_r ⟨by omega, by omega⟩ ?_))
    simp only [addr_add, scaled_eq, Nat.zero_add, Nat.mul_one, Int.toNat_natCast]
    have h6 := h5.ext e6
    have hu5 := h5.upd.size
    refine h6.newRef hj2 hnn hR6 (h5.okr i hi) (fun i hi => by
      obtain ⟨ks', hR'⟩ := h5.ref i hi
      have := hR'.lt; omega) (by omega) fun w7 h7 u7 => ?_
    refine nn_some (chk_r ⟨by omega, by omega⟩ ?_)
    simp only [addr_add, scaled_eq, Nat.zero_add, Nat.mul_one, Int.toNat_natCast]
    exact h7.ldp hj2 hj2 (hK _ _ _ _ _ _ h7)

theorem begin_call {K : Bool → World → Prop} (h : WIn w0 w x 0 0 p m r ⟨none, 0, 0⟩ (Sl.blk ⟨none, 0, 0⟩) bk bk)
    (hK : ∀ p' m' r' bk' w', WIn w0 w' x 2 2 p' m' r' ⟨none, 0, 0⟩ (Sl.blk ⟨none, 0, 0⟩) bk' bk' → K true w') :
    callT Try.prog 23 #[.pointer (some (at0 x))] (.one (.one .bool)) K w := by
  refine F23_calls ?_
  unfold F23
  refine join_r (fun _ w' => ∃ p' m' r' bk', WIn w0 w' x 2 2 p' m' r' ⟨none, 0, 0⟩ (Sl.blk ⟨none, 0, 0⟩) bk' bk') ?_ (fun _ w' ⟨p', m', r', bk', h'⟩ => hK p' m' r' bk' w' h')
  refine sloop_r (fun s' w' => ∃ (n : Nat) (p' m' r' : Nat → Nat) (bk' : Nat → Reg.Bk), n ≤ 2 ∧ s' = ((n : Int), ()) ∧ WIn w0 w' x n n p' m' r' ⟨none, 0, 0⟩ (Sl.blk ⟨none, 0, 0⟩) bk' bk') (fun s' _ => (2 - s'.1).toNat) ⟨0, p, m, r, bk, by omega, rfl, h⟩ ?_
  rintro _ w1 ⟨n, p1, m1, r1, bk1, hn, rfl, h1⟩
  dsimp only
  refine sif_r (fun hc => ?_) (fun hc => ?_)
  · have hc : n < 2 := by have := of_decide_eq_true hc; omega
    have en : IntKind.wrap .i64 ((n : Int) + 1) = ((n + 1 : Nat) : Int) := by rw [IntWalk.i64_in _ ⟨by omega, by omega⟩]; omega
    simp only [en]
    refine drew_r fun w2 e2 _ => nn_some ?_
    have h2 := h1.ext e2
    have hu2 := h2.upd.size
    refine new_call (Z := Sl.blk ⟨none, 0, 0⟩) fun pb mb w3 hB3 e3 hp hm => chk_r ⟨by omega, by omega⟩ ?_
    simp only [addr_add, scaled_eq, Nat.zero_add, Nat.mul_one, Int.toNat_natCast]
    have h3 := h2.ext e3
    have hnn : ∀ i : Nat, i < n + 1 ↔ i < n ∨ i = n := fun i => by omega
    refine h3.newBank (np' := n + 1) hc hnn hB3 keepOk.new (fun i hi => by
      have h4 := (h2.bank i hi).lt
      have h5 := h4 (p1 i) (.inl rfl)
      have h6 := h4 (m1 i) (.inr rfl)
      omega) ⟨by omega, by omega⟩ fun w4 h4 u4 => ?_
    refine drew_r fun w5 e5 _ => nn_some ?_
    have h5 := h4.ext e5
    have hu5 := h5.upd.size
    refine new_ref (Z := Sl.blk ⟨none, 0, 0⟩) fun pr w6 ks hR6 e6 hr => chk_r ⟨by omega, by omega⟩ ?_
    simp only [addr_add, scaled_eq, Nat.zero_add, Nat.mul_one, Int.toNat_natCast]
    have h6 := h5.ext e6
    refine h6.newRef (nr' := n + 1) hc hnn hR6 keepOk.new (fun i hi => by
      obtain ⟨ks', hR'⟩ := h5.ref i hi
      have := hR'.lt; omega) (by omega) fun w7 h7 u7 => ?_
    refine join_r (fun s' w' => s' = (false, ()) ∧ Ext w7 w') ?_ ?_
    · refine nn_some (chk_r ⟨by omega, by omega⟩ ?_)
      simp only [addr_add, scaled_eq, Nat.zero_add, Nat.mul_one, Int.toNat_natCast]
      refine h7.ldp hc (by omega) (sif_false (nn_some (chk_r ⟨by omega, by omega⟩ ?_)))
      simp only [addr_add, scaled_eq, Nat.zero_add, Nat.mul_one, Int.toNat_natCast]
      refine h7.ldp hc (by omega) (names_call (h7.bank n (by omega)) (h7.okp n (by omega)) fun s8 w8 o8 e8 => ⟨?_, e8⟩)
      have hl := o8.length
      simp only [fset, if_true] at hl
      have h0 : (nms ⟨fun _ => none, 0⟩ 128).length = 0 := by decide +kernel
      rw [h0] at hl
      rw [← hl]; rfl
    · rintro _ w8 ⟨rfl, e8⟩
      exact sif_false ⟨⟨n + 1, _, _, _, _, by omega, rfl, h7.ext e8⟩, by omega⟩
  · have hc : n = 2 := by have := of_decide_eq_false hc; omega
    subst hc
    exact ⟨_, _, _, _, h1⟩

/-- the world's box is made -/
theorem WIn.made (e : Ext w w') (n : w'.heap[x]? = some (.cells #[.pointer none, .pointer none, .pointer none, .pointer none, .slice none 0 0] 52 (0, 0))) (hx : w.heap.size ≤ x) : WIn w w' x 0 0 p m r ⟨none, 0, 0⟩ (Sl.blk ⟨none, 0, 0⟩) bk bk :=
  ⟨n, (fun i hi => absurd hi (Nat.not_lt_zero i)), (fun i hi => absurd hi (Nat.not_lt_zero i)), (fun i hi => absurd hi (Nat.not_lt_zero i)), (fun i hi => absurd hi (Nat.not_lt_zero i)), (fun i j hi => absurd hi (Nat.not_lt_zero i)), (fun i j hi => absurd hi (Nat.not_lt_zero i)), (fun i j hi => absurd hi (Nat.not_lt_zero i)), hx, (fun i hi => absurd hi (Nat.not_lt_zero i)), (fun i hi => absurd hi (Nat.not_lt_zero i)), .inl rfl, (fun k ⟨q, hq, _⟩ => by cases hq), e⟩

theorem plays_call {a0 : Sl} {xs : List (Cells.T c55)} {a1 : Int} {K : Bool → World → Prop} (hs : StepsIn w a0 xs) (hK : ∀ w', Ext w w' → K true w') :
    callT Try.prog 22 #[.slice a0.a a0.len a0.cap, .int .i64 a1] (.one (.one .bool)) K w := by
  refine F22_calls ?_
  unfold F22
  have hn : xs.length = a0.len := hs.row.lenR (cs := c55) (by decide)
  have hfew := hs.few
  refine newO_r fun b1 w1 e1 n1 hb1 _ => ?_
  refine join_r (fun s' w' => s' = (false, ()) ∧ ∃ p' m' r' bk', WIn w w' b1 2 2 p' m' r' ⟨none, 0, 0⟩ (Sl.blk ⟨none, 0, 0⟩) bk' bk') ?_ ?_
  · refine able_call fun w2 e2 => sif_false (begin_call ((WIn.made (p := id) (m := id) (r := id) (bk := fun _ => ⟨fun _ => none, 0⟩) e1 n1 (by omega)).ext e2) fun p' m' r' bk' w3 h3 => ⟨rfl, p', m', r', bk', h3⟩)
  rintro _ w2 ⟨rfl, p2, m2, r2, bk2, h2⟩
  refine sif_false (join_r (fun _ w' => Ext w w') ?_ fun _ w' e => hK w' e)
  refine sloop_r (fun s' w' => ∃ (n : Nat) (p' m' r' : Nat → Nat) (pen' : Sl) (bk' : Nat → Reg.Bk), n ≤ xs.length ∧ s' = ((n : Int), ()) ∧ WIn w w' b1 2 2 p' m' r' pen' pen'.blk bk' bk') (fun s' _ => (xs.length - s'.1).toNat) ⟨0, _, _, _, _, _, by omega, rfl, h2⟩ ?_
  rintro _ w3 ⟨n, p3, m3, r3, pen3, bk3, hn3, rfl, h3⟩
  dsimp only
  refine sif_r (fun hc => ?_) (fun hc => h3.upd)
  have hc : n < xs.length := by have := of_decide_eq_true hc; omega
  have en : IntKind.wrap .i64 ((n : Int) + 1) = ((n + 1 : Nat) : Int) := by rw [IntWalk.i64_in _ ⟨by omega, by omega⟩]; omega
  simp only [en]
  obtain ⟨y, hy⟩ : ∃ y, xs[n]? = some y := ⟨_, List.getElem?_eq_getElem hc⟩
  obtain ⟨l, hl, hl'⟩ := hs.txt n y hy
  refine ix_ldsX (cs := c55) (hs.row.ext h3.upd) (by decide) (by omega) (by simpa using hy) fun q => ?_
  refine step_call h3 hl hl' fun p4 m4 r4 pen4 bk4 w4 h4 => ?_
  refine ix_ldf0X (cs := c55) (c := .int .i64) (hs.row.ext h4.upd) (by decide) (by omega) (x := y) (y := y.1) (by simpa using hy) rfl fun q => ?_
  refine join_at (false, ()) ?_ (sif_false ⟨⟨n + 1, p4, m4, r4, pen4, bk4, hc, rfl, h4⟩, by omega⟩)
  refine nn_some (chk_r ⟨by decide, by decide⟩ (h4.ldp (i := 0) (by decide) (by decide) (sif_false (nn_some (chk_r ⟨by decide, by decide⟩ (h4.ldp (i := 1) (by decide) (by decide) (sif_false (sif_false ⟨rfl, rfl⟩))))))))
end
end Go.Proofs.Ytocdfkeflakemaa
