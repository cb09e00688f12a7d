/- The laws' small helpers: space, made, fits, sparing, faults. Conditions: arguments in memory. -/
import Derived.Test.YtdabehgbhndimaaOpf
import Derived.Test.YtdabehgbhndimaaLsp
import Derived.Test.YtdabehgbhndimaaVxG
import Derived.Test.YtdabehgbhndimaaVxT
set_option linter.unusedSimpArgs false
set_option linter.unusedVariables false
namespace Go.Proofs.Ytdabehgbhndimaa
open Go Go.Vx Dsk
section
variable {w w' : World} {S P : Nat → Prop}

theorem EF : ElemOk Try.prog 34 74 5 56 := ElemOk.of (z := .agg #[.int .i64 0, .int .i64 0, .int .i64 0, .int .i64 0, .slice none 0 0]) i34_ok i74_ok rfl rfl rfl (by decide)
theorem ET : ElemOk Try.prog 63 68 3 24 := ElemOk.of (z := .agg #[.int .i64 0, .int .i64 0, .int .i64 0]) i63_ok i68_ok rfl rfl rfl (by decide)
theorem uF : Try.prog.underlying 34 = some (.slice 74) := i34_ok.und
theorem uT : Try.prog.underlying 63 = some (.slice 68) := i63_ok.und

def spaceR (a : Int) : Int := 8 + (((BitVec.ofInt 64 a &&& BitVec.ofInt 64 1023).toNat : Nat) : Int)
theorem spaceR_bd (a : Int) : 8 ≤ spaceR a ∧ spaceR a ≤ 1031 := by
  unfold spaceR
  have h : (BitVec.ofInt 64 a &&& BitVec.ofInt 64 1023).toNat ≤ 1023 := by
    rw [BitVec.toNat_and]
    exact Nat.le_trans Nat.and_le_right (by decide)
  omega
theorem space_call {a : Int} {K : Int → World → Prop} (hK : K (spaceR a) w) : callT Try.prog 11 #[.int .i64 a] (.one (.one (.int .i64))) K w := by
  refine F11_calls ?_
  unfold F11
  have hb := spaceR_bd a
  unfold spaceR at hb hK
  have e1 : IntKind.wrap .i64 (((BitVec.ofInt 64 a &&& BitVec.ofInt 64 1023).toNat : Nat) : Int) = (((BitVec.ofInt 64 a &&& BitVec.ofInt 64 1023).toNat : Nat) : Int) := IntWalk.i64_in _ ⟨by omega, by omega⟩
  show K (IntKind.wrap .i64 (8 + IntKind.wrap .i64 (((BitVec.ofInt 64 a &&& BitVec.ofInt 64 1023).toNat : Nat) : Int))) w
  rw [e1, IntWalk.i64_in _ ⟨by omega, by omega⟩]
  exact hK
theorem made_call {space : Int} (h0 : 0 ≤ space) (h1 : space ≤ 1048576) {K : Option Addr → World → Prop}
    (hK : ∀ d F w', DiskIn w' d F (newD space) → Ext w w' → (∀ k, F k → w.heap.size ≤ k) → K (some (at0 d)) w') : callT Try.prog 10 #[.int .i64 space] (.one (.one .ptr)) K w := by
  refine F10_calls ?_
  unfold F10
  exact new_call h0 h1 fun d F w' hD e hF => rdB_nnil' (sif_false (hK d F w' hD e hF)) uE

/-- a part of a row -/
theorem slc_own {b off h cap : Nat} (hh : h ≤ cap) (hc : 0 < cap) {K : Sl → World → Prop} (hK : K ⟨some ⟨b, off, none⟩, h, cap⟩ w) : slc (some ⟨b, off, none⟩) 0 (h : Int) ((cap : Nat) : Int) cap 1 K w := by
  refine ⟨(), ⟨Int.le_refl 0, by omega, by omega, Int.le_refl _⟩, ?_⟩
  show K ⟨if ((cap : Nat) : Int).toNat = (0 : Int).toNat then some ⟨b, off, none⟩ else (some (⟨b, off, none⟩ : Addr)).map fun p => p.add (scaled (0 : Int).toNat 1), (h : Int).toNat - (0 : Int).toNat, ((cap : Nat) : Int).toNat - (0 : Int).toNat⟩ w
  rw [if_neg (by simp; omega)]
  simp only [Option.map_some, addr_add, scaled, Int.toNat_natCast, Int.toNat_zero, Nat.zero_mul, Nat.add_zero, Nat.sub_zero]
  exact hK

theorem sparing_call {x : Sl} {l : List Int} (hx : SlX w x 1 (iv l)) (hl : l.length ≤ 2 ^ 44) {K : Sl → World → Prop} (hK : ∀ s w', SlOwn w' w.heap.size s 3 1 (iv l) → Ext w w' → K s w') :
    callT Try.prog 52 #[.slice x.a x.len x.cap] (.one (.one .sl)) K w := by
  refine F52_calls ?_
  unfold F52
  have hxl := hx.len1
  rw [List.length_map] at hxl
  refine append_rc EI uI (B := w.heap.size) (s := ⟨none, 0, 0⟩) (vs := []) (SlOwn.nil _ _ _ _) hx (iv_one l) (by dsimp only; omega) (Nat.le_refl _) fun x1 w1 h1 hl1 u1 hb1 hc1 => ?_
  have e1 : Ext w w1 := u1.mono fun k _ h => by obtain ⟨q, hq, _⟩ := h; cases hq
  have hz1 := e1.size
  refine newO_r fun b2 w2 e2 n2 hb2 _ => ?_
  have hz2 := e2.size
  have hbox : SlX w2 ⟨some (at0 b2), 8, 8⟩ 1 (List.replicate 8 (Value.int .i64 (-71))) := (SlIn.of_box (n := 8) (sz := 1) n2 rfl).x
  dsimp only at hl1 hc1
  have h63 : (2 : Nat) ^ 63 = 9223372036854775808 := by decide
  refine append_rc EI uI (s := x1) (x := ⟨some (at0 b2), 8, 8⟩) (h1.ext e2) hbox (fun v hv => by rw [List.eq_of_mem_replicate hv]; rfl) (by show (x1.len + 8 + (x1.len + 8) / 4 + 512) * 8 ≤ _; omega) (by omega) fun x3 w3 h3 hl3 u3 hb3 hc3 => ?_
  have e3 : Ext w w3 := (e1.trans e2).new u3 fun k hk h => by
    have := h1.blk_ge h; omega
  have hle := h3.le
  rcases h3.at_ with ⟨_, hc⟩ | ⟨b, off, c, ha, hB, hb, hcap, hv⟩
  · dsimp only at hl3; omega
  dsimp only at hl3
  have hc63 : x3.cap < 2 ^ 63 := by omega
  rw [ha]
  refine slc_own (Nat.le_refl _) (by omega) ?_
  rw [Nat.mul_one] at hcap
  refine join_r (fun _ W => ∃ c', W.heap[b]? = some (.cells c' 3 (0, 0)) ∧ off + x3.cap ≤ c'.size ∧ (∀ (j : Nat) v, (iv l)[j]? = some v → c'[off + j]? = some v) ∧ Upd (fun k => k = b) w3 W) ?_ ?_
  · refine sloop_r (fun s W => ∃ i : Nat, s = ((i : Int), ()) ∧ x.len ≤ i ∧ i ≤ x3.cap ∧ ∃ c', W.heap[b]? = some (.cells c' 3 (0, 0)) ∧ off + x3.cap ≤ c'.size ∧ (∀ (j : Nat) v, (iv l)[j]? = some v → c'[off + j]? = some v) ∧ Upd (fun k => k = b) w3 W) (fun s _ => x3.cap - s.1.toNat) ⟨x.len, rfl, Nat.le_refl _, by omega, c, hb, hcap, fun j v hj => hv j v ?_, Upd.refl _ _⟩ ?_
    · have := (List.getElem?_eq_some_iff.1 hj).1
      rw [List.nil_append, List.getElem?_append_left this]; exact hj
    · rintro _ W ⟨i, rfl, hi1, hi2, c', g1, g2, g3, g4⟩
      dsimp only
      refine sif_r (fun h => ?_) fun h => ⟨c', g1, g2, g3, g4⟩
      have h : i < x3.cap := by have := of_decide_eq_true h; omega
      refine ix_iff.2 ⟨⟨b, off, none⟩, ⟨rfl, by omega, by omega⟩, ?_⟩
      rw [addr_add, Int.toNat_natCast]
      refine stC_r g1 (by simp [scaled]; omega) fun W2 u2 n2' _ => ?_
      have ew : IntKind.wrap .i64 ((i : Int) + 1) = ((i + 1 : Nat) : Int) := by rw [IntWalk.i64_in _ ⟨by omega, by omega⟩]; omega
      rw [ew]
      refine ⟨⟨i + 1, rfl, by omega, h, _, n2', by simpa using g2, fun j v hj => ?_, g4.trans u2⟩, by simp only [Int.toNat_natCast]; omega⟩
      have hjl := (List.getElem?_eq_some_iff.1 hj).1
      rw [List.length_map] at hjl
      rw [Array.getElem?_setIfInBounds, if_neg (by simp [scaled]; omega)]
      exact g3 j v hj
  · rintro _ W ⟨c', g1, g2, g3, g4⟩
    refine slc_own (b := b) (off := off) (h := x.len) (cap := x3.cap) (by omega) (by omega) (hK _ W ⟨?_, by dsimp only; omega, .inr ⟨b, off, c', rfl, by omega, g1, by rw [Nat.mul_one]; exact g2, g3⟩⟩ (e3.new g4 fun k hk e => by omega))
    rw [List.length_map]; dsimp only; omega

/-- faults that lie in new rows -/
structure FaultsOwn (w : World) (B : Nat) (x : Sl) (rows : List (Cells.T c74)) (fl : List (Int × Fault)) : Prop where
  row : SlOwn w B x 74 5 (flat c74 rows)
  len : rows.length = fl.length
  at_ : ∀ (i : Nat) (r : Cells.T c74) (f : Int × Fault), rows[i]? = some r → fl[i]? = some f → r.1 = f.1 ∧ r.2.1 = f.2.kind ∧ r.2.2.1 = f.2.part ∧ r.2.2.2.1 = f.2.names ∧ SlOwn w B r.2.2.2.2.1 3 1 (iv f.2.bytes) ∧ f.2.bytes.length ≤ 2 ^ 44
theorem FaultsOwn.in {B : Nat} {x : Sl} {rows : List (Cells.T c74)} {fl : List (Int × Fault)} (h : FaultsOwn w B x rows fl) : FaultsIn w (fun k => B ≤ k ∧ k < w.heap.size) x rows fl :=
  ⟨h.row.in.x, .inr fun k hk => ⟨h.row.blk_ge hk, h.row.in.blk_lt hk⟩, h.len, fun i r f hr hf => let ⟨a, b, c, d, e, g⟩ := h.at_ i r f hr hf; ⟨a, b, c, d, e.in.x, g, .inr fun k hk => ⟨e.blk_ge hk, e.in.blk_lt hk⟩⟩⟩
theorem FaultsOwn.upd {B : Nat} {x : Sl} {rows : List (Cells.T c74)} {fl : List (Int × Fault)} (h : FaultsOwn w B x rows fl) (u : Ext w w') : FaultsOwn w' B x rows fl :=
  ⟨h.row.ext u, h.len, fun i r f hr hf => let ⟨a, b, c, d, e, g⟩ := h.at_ i r f hr hf; ⟨a, b, c, d, e.ext u, g⟩⟩

theorem faults_call {x : Sl} {rows : List (Cells.T c74)} {fl : List (Int × Fault)} (hx : FaultsIn w P x rows fl) (hl : fl.length * 56 ≤ 2 ^ 47) {K : Sl → World → Prop} (hK : ∀ s rows' w', FaultsOwn w' w.heap.size s rows' fl → Ext w w' → K s w') :
    callT Try.prog 20 #[.slice x.a x.len x.cap] (.one (.one .sl)) K w := by
  refine F20_calls ?_
  unfold F20
  have hxl : rows.length = x.len := hx.row.lenR (by decide)
  have hlen := hx.len
  refine join_r (fun x W => ∃ rows', FaultsOwn W w.heap.size x.1 rows' fl ∧ Ext w W) ?_ ?_
  · refine sloop_r (fun s W => ∃ (j : Nat) (sl : Sl) (rows' : List (Cells.T c74)), s = (sl, (j : Int), ()) ∧ j ≤ rows.length ∧ FaultsOwn W w.heap.size sl rows' (fl.take j) ∧ Ext w W) (fun s _ => rows.length - s.2.1.toNat)
      ⟨0, ⟨none, 0, 0⟩, [], rfl, Nat.zero_le _, ⟨SlOwn.nil _ _ _ _, rfl, fun i r f hr => by simp at hr⟩, Ext.refl _⟩ ?_
    rintro _ W ⟨j, sl, rows', rfl, hj, hs, eW⟩
    dsimp only
    refine sif_r (fun h => ?_) (fun h => ?_)
    · have h : j < rows.length := by have := of_decide_eq_true h; omega
      obtain ⟨r, hr⟩ : ∃ r, rows[j]? = some r := ⟨_, List.getElem?_eq_getElem h⟩
      obtain ⟨g, hg⟩ : ∃ g, fl[j]? = some g := ⟨_, List.getElem?_eq_getElem (by omega)⟩
      have xW := hx.upd eW fun k _ h => h
      obtain ⟨q1, q2, q3, q4, q5, q6, q7⟩ := xW.at_ j r g hr hg
      have ew : IntKind.wrap .i64 ((j : Int) + 1) = ((j + 1 : Nat) : Int) := by rw [IntWalk.i64_in _ ⟨by omega, by omega⟩]; omega
      have htk : fl.take (j + 1) = fl.take j ++ [g] := by rw [List.take_add_one, hg]; rfl
      refine ix_ldsX (cs := c74) xW.row (by decide) (by omega) (by simpa using hr) fun _ => ?_
      refine (St.start W).newAgg rfl rfl rfl fun b7 w1 S1 e1 => ?_
      rw [addr_add]
      refine S1.ld 0 (off := 4) (x := r.2.2.2.2.1) rfl rfl (sparing_call (SlX.ext q5 e1) q6 fun s' w2 hs' e2 => ?_)
      refine (S1.ext e2).stC 0 (off := 4) rfl (by simp [Cells.vals]) fun w3 S3 u3 => ?_
      refine S3.lds 0 (cs := c74) (r.1, r.2.1, r.2.2.1, r.2.2.2.1, s', ()) rfl ?_
      refine newO_r fun b11 w4 e4 n4 hb4 _ => ?_
      have g7 := S1.ge 0 rfl
      have hz1 := e1.size
      have hzW := eW.size
      have eA : Ext W w4 := ((e1.trans e2).new u3 fun k hk e => by have e : k = b7 := e; omega).trans e4
      have hsA := hs.upd eA
      have hrl : rows'.length = sl.len := hs.row.lenR (by decide)
      have hl1 := hs.len
      rw [List.length_take] at hl1
      have hbox : SlX w4 ⟨some (at0 b11), 1, 1⟩ 5 (Cells.vals c74 (r.1, r.2.1, r.2.2.1, r.2.2.2.1, s', ())) := (SlIn.of_box (n := 1) (sz := 5) n4 rfl).x
      have hs4 : SlOwn w4 w.heap.size s' 3 1 (iv g.2.bytes) := ((hs'.box ((S1.ext e2).at_ 0 rfl) (by decide) u3).ext e4).mono (by omega)
      refine append_rx EF uF (s := sl) (x := ⟨some (at0 b11), 1, 1⟩) hsA.row hbox (fun v hv => ?_) (by show (sl.len + 1 + (sl.len + 1) / 4 + 512) * 56 ≤ _; omega) (by have := eA.size; omega) fun s2 w5 h5 hl5 u5 hb5 => ?_
      · simp [Cells.vals, Cell.val] at hv
        rcases hv with rfl | rfl | rfl | rfl | rfl <;> rfl
      have e05 : Ext w w5 := (eW.trans eA).new u5 fun k hk h => by have := hs.row.blk_ge h; omega
      rw [ew]
      refine ⟨⟨j + 1, s2, rows' ++ [(r.1, r.2.1, r.2.2.1, r.2.2.2.1, s', ())], rfl, h, ⟨by rw [flat_append]; simpa [flat] using h5, by rw [htk]; simp; omega, fun i r2 f2 hr2 hf2 => ?_⟩, e05⟩, by simp only [Int.toNat_natCast]; omega⟩
      have keep : ∀ {y : Sl} {l : List Int}, SlOwn w4 w.heap.size y 3 1 (iv l) → SlOwn w5 w.heap.size y 3 1 (iv l) := fun h => h.ty u5 (NoTy.blk hsA.row.in (by decide))
      rw [htk] at hf2
      by_cases hi : i < rows'.length
      · rw [List.getElem?_append_left hi] at hr2
        rw [List.getElem?_append_left (by simp; omega)] at hf2
        obtain ⟨a, b, c, d, e, g'⟩ := hsA.at_ i r2 f2 hr2 hf2
        exact ⟨a, b, c, d, keep e, g'⟩
      · rw [List.getElem?_append_right (by omega)] at hr2
        rw [List.getElem?_append_right (by simp; omega)] at hf2
        have h1 := List.mem_of_getElem? hr2
        have h2 := List.mem_of_getElem? hf2
        simp at h1 h2
        subst h1 h2
        exact ⟨q1, q2, q3, q4, keep hs4, q6⟩
    · have h : ¬ j < rows.length := by have := of_decide_eq_false h; omega
      rw [List.take_of_length_le (by omega)] at hs
      exact ⟨rows', hs, eW⟩
  · rintro ⟨s, ⟨⟩⟩ W ⟨rows', h1, h2⟩
    exact hK s rows' W h1 h2
end
end Go.Proofs.Ytdabehgbhndimaa
