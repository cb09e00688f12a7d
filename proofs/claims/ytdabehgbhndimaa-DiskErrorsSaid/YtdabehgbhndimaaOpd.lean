/- What Append does. Conditions: the disk stands, its numbers are small; the bytes lie apart from the disk. -/
import Derived.Test.YtdabehgbhndimaaOpc
set_option linter.unusedSimpArgs false
set_option linter.unusedVariables false
namespace Go.Proofs.Ytdabehgbhndimaa
open Go Go.Vx Dsk
section
variable {w w' : World} {S F F' : Nat → Prop} {d m ms ml : Nat} {f : Dir} {fb : List Nat} {ds : List Sl} {fs : List Fl} {sa : Sl} {vs : List Value} {D : Dk} {pl : Option Nat} {p : Int → Option Fault} {N : Nat}

theorem DiskAt.frame (A : DiskAt w d F D ms ml sa pl vs fb ds) (u : Upd S w w') (hS : ∀ k, F k → ¬ S k) : DiskAt w' d F D ms ml sa pl vs fb ds := by
  refine ⟨u.get A.box (hS _ A.fd), A.seen.upd u (hS _ A.fms), A.lasts.upd u (hS _ A.fml), A.files.upd u (fun b hb => hS _ (A.ffb b hb)) (fun s hs k hk => hS _ (A.fds s hs k hk)),
    ⟨A.acts.row.upd u fun k _ hk => hS _ (A.fsa k hk), A.acts.len, fun i v a hv ha => (A.acts.at_ i v a hv ha).upd u hS fun _ h => h⟩, ?_, A.ne, A.nes, A.nel, A.fd, A.fms, A.fml, A.ffb, A.fds, A.fsa, fun k hk => Nat.lt_of_lt_of_le (A.lt k hk) u.size⟩
  rcases A.plan with h | ⟨m, es, g1, g2, g3, g4⟩
  · exact .inl h
  · exact .inr ⟨m, es, g1, g2, g3.upd u (hS m g2), fun k => (g4 k).old u hS⟩

theorem slcX {x : Sl} {l : List UInt8} (hx : Bytes w x l) {h : Int} (h0 : 0 ≤ h) (hh : h ≤ x.len) {K : Sl → World → Prop} (hK : ∀ s', Bytes w s' (l.take h.toNat) → s'.len = h.toNat → (∀ k, s'.blk k → x.blk k) → K s' w) :
    slc x.a 0 h ((x.cap : Nat) : Int) x.cap 1 K w := by
  rcases hx.at_ with ⟨h1, h2⟩ | ⟨t, hi⟩
  · have hz : h = 0 := by omega
    subst hz
    have hl : l = [] := by simpa using h2
    refine ⟨(), ⟨Int.le_refl 0, Int.le_refl 0, by omega, Int.le_refl _⟩, hK _ ⟨.inl ⟨rfl, by rw [hl]; rfl⟩⟩ rfl fun k hk => ?_⟩
    obtain ⟨p, hp, rfl⟩ := hk
    have hp' : (if ((x.cap : Nat) : Int).toNat = (0 : Int).toNat then x.a else x.a.map fun p => p.add (scaled (0 : Int).toNat 1)) = some p := hp
    split at hp'
    · exact ⟨p, hp', rfl⟩
    · obtain ⟨q, hq, rfl⟩ := Option.map_eq_some_iff.1 hp'
      exact ⟨q, hq, rfl⟩
  · have hle := hi.le
    refine slc_r hi (Int.le_refl 0) h0 hh (by omega) (Int.le_refl _) fun s' hi' hl _ hb => hK s' ⟨.inr ⟨t, ?_⟩⟩ (by omega) hb
    simpa [List.map_take] using hi'

abbrev ibox (k : Int) : Obj := .cells #[.int .i64 k] 3 (0, 0)
theorem room_le (ok : DkOk D N) : 0 ≤ room D ∧ room D ≤ 1048576 := by
  have := ok.space
  have := ok.used none
  unfold room
  omega

theorem write_call {b1 b2 b4 : Nat} {n : Nm} {x : Sl} {l : List UInt8} (A : DiskAt w d F D ms ml sa pl vs fb ds) (ok : DkOk D N) (hN : N ≤ 2 ^ 30) (n1 : w.heap[b1]? = some (pbox d)) (n2 : w.heap[b2]? = some (sbox n)) (n4 : w.heap[b4]? = some (ibox 0)) (h4 : ¬ F b4)
    (hx : Bytes w x l) (hxb : Lie (fun k => k ≠ b4) x) {K : Int → World → Prop}
    (hK : ∀ w' F2, DiskIn w' d F2 (apR n l D).1 → w'.heap[b4]? = some (ibox (apR n l D).2.2) → Upd (fun k => FN w F k ∨ k = b4) w w' → (∀ k, F2 k → F k ∨ w.heap.size ≤ k) → K (apR n l D).2.1 w') :
    callT Try.prog 60 #[.slice x.a x.len x.cap, .pointer (some (at0 b1)), .pointer (some (at0 b2)), .pointer (some (at0 b4))] (.one (.one (.int .i64))) K w := by
  refine F60_calls ?_
  unfold F60
  refine ld_r n1 (x := some (at0 d)) rfl (ld_r n2 (x := n) rfl (find_call A fun nm w2 e2 hnm => ?_))
  unfold apR at hK
  obtain ⟨o, e, hfo⟩ : ∃ o e, Dsk.find D n = (o, e) := ⟨_, _, rfl⟩
  rw [hfo] at hK hnm ⊢
  refine (((St.startM (fun k => k = b4 ∨ F k) w fun k hk => hk.elim (fun hk => by rw [hk]; exact lt_of_heap n4) (A.lt k))).ext e2).newAgg rfl rfl rfl fun bh w3 S3 e3 => ?_
  have e13 := e2.trans e3
  cases o with
  | none =>
    have he : e ≠ 0 := by rcases find_none hfo with ⟨_, h⟩ | ⟨_, h⟩ <;> rw [h] <;> decide
    exact sif_r (fun _ => hK w3 F (A.ext e13).in (e13.ext_get n4) (Upd.of_ext e13) fun k hk => .inl hk) fun h => absurd (by simpa using h) he
  | some i =>
    obtain ⟨hs, rfl, _⟩ := find_seen hfo
    have hxl := hx.len1
    rw [List.length_map] at hxl
    obtain ⟨kk, hkk⟩ : ∃ kk : Int, kk = if room D < (l.length : Int) then room D else l.length := ⟨_, rfl⟩
    have hrl := room_le ok
    have hk0 : 0 ≤ kk ∧ kk ≤ l.length ∧ kk ≤ 1048576 := by rw [hkk]; split <;> omega
    dsimp only at hK
    rw [← hkk] at hK
    refine sif_r (fun h => by simp at h) fun _ => (ld_r (e13.ext_get n1) (x := some (at0 d)) rfl (room_call (A.ext e13) ok fun w4 e4 => ?_))
    have e14 := e13.trans e4
    have S4 := S3.ext e4
    rw [show (if room D < ((x.len : Nat) : Int) then room D else ((x.len : Nat) : Int)) = kk by rw [hkk, ← hxl]]
    refine stC_r (e14.ext_get n4) (by simp) fun w5 u5 n5 hz5 => ?_
    have n5 : w5.heap[b4]? = some (ibox kk) := n5
    have S5 := S4.step u5 fun _ h => .inl h
    refine S5.drew fun w6 S6 e6 _ => ?_
    have A6 := ((A.ext e14).frame u5 fun k hk e => h4 (e ▸ hk)).ext e6
    have n6 := e6.ext_get n5
    obtain ⟨b, s, g, hb, hss, hg, hgb, hfl, hbx, hby⟩ := A6.file_at (ok.seen.ids n i hs)
    have hgl := ok.fil i g hg
    have hlen := hby.len1
    rw [List.length_map] at hlen
    have hfb := A.ffb b (List.mem_of_getElem? hb)
    have hfs := A.fds s (List.mem_of_getElem? hss)
    have x6 : Bytes w6 x l := (SlX.updL (hx.ext e14) hxb u5 fun k hk e => hk e).ext e6
    refine S6.ld 0 (x := some (at0 b)) rfl (by simp only [Option.map_some, hgb]; rfl) (S6.ld 0 (x := some (at0 b)) rfl (by simp only [Option.map_some, hgb]; rfl) (nn_some ?_))
    rw [addr_add]
    refine ld_r hbx (x := s) rfl (ld_r n6 (x := kk) rfl (slcX x6 hk0.1 (by omega) fun x' hx' hxl' _ => ?_))
    have hb4b : b ≠ b4 := fun e => h4 (e ▸ hfb)
    have nb : ∀ {k : Nat} {c : Array Value} {t : TypeId} {fr : Nat × Nat}, t ≠ 5 → w6.heap[k]? = some (.cells c t fr) → ¬ s.blk k := fun ht hk h => by
      obtain ⟨c', fr', hc'⟩ := hby.in.blk_cells h
      rw [hk] at hc'; cases hc'; exact ht rfl
    refine append_rx EB uB (B := 0) hby hx' (bv_one _) (by omega) (Nat.zero_le _) fun s' w7 hs' hsl u7 hsb => ?_
    have hsl' : s'.len = (g.data ++ l.take kk.toNat).length := by
      have := hs'.len1
      rw [← this, ← List.map_append, List.length_map]
    have S7 := S6.step u7 fun k hk => .inr (hfs k hk)
    have bx7 := u7.get hbx (nb (by decide) hbx)
    have n7 := u7.get n6 (nb (by decide) n6)
    refine S7.keep 0 (off := 0) rfl (by simp only [Option.map_some, hgb]; rfl) (nn_some ?_)
    rw [addr_add]
    refine stC_r bx7 (by simp) fun w8 u8 n8 hz8 => ?_
    obtain ⟨g', hg'⟩ : ∃ g' : Fl, g' = ⟨g.data ++ l.take kk.toNat, g.synced, if kk > 0 then g.count + 1 else g.count⟩ := ⟨_, rfl⟩
    have n8 : w8.heap[b]? = some (fbox i s' ⟨g.data ++ l.take kk.toNat, g.synced, g.count⟩) := n8
    have S8 := S7.step u8 fun k hk => .inr (by rw [hk]; exact hfb)
    have q8 := u8.get n7 (Ne.symm hb4b)
    have hc : IntKind.wrap .i64 (g.count + 1) = g.count + 1 := IntWalk.i64_in _ ⟨by omega, by omega⟩
    refine join_r (fun _ w' => w'.heap[b]? = some (fbox i s' g') ∧ Upd (fun k => k = b) w8 w') (ld_r q8 (x := kk) rfl (sif_r (fun h => ?_) fun h => ?_)) ?_
    · have h : kk > 0 := of_decide_eq_true h
      refine S8.ld 0 (x := some (at0 b)) rfl (by simp only [Option.map_some, hgb]; rfl) (nn_some ?_)
      rw [addr_add]
      refine ld_r n8 (x := g.count) rfl (nn_some ?_)
      rw [addr_add, hc]
      refine stC_r n8 (by simp) fun w9 u9 n9 _ => ⟨?_, u9⟩
      rw [n9, hg', if_pos h]; rfl
    · have h : ¬ kk > 0 := of_decide_eq_false h
      exact ⟨by rw [n8, hg', if_neg h], Upd.refl _ _⟩
    · rintro _ w9 ⟨n9, u9⟩
      have u69 : Upd (fun k => k = b ∨ s.blk k) w6 w9 := ((u7.mono fun k _ h => .inr h).trans (u8.mono fun k _ h => .inl h)).trans (u9.mono fun k _ h => .inl h)
      have hd9 : g'.data = g.data ++ l.take kk.toNat := by rw [hg']
      have ho : BytesO w9 0 s' g'.data := by
        rw [hd9]
        have := (hs'.box bx7 (by decide) u8).box n8 (by decide) u9
        rwa [← List.map_append] at this
      have A9 := A6.file_set hb hss hg u69 (fun k hk _ => hk) n9 ho (fun k hk => (hsb k hk))
      have q9 := u9.get q8 (Ne.symm hb4b)
      have hz16 : w.heap.size ≤ w6.heap.size := Nat.le_trans e14.size (Nat.le_trans u5.size e6.size)
      have e56 : Upd (fun k => FN w F k ∨ k = b4) w w6 := ((Upd.of_ext e14).trans (u5.mono fun k _ h => .inr h)).trans (Upd.of_ext e6)
      have uall : Upd (fun k => FN w F k ∨ k = b4) w w9 := e56.new u69 fun k hk h => .inl ⟨?_, fun c fr hc => ?_⟩
      · have fin : ∀ e, e = (if kk < (l.length : Int) then (161 : Int) else 0) → K e w9 := fun e he => by
          rw [he]
          refine hK w9 _ (by rw [put1_eq hg, ← hg']; exact A9.in) q9 uall fun k (hk : F k ∨ s'.blk k) => hk.elim .inl fun h => (hsb k h).imp (hfs k) fun h => by omega
        refine ld_r q9 (x := kk) rfl (sif_r (fun h => fin _ ?_) fun h => fin _ ?_)
        · have h := of_decide_eq_true h; rw [if_pos (by omega)]
        · have h := of_decide_eq_false h; rw [if_neg (by omega)]
      · rcases h with h | h
        · rw [h]; exact hfb
        · exact hfs k h
      · have hk4 : k ≠ b4 := fun e => by
          rcases h with h | h
          · exact hb4b (h ▸ e)
          · exact h4 (e ▸ hfs k h)
        have := e56.get hc fun hh => hh.elim (fun hh => hh.2 c fr hc) hk4
        rcases h with h | h
        · rw [h, hbx] at this; cases this
        · exact nb (by decide) this h

theorem append_call (A : DiskIn w d F D) (ok : DkOk D N) (hN : N + 2 ≤ 2 ^ 30) {n : Nm} {x : Sl} {l : List UInt8} (hx : Bytes w x l) (hxb : Lie (fun k => k < w.heap.size ∧ ¬ F k) x) {K : (Int × Value × Unit) → World → Prop}
    (hK : ∀ F' w' v, ErrIn w w' F' v ⟨#[97, 112, 112, 101, 110, 100]⟩ n (callAppend D n l).2.1 → DiskIn w' d F' (callAppend D n l).1 → Upd F w w' → (∀ k, F' k → F k ∨ w.heap.size ≤ k) → K ((callAppend D n l).2.2, v, ()) w') :
    callT Try.prog 29 #[.pointer (some (at0 d)), .string n, .slice x.a x.len x.cap] (.tup [(.one (.int .i64)), (.one .any)]) K w := by
  refine F29_calls ?_
  unfold F29
  refine newO_r fun b1 w1 e1 n1 hb1 _ => newO_r fun b2 w2 e2 n2 hb2 _ => newO_r fun b3 w3 e3 n3 hb3 _ => newO_r fun b4 w4 e4 n4 hb4 hz4 => stC_r n4 (by simp) fun w5 u5 n5 hz5 => ?_
  have e45 : Ext w3 w5 := e4.new u5 fun k hk h => by omega
  have n5 : w5.heap[b4]? = some (ibox 0) := n5
  refine newO_r fun b5 w6 e6 n6 hb6 hz6 => chk_r rfl (stC_r n6 (by simp) fun w7 u7 n7 hz7 => ?_)
  have e57 : Ext w5 w7 := e6.new u7 fun k hk h => by omega
  have n7 : w7.heap[b5]? = some (.cells #[.func (.func 60) #[] #[.pointer (some (at0 b1)), .pointer (some (at0 b2)), .pointer (some (at0 b4))]] 122 (0, 0)) := n7
  have e37 := e45.trans e57
  have e27 := e3.trans e37
  have e17 := e2.trans e27
  have e07 := e1.trans e17
  refine ld_r (e17.ext_get n1) (x := some (at0 d)) rfl (ld_r (e27.ext_get n2) (x := n) rfl ?_)
  have hs1 := e1.size
  have hs2 := e2.size
  have hs3 := e3.size
  have hs4 := e4.size
  have hs57 := e57.size
  have hlt := A.lt
  have hd := A.fd
  refine step_call (M := fun k => k = b4) (E := fun _ => False) (Q0 := fun w => w.heap[b1]? = some (pbox d) ∧ w.heap[b2]? = some (sbox n) ∧ w.heap[b3]? = some (.cells #[sv x] 33 (0, 0)) ∧ w.heap[b4]? = some (ibox 0) ∧ w.heap[b5]? = some (.cells #[.func (.func 60) #[] #[.pointer (some (at0 b1)), .pointer (some (at0 b2)), .pointer (some (at0 b4))]] 122 (0, 0)) ∧ Bytes w x l) (Q1 := fun a w F => w.heap[b4]? = some (ibox a) ∧ ¬ F b4) (a0 := 0) (act := apR n l) (part := some (apPart n l)) (A.ext e07) ok (by omega) ⟨e17.ext_get n1, e27.ext_get n2, e37.ext_get n3, e57.ext_get n5, n7, hx.ext e07⟩ ⟨e57.ext_get n5, fun h => ?_⟩ (fun k hk => ⟨by rw [hk]; exact lt_of_heap (e57.ext_get n5), fun h => ?_⟩) (fun _ h => h.elim)
    (fun w1 w2 S ⟨h1, h2, h3, h4, h5, h6⟩ u hS => ⟨u.get h1 fun h => ?_, u.get h2 fun h => ?_, u.get h3 fun h => ?_, u.get h4 fun h => ?_, u.get h5 fun h => ?_, SlX.updL h6 hxb u fun k hk h => ?_⟩) (fun a w1 F1 w2 F2 ⟨h1, h2⟩ u hF => ⟨u.get h1 h2, fun h => (hF _ h).elim h2 fun h => ?_⟩) (fun D1 _ ok1 => ⟨ok_ap ok1 n l, ?_⟩) (.inr ⟨apPart n l, _, _, rfl, rfl, fun D1 k _ => ?_⟩) ?_
  · have := hlt _ h; omega
  · have := hlt k h; omega
  · have := hS _ h; have := hlt d hd; omega
  · have := hS _ h; have := hlt d hd; omega
  · have := hS _ h; have := hlt d hd; omega
  · have := hS _ h; have := hlt d hd; omega
  · have := hS _ h; have := hlt d hd; omega
  · have h0 := hS _ h; exact hk.2 (h0 ▸ hd)
  · have := lt_of_heap h1; omega
  · rintro w1 F1 K ⟨ms, ml, sa, pl, vs, fb, ds, A⟩ ok ⟨n1, n2, n3, n4, n5, hx⟩ hF hz hK
    have hb4F : ¬ F1 b4 := fun h => by rcases hF _ h with h | h; have := hlt _ h; omega; omega
    refine func_x (by kernel_rfl) ?_
    refine F62_calls (v0 := at0 b5) (v1 := at0 b3) ?_
    unfold F62
    refine ld_r n5 (x := .func (.func 60) #[] #[.pointer (some (at0 b1)), .pointer (some (at0 b2)), .pointer (some (at0 b4))]) rfl (ld_r n3 (x := x) rfl (func_x (by kernel_rfl) (write_call A ok (by omega) n1 n2 n4 hb4F hx (hxb.imp id fun h k hk e => ?_) fun w' F2 h1 h2 h3 h4 => hK w' F2 h1 ⟨h2, fun h => ?_⟩ h3 fun k hk => (h4 k hk).imp id .inr)))
    · have := (h k hk).1; omega
    · have := lt_of_heap n4
      exact (h4 _ h).elim hb4F fun h => by omega
  · rintro w1 F1 K ⟨ms, ml, sa, pl, vs, fb, ds, A⟩ ok ⟨n1, n2, n3, n4, n5, hx⟩ hF hz hK
    have hb4F : ¬ F1 b4 := fun h => by rcases hF _ h with h | h; have := hlt _ h; omega; omega
    refine func_x (by kernel_rfl) ?_
    refine F63_calls (a0 := k) (v0 := at0 b5) (v1 := at0 b3) ?_
    unfold F63
    refine drew_r fun w2 e2 _ => ?_
    have hxl := hx.len1
    rw [List.length_map] at hxl
    refine ld_r (e2.ext_get n5) (x := .func (.func 60) #[] #[.pointer (some (at0 b1)), .pointer (some (at0 b2)), .pointer (some (at0 b4))]) rfl (ld_r (e2.ext_get n3) (x := x) rfl (ld_r (e2.ext_get n3) (x := x) rfl ?_))
    obtain ⟨kk, hkk⟩ : ∃ kk : Int, kk = min (max k 0) l.length := ⟨_, rfl⟩
    rw [show (if ((x.len : Nat) : Int) < (if (0 : Int) > k then (0 : Int) else k) then ((x.len : Nat) : Int) else (if (0 : Int) > k then (0 : Int) else k)) = kk by rw [hkk, ← hxl]; split <;> split <;> omega]
    refine slcX (hx.ext e2) (by omega) (by omega) fun x' hx' hxl' hxb' => ?_
    refine func_x (by kernel_rfl) (write_call (A.ext e2) ok (by omega) (e2.ext_get n1) (e2.ext_get n2) (e2.ext_get n4) hb4F hx' (hxb.imp (fun h => by omega) fun h k hk e => ?_) fun w' F2 h1 h2 h3 h4 => ?_)
    · have := (h k (hxb' k hk)).1; omega
    have hK := hK w' F2
    unfold apPart at hK
    dsimp only at hK
    rw [← hkk] at hK
    have hz2 := e2.size
    have hK := hK h1 ⟨h2, fun h => by have := lt_of_heap n4; exact (h4 _ h).elim hb4F fun h => by omega⟩ (((Upd.of_ext e2).trans (h3.mono fun k hk h => h.imp (fun h => ⟨h.1, fun c fr hc => h.2 c fr (e2.ext_get hc)⟩) id))) fun k hk => (h4 k hk).imp id fun h => .inr (by omega)
    obtain ⟨e, he⟩ : ∃ e, (apR n (List.take kk.toNat l) D1).2.1 = e := ⟨_, rfl⟩
    rw [he] at hK ⊢
    refine join_at (decide (e ≠ 0 ∧ e ≠ 161), ()) (sif_r (fun h => ⟨tupb ?_, rfl⟩) fun h => ⟨tupb ?_, rfl⟩) (sif_r (fun h => ?_) fun h => ?_)
    · have h : e ≠ 0 := by simpa using h
      simp [h]
    · have h : e = 0 := by simpa using h
      simp [h]
    · have h : e ≠ 0 ∧ e ≠ 161 := of_decide_eq_true h
      rw [if_pos h] at hK; exact hK
    · have h : ¬ (e ≠ 0 ∧ e ≠ 161) := of_decide_eq_false h
      rw [if_neg h] at hK; exact hK
  · intro F' w' v hv hD hq hu hF
    obtain ⟨q1, q2⟩ := hq
    have hu' : Upd F w w' := (Upd.of_ext e07).new hu fun k hk h => h.resolve_right (by omega)
    have hF' : ∀ k, F' k → F k ∨ w.heap.size ≤ k := fun k hk => (hF k hk).imp id fun h => by rcases h with h | h; exact h.elim; omega
    have hv := hv.back (w0 := w) e07.size
    have g1 : w'.heap[b1]? = some (pbox d) := hu.get (e17.ext_get n1) fun h => by rcases h with h | h; have := hlt _ h; omega; omega
    unfold callAppend at hK
    dsimp only at hK
    generalize Dsk.step D 0 (apR n l) (some (apPart n l)) = r at hK hv hD q1
    obtain ⟨D2, e, a⟩ := r
    dsimp only at hK hv hD q1
    obtain ⟨ms, ml, sa, pl, vs, fb, ds, A2⟩ := hD
    refine join_r (fun _ W => W.heap[b4]? = some (ibox (if D2.down = true then 0 else a)) ∧ Upd (fun k => k = b4) w' W) (ld_r g1 (x := some (at0 d)) rfl (nn_some ?_)) ?_
    · rw [addr_add]
      refine ld_r A2.box (x := D2.down) rfl (sif_r (fun h => stC_r q1 (by simp) fun w8 u8 n8 _ => ⟨?_, u8⟩) fun h => ⟨?_, Upd.refl _ _⟩)
      · rw [n8, if_pos h]; rfl
      · rw [q1, if_neg (by rw [h]; simp)]
    · rintro _ w8 ⟨n8, u8⟩
      refine ld_r n8 (x := if D2.down = true then 0 else a) rfl (hK F' w8 v ⟨hv.ok, fun hh => let ⟨b, k, h1, h2, h3, h4⟩ := hv.bad hh; ⟨b, k, h1, u8.get h2 (fun e => by rw [e, q1] at h2; cases h2), h3, h4⟩⟩ (A2.in.frame u8 fun k hk e => q2 (e ▸ hk)) (hu'.new u8 fun k hk e => by omega) hF')
end
end Go.Proofs.Ytdabehgbhndimaa
