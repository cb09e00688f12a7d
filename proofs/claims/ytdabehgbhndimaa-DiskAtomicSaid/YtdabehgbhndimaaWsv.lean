/- The law's saved. Conditions: the disk stands, the parts lie apart from it. -/
import Derived.Test.YtdabehgbhndimaaWsy
import Derived.Test.YtdabehgbhndimaaPat
set_option linter.unusedSimpArgs false
set_option linter.unusedVariables false
namespace Go.Proofs.Ytdabehgbhndimaa
open Go Go.Vx Dsk
section
variable {w w' w0 : World} {S P P' F F' F0 : Nat → Prop} {d : Nat} {D : Dk} {N n m : Nat}

/-- texts in memory -/
structure TxtsIn (w : World) (P : Nat → Prop) (x : Sl) (ss : List Sl) (ls : List (List UInt8)) : Prop where
  row : SlX w x 1 (ss.map Cell.sl.val)
  blk : Lie P x
  len : ss.length = ls.length
  at_ : ∀ (i : Nat) (s : Sl) (l : List UInt8), ss[i]? = some s → ls[i]? = some l → Bytes w s l ∧ l.length ≤ 2 ^ 47 ∧ Lie P s
theorem TxtsIn.upd {x : Sl} {ss : List Sl} {ls : List (List UInt8)} (h : TxtsIn w P x ss ls) (u : Upd S w w') (hS : ∀ k, P k → ¬ S k) : TxtsIn w' P x ss ls :=
  ⟨SlX.updL h.row h.blk u hS, h.blk, h.len, fun i s l hs hl => let ⟨a, b, c⟩ := h.at_ i s l hs hl; ⟨SlX.updL a c u hS, b, c⟩⟩

/-- a disk that has turned since -/
structure Since (w0 w : World) (d : Nat) (F0 : Nat → Prop) (n : Nat) (F : Nat → Prop) (D : Dk) : Prop where
  A : DiskIn w d F D
  ok : DkOk D n
  u : Upd F0 w0 w
  hF : ∀ k, F k → F0 k ∨ w0.heap.size ≤ k
theorem Since.ext (h : Since w0 w d F0 n F D) (e : Ext w w') : Since w0 w' d F0 n F D := ⟨h.A.ext e, h.ok, h.u.trans (Upd.of_ext e), h.hF⟩
theorem Since.turn {D' : Dk} (h : Since w0 w d F0 n F D) (A : DiskIn w' d F' D') (ok : DkOk D' m) (u : Upd F w w') (hF : ∀ k, F' k → F k ∨ w.heap.size ≤ k) : Since w0 w' d F0 m F' D' :=
  ⟨A, ok, h.u.new u fun k hk hh => (h.hF k hh).resolve_right (by have := h.u.size; omega), fun k hk => (hF k hk).elim (h.hF k) fun hh => .inr (by have := h.u.size; omega)⟩
theorem Since.mono (h : Since w0 w d F0 n F D) (hm : n ≤ m) : Since w0 w d F0 m F D := ⟨h.A, h.ok.mono hm, h.u, h.hF⟩
theorem Since.apart (h : Since w0 w d F0 n F D) (hP : ∀ k, P k → k < w0.heap.size ∧ ¬ F0 k) : ∀ k, P k → k < w.heap.size ∧ ¬ F k := fun k hk => ⟨Nat.lt_of_lt_of_le (hP k hk).1 h.u.size, fun hf => (h.hF k hf).elim (hP k hk).2 fun hf => by have := (hP k hk).1; omega⟩

theorem saved_call {old whole : List UInt8} (A : DiskIn w d F D) (ok : DkOk D N) (hN : N + 200 ≤ 2 ^ 30) (h0 : At old D baseD [] []) {x : Sl} {ss : List Sl} {ls : List (List UInt8)} (hx : TxtsIn w P x ss ls) (hP : ∀ k, P k → k < w.heap.size ∧ ¬ F k) (hl : ls.length ≤ 40) (hw : whole = ls.flatten) {K : Bool → World → Prop}
    (hK : ∀ F' w' D' b, Since w w' d F (N + 200) F' D' → Safe old whole D' → (b = true → ∃ c, At old D' (mv2.on (mk2.on baseD)) [] [⟨whole, whole.length, c⟩]) → K b w') :
    callT Try.prog 21 #[.pointer (some (at0 d)), .string nText, .slice x.a x.len x.cap] (.one (.one .bool)) K w := by
  refine F21_calls ?_
  unfold F21
  have s0 : Since w w d F N F D := ⟨A, ok, Upd.refl _ _, fun k hk => .inl hk⟩
  have hxl := hx.row.len1
  rw [List.length_map] at hxl
  have hlen := hx.len
  refine make_call (n := nNew) A ok (by omega) fun F1 w1 v1 hv1 A1 u1 hF1 => ?_
  have s1 := s0.turn A1 (ok_callMake ok nNew) u1 hF1
  obtain ⟨g1, g2⟩ := make_safe whole h0
  refine told_ne hv1.told (sif_r (fun h => hK F1 w1 _ false (s1.mono (by omega)) g1 fun h => nomatch h) fun h => ?_)
  have g2 := g2 (by simpa using h)
  clear g1 h
  generalize (callMake D nNew).1 = D1 at s1 g2
  refine join_r (fun _ W => ∃ F2 D2 c, Since w W d F (N + 100) F2 D2 ∧ At old D2 baseD [mk2] [⟨whole, 0, c⟩]) ?_ ?_
  · refine sloop_r (fun s W => ∃ (j : Nat) (F2 : Nat → Prop) (D2 : Dk) (c : Int), s = ((j : Int), ()) ∧ j ≤ ls.length ∧ Since w W d F (N + 2 + 2 * j) F2 D2 ∧ At old D2 baseD [mk2] [⟨(ls.take j).flatten, 0, c⟩]) (fun s _ => ls.length - s.1.toNat) ⟨0, F1, D1, 0, rfl, Nat.zero_le _, s1, g2⟩ ?_
    rintro _ W ⟨j, F2, D2, c, rfl, hj, sW, aW⟩
    dsimp only
    refine sif_r (fun h => ?_) fun h => ?_
    · have h : j < ls.length := by have := of_decide_eq_true h; omega
      obtain ⟨s, hs⟩ : ∃ s, ss[j]? = some s := ⟨_, List.getElem?_eq_getElem (by omega)⟩
      obtain ⟨l, hll⟩ : ∃ l, ls[j]? = some l := ⟨_, List.getElem?_eq_getElem h⟩
      have xW := hx.upd sW.u fun k hk => (hP k hk).2
      obtain ⟨b1, b2, b3⟩ := xW.at_ j s l hs hll
      refine ix_ldX (c := .sl) xW.row (by omega) (by simpa using hs) fun _ => ?_
      refine append_call (n := nNew) sW.A sW.ok (by omega) b1 (b3.imp id fun h k hk => sW.apart hP k (h k hk)) fun F3 w3 v3 hv3 A3 u3 hF3 => ?_
      have s3 := sW.turn A3 (ok_callAppend sW.ok nNew l) u3 hF3
      obtain ⟨k1, k2⟩ := append_safe whole aW l
      refine told_ne hv3.told (sif_r (fun h => hK F3 w3 _ false (s3.mono (by omega)) k1 fun h => nomatch h) fun h => ?_)
      obtain ⟨c', k2⟩ := k2 (by simpa using h)
      rw [IntWalk.i64_in _ ⟨by omega, by omega⟩]
      refine ⟨⟨j + 1, F3, _, c', rfl, by omega, s3.mono (by omega), ?_⟩, by show ls.length - (j + 1) < ls.length - j; omega⟩
      rw [List.take_add_one, hll, Option.toList_some, List.flatten_append]
      simpa using k2
    · have h : ¬ j < ls.length := by have := of_decide_eq_false h; omega
      rw [List.take_of_length_le (by omega), ← hw] at aW
      exact ⟨F2, D2, c, sW.mono (by omega), aW⟩
  rintro _ W2 ⟨F2, D2, c2, s2, a2⟩
  refine sync_call (n := nNew) s2.A s2.ok (by omega) fun F3 W3 v3 hv3 A3 u3 hF3 => ?_
  have s3 := s2.turn A3 (ok_callSync s2.ok nNew) u3 hF3
  obtain ⟨k1, k2⟩ := sync_safe (whole := whole) a2
  refine told_eq hv3.told (sif_r (fun h => ?_) fun h => hK F3 W3 _ false (s3.mono (by omega)) k1 fun h => nomatch h)
  have k2 := k2 (by simpa using h)
  clear k1 h
  generalize (callSync D2 nNew).1 = D3 at s3 k2
  refine rename_call (n := nNew) (t := nText) s3.A s3.ok (by omega) fun F4 W4 v4 hv4 A4 u4 hF4 => ?_
  have s4 := s3.turn A4 (ok_callRename s3.ok nNew nText) u4 hF4
  obtain ⟨k1, k3⟩ := rename_safe k2
  refine told_eq hv4.told (sif_r (fun h => ?_) fun h => hK F4 W4 _ false (s4.mono (by omega)) k1 fun h => nomatch h)
  have k3 := k3 (by simpa using h)
  clear k1 h
  generalize (callRename D3 nNew nText).1 = D4 at s4 k3
  refine syncdir_call s4.A s4.ok (by omega) fun F5 W5 v5 hv5 A5 u5 hF5 => ?_
  have s5 := s4.turn A5 (ok_callSyncDir s4.ok) u5 hF5
  obtain ⟨k1, k4⟩ := syncdir_safe k3
  refine told_eq hv5.told (hK F5 W5 _ _ (s5.mono (by omega)) k1 fun h => ⟨_, k4 (by simpa using h)⟩)
end
end Go.Proofs.Ytdabehgbhndimaa
