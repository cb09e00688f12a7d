/- The lists that RegisterApart holds: each block bears a tag, so that what is written shows where it does not. Conditions: lists below 140000 letters. -/
import Derived.Test.YtocdfkeflakemaaGrn
set_option linter.unusedSimpArgs false
set_option linter.unusedVariables false
namespace Go.Proofs.Ytocdfkeflakemaa
open Go Go.Vx
/-- all blocks from n on bear the tag t -/
def rtg (tag : Nat → Nat) (n t : Nat) : Nat → Nat := fun k => if n ≤ k then t else tag k
theorem rtg_lt {tag : Nat → Nat} {n t k : Nat} (h : k < n) : rtg tag n t k = tag k := by unfold rtg; rw [if_neg (by omega)]
theorem rtg_ge {tag : Nat → Nat} {n t k : Nat} (h : n ≤ k) : rtg tag n t k = t := by unfold rtg; rw [if_pos h]
/-- what was there stays, but for the bad tags' blocks -/
structure Stays (w : World) (tag : Nat → Nat) (w' : World) (tag' : Nat → Nat) (bad : Nat → Prop) : Prop where
  upd : Upd (fun k => bad (tag k)) w w'
  tag : ∀ k, k < w.heap.size → tag' k = tag k
/-- a slice's block bears the tag -/
def Tg (w : World) (tag : Nat → Nat) (x : Sl) (t : Nat) : Prop := ∀ k, x.blk k → tag k = t ∧ k < w.heap.size
section
variable {w w' w'' : World} {tag tag' tag'' : Nat → Nat} {bad bad' : Nat → Prop}
theorem Stays.trans (h : Stays w tag w' tag' bad) (h' : Stays w' tag' w'' tag'' bad) : Stays w tag w'' tag'' bad :=
  ⟨h.upd.new h'.upd fun k hk hb => by rw [h.tag k hk] at hb; exact hb, fun k hk => (h'.tag k (Nat.lt_of_lt_of_le hk h.upd.size)).trans (h.tag k hk)⟩
theorem Stays.mono (h : Stays w tag w' tag' bad) (hb : ∀ t, bad t → bad' t) : Stays w tag w' tag' bad' := ⟨h.upd.mono fun k _ => hb _, h.tag⟩
theorem Stays.ext (e : Ext w w') : Stays w tag w' tag bad := ⟨Upd.of_ext e, fun _ _ => rfl⟩
theorem Stays.re (h : Stays w tag w' tag' bad) {n t : Nat} (hn : w.heap.size ≤ n) : Stays w tag w' (rtg tag' n t) bad :=
  ⟨h.upd, fun k hk => by rw [rtg_lt (by omega)]; exact h.tag k hk⟩
theorem Stays.of {S : Nat → Prop} (u : Upd S w w') (hS : ∀ k, S k → k < w.heap.size → bad (tag k)) : Stays w tag w' tag bad := ⟨u.mono fun k hk h => hS k h hk, fun _ _ => rfl⟩
theorem Stays.tg (h : Stays w tag w' tag' bad) {y : Sl} {t : Nat} (g : Tg w tag y t) : Tg w' tag' y t := fun k hk => by
  obtain ⟨h1, h2⟩ := g k hk
  exact ⟨(h.tag k h2).trans h1, Nat.lt_of_lt_of_le h2 h.upd.size⟩
theorem Stays.own (h : Stays w tag w' tag' bad) {y : Sl} {t : Nat} (g : Tg w tag y t) (ht : ¬ bad t) {B sz : Nat} {e : TypeId} {vs : List Value} (o : SlOwn w B y e sz vs) : SlOwn w' B y e sz vs :=
  o.upd h.upd fun k _ hk hb => ht (by rw [(g k hk).1] at hb; exact hb)
theorem Stays.inn (h : Stays w tag w' tag' bad) {y : Sl} {t : Nat} (g : Tg w tag y t) (ht : ¬ bad t) {sz : Nat} {e : TypeId} {vs : List Value} (o : SlIn w y e sz vs) : SlIn w' y e sz vs :=
  o.upd h.upd fun k hk hb => ht (by rw [(g k hk).1] at hb; exact hb)
theorem Tg.app {s s' : Sl} {n t : Nat} (g : Tg w tag s t) (hb : ∀ k, s'.blk k → s.blk k ∨ n ≤ k) (hl : ∀ k, s'.blk k → k < w'.heap.size) : Tg w' (rtg tag n t) s' t := by
  intro k hk
  refine ⟨?_, hl k hk⟩
  unfold rtg
  split
  · rfl
  · rcases hb k hk with h | h
    · exact (g k h).1
    · omega
theorem Tg.nil {t c : Nat} : Tg w tag ⟨none, 0, c⟩ t := by rintro k ⟨p, hp, _⟩; cases hp
theorem SlOwn.blk_lt {B : Nat} {s : Sl} {t : TypeId} {sz : Nat} {vs : List Value} (h : SlOwn w B s t sz vs) {k : Nat} (hk : s.blk k) : k < w.heap.size := h.in.blk_lt hk
theorem Tg.fresh {s : Sl} {n t B sz : Nat} {e : TypeId} {vs : List Value} (o : SlOwn w' B s e sz vs) (hn : n ≤ B) : Tg w' (rtg tag n t) s t := fun k hk => ⟨rtg_ge (Nat.le_trans hn (o.blk_ge hk)), SlOwn.blk_lt o hk⟩

/-- where RegisterApart's lists stand: the shelf and its marks, the quiet ones and what they hold; n quiet ones are used up, v groups stand on the shelf -/
structure ApI (B : Nat) (w : World) (tag : Nat → Nat) (sh mk q t : Sl) (vs : List Sl) (ms : List Int) (qs ws : List Sl) (ls : List (List Int)) (n v : Nat) : Prop where
  row : SlOwn w B sh 23 1 (vs.map sv)
  tr : Tg w tag sh 1
  mks : IntsO w B mk ms
  tm : Tg w tag mk 2
  qr : SlOwn w B q 23 1 (qs.map sv)
  tq : Tg w tag q 3
  wr : SlOwn w B t 23 1 (ws.map sv)
  tw : Tg w tag t 4
  lv : vs.length = ms.length
  lq : qs.length = ls.length
  lw : ws.length = ls.length
  vt : ∀ (i : Nat) (x : Sl) (m : Int), vs[i]? = some x → ms[i]? = some m → AllV w 3 (.int .i64 m) x ∧ (∃ tg, Tg w tag x tg ∧ ((∃ j, j < v ∧ tg = 2 * j + 11) ∨ ∃ j, j < n ∧ tg = 2 * j + 10)) ∧ x.len ≤ 2 ^ 60
  qt : ∀ (i : Nat) (x : Sl) (l : List Int), n ≤ i → qs[i]? = some x → ls[i]? = some l → IntsO w B x l ∧ Tg w tag x (2 * i + 10)
  wt : ∀ (i : Nat) (x : Sl) (l : List Int), ws[i]? = some x → ls[i]? = some l → Ints w x l ∧ Tg w tag x 5
  lim : ∀ (i : Nat) (l : List Int), ls[i]? = some l → l.length ≤ 140000

variable {B : Nat} {sh mk q t : Sl} {vs : List Sl} {ms : List Int} {qs ws : List Sl} {ls : List (List Int)} {n v : Nat}
theorem ApI.stays (h : ApI B w tag sh mk q t vs ms qs ws ls n v) (s : Stays w tag w' tag' bad) (hb : ∀ t, bad t → t = 0) : ApI B w' tag' sh mk q t vs ms qs ws ls n v := by
  have nb : ∀ t, 0 < t → ¬ bad t := fun t ht hbt => by have := hb t hbt; omega
  refine ⟨s.own h.tr (nb _ (by omega)) h.row, s.tg h.tr, s.own h.tm (nb _ (by omega)) h.mks, s.tg h.tm, s.own h.tq (nb _ (by omega)) h.qr, s.tg h.tq, s.own h.tw (nb _ (by omega)) h.wr, s.tg h.tw, h.lv, h.lq, h.lw, fun i x m hx hm => ?_, fun i x l hn hx hl => ?_, fun i x l hx hl => ?_, h.lim⟩
  · obtain ⟨a, ⟨tg, b, c⟩, d⟩ := h.vt i x m hx hm
    exact ⟨s.inn b (nb _ (by omega)) a, ⟨tg, s.tg b, c⟩, d⟩
  · obtain ⟨a, b⟩ := h.qt i x l hn hx hl
    exact ⟨s.own b (nb _ (by omega)) a, s.tg b⟩
  · obtain ⟨a, b⟩ := h.wt i x l hx hl
    exact ⟨s.inn b (nb _ (by omega)) a, s.tg b⟩

theorem get_push {α : Type} {l : List α} {x y : α} {i : Nat} (h : (l ++ [x])[i]? = some y) : l[i]? = some y ∨ (i = l.length ∧ x = y) := by
  by_cases hi : i < l.length
  · rw [List.getElem?_append_left hi] at h; exact .inl h
  · rw [List.getElem?_append_right (by omega)] at h
    have h1 := (List.getElem?_eq_some_iff.1 h).1
    simp only [List.length_cons, List.length_nil] at h1
    have h0 : i - l.length = 0 := by omega
    rw [h0] at h
    cases h
    exact .inr ⟨by omega, rfl⟩

/-- one more that is left as it is -/
theorem ApI.quiet (h : ApI B w tag sh mk q t vs ms qs ws ls n v) {x : Sl} {l : List Int} (ox : IntsO w B x l) (gx : Tg w tag x (2 * qs.length + 10)) (hn : n ≤ qs.length) (hl : l.length ≤ 140000) (hq : qs.length ≤ 1000) (hB : B ≤ w.heap.size) {K : Sl → Sl → World → Prop}
    (hK : ∀ q' t' y w' tag', ApI B w' tag' sh mk q' t' vs ms (qs ++ [x]) (ws ++ [y]) (ls ++ [l]) n v → Stays w tag w' tag' (fun t => t = 3 ∨ t = 4) → K q' t' w') :
    (newO (.cells #[.slice x.a x.len x.cap] 23) fun b62 => rawT Try.prog (.one (.one .sl)) (Builtin.append_ #[34, 34] 34 #[.slice q.a q.len q.cap, .slice (some (at0 b62)) 1 1]) fun (x63 : Sl) =>
      rawT Try.prog (.one (.one .sl)) (Builtin.append_ #[23, 23] 23 #[.slice none 0 0, .slice x.a x.len x.cap]) fun (x64 : Sl) =>
      newO (.cells #[.slice x64.a x64.len x64.cap] 23) fun b65 =>
      rawT Try.prog (.one (.one .sl)) (Builtin.append_ #[34, 34] 34 #[.slice t.a t.len t.cap, .slice (some (at0 b65)) 1 1]) fun (x66 : Sl) => K x63 x66) w := by
  have hql := h.qr.len1
  have hwl := h.wr.len1
  rw [List.length_map] at hql hwl
  have hll := h.lq
  have hlw := h.lw
  have one : ∀ {W : World} {b : Nat} {y : Sl}, W.heap[b]? = some (.cells #[.slice y.a y.len y.cap] 23 (0, 0)) → SlIn W ⟨some (at0 b), 1, 1⟩ 23 1 [sv y] := fun hb => SlIn.of_box (n := 1) (sz := 1) hb rfl
  have isone : ∀ y : Sl, ∀ u ∈ [sv y], isOne u = true := fun y u hu => by simp at hu; subst hu; rfl
  refine newO_r fun b1 w1 e1 n1 _ _ => ?_
  have hs1 := e1.size
  refine append_r (x := ⟨some (at0 b1), 1, 1⟩) E34 u34' (h.qr.ext e1) (one n1) (isone x) (by dsimp only; omega) (by omega) fun q' w2 oq hq' u2 hb2 => ?_
  have hs2 := u2.size
  have st2 : Stays w tag w2 (rtg tag w1.heap.size 3) (fun t => t = 3) := Stays.re ⟨(Upd.of_ext e1).new u2 fun k hk hb => (h.tq k hb).1, fun _ _ => rfl⟩ hs1
  have gq : Tg w2 (rtg tag w1.heap.size 3) q' 3 := Tg.app h.tq hb2 fun k hk => SlOwn.blk_lt oq hk
  have ox2 := st2.own gx (by omega) ox
  refine clone_r ox2.in.x (by omega) fun y w3 oy e3 => ?_
  have hs3 := e3.size
  have st3 : Stays w2 (rtg tag w1.heap.size 3) w3 (rtg (rtg tag w1.heap.size 3) w2.heap.size 5) (fun t => t = 4) := Stays.re (Stays.ext e3) (Nat.le_refl _)
  have gy : Tg w3 (rtg (rtg tag w1.heap.size 3) w2.heap.size 5) y 5 := Tg.fresh oy (Nat.le_refl _)
  generalize rtg tag w1.heap.size 3 = tag2 at *
  generalize rtg tag2 w2.heap.size 5 = tag3 at *
  refine newO_r fun b4 w4 e4 n4 _ _ => ?_
  have hs4 := e4.size
  have gt3 := st3.tg (st2.tg h.tw)
  have ot2 := st2.own h.tw (by omega) h.wr
  have ot3 := ot2.ext e3
  refine append_r (x := ⟨some (at0 b4), 1, 1⟩) E34 u34' (ot3.ext e4) (one n4) (isone y) (by dsimp only; omega) (by omega) fun t' w5 ot ht' u5 hb5 => ?_
  have st5 : Stays w3 tag3 w5 (rtg tag3 w4.heap.size 4) (fun t => t = 4) := Stays.re ⟨(Upd.of_ext e4).new u5 fun k hk hb => (gt3 k hb).1, fun _ _ => rfl⟩ hs4
  have gt : Tg w5 (rtg tag3 w4.heap.size 4) t' 4 := Tg.app gt3 hb5 fun k hk => SlOwn.blk_lt ot hk
  generalize rtg tag3 w4.heap.size 4 = tag5 at *
  have st25 := st3.trans st5
  have st : Stays w tag w5 tag5 (fun t => t = 3 ∨ t = 4) := (st2.mono fun t h => .inl h).trans (st25.mono fun t h => .inr h)
  have eqs : ∀ (l : List Sl) (z : Sl), (l ++ [z]).map sv = l.map sv ++ [sv z] := fun l z => by simp
  refine hK q' t' y w5 tag5 ⟨st.own h.tr (by omega) h.row, st.tg h.tr, st.own h.tm (by omega) h.mks, st.tg h.tm, by rw [eqs]; exact st25.own gq (by omega) oq, st25.tg gq, by rw [eqs]; exact ot, gt, h.lv, by simp [hll], by simp [hlw], fun i z m hz hm => ?_, fun i z l' hni hz hl' => ?_, fun i z l' hz hl' => ?_, fun i l' hl' => ?_⟩ st
  · obtain ⟨a, ⟨tg, b, c⟩, d⟩ := h.vt i z m hz hm
    have htg : 10 ≤ tg := by rcases c with ⟨j, _, e⟩ | ⟨j, _, e⟩ <;> omega
    exact ⟨st.inn b (by clear c; omega) a, ⟨tg, st.tg b, c⟩, d⟩
  · rcases get_push hz with hz | ⟨hi, rfl⟩
    · rcases get_push hl' with hl' | ⟨hi', rfl⟩
      · obtain ⟨a, b⟩ := h.qt i z l' hni hz hl'
        exact ⟨st.own b (by omega) a, st.tg b⟩
      · have := (List.getElem?_eq_some_iff.1 hz).1; omega
    · rcases get_push hl' with hl' | ⟨hi', rfl⟩
      · have := (List.getElem?_eq_some_iff.1 hl').1; omega
      · subst hi
        exact ⟨st.own gx (by omega) ox, st.tg gx⟩
  · rcases get_push hz with hz | ⟨hi, rfl⟩
    · rcases get_push hl' with hl' | ⟨hi', rfl⟩
      · obtain ⟨a, b⟩ := h.wt i z l' hz hl'
        exact ⟨st.inn b (by omega) a, st.tg b⟩
      · have := (List.getElem?_eq_some_iff.1 hz).1; omega
    · rcases get_push hl' with hl' | ⟨hi', rfl⟩
      · have := (List.getElem?_eq_some_iff.1 hl').1; omega
      · exact ⟨st5.inn gy (by omega) oy.in, st5.tg gy⟩
  · rcases get_push hl' with hl' | ⟨hi', rfl⟩
    · exact h.lim i l' hl'
    · exact hl

/-- one more onto the shelf -/
theorem ApI.shelf (h : ApI B w tag sh mk q t vs ms qs ws ls n v) {x : Sl} {l : List Int} {m : Int} {tx n' v' : Nat} (ox : IntsO w B x l) (gx : Tg w tag x tx) (htx : (tx = 2 * v + 11 ∧ n' = n ∧ v' = v + 1) ∨ (tx = 2 * n + 10 ∧ n' = n + 1 ∧ v' = v)) (hl : l.length ≤ 140000) (hv : vs.length ≤ 4000) (hB : B ≤ w.heap.size) {K : Sl → Sl → World → Prop}
    (hK : ∀ sh' mk' ys w' tag', ApI B w' tag' sh' mk' q t (vs ++ ys) (ms ++ [m, m, m, m]) qs ws ls n' v' → ys.length = 4 → Stays w tag w' tag' (fun t => t = 1 ∨ t = 2 ∨ t = tx) → K sh' mk' w') :
    callT Try.prog 28 #[.slice x.a x.len x.cap, .int .i64 m] (.one (.one .sl)) (fun (x84 : Sl) =>
      rawT Try.prog (.one (.one .sl)) (Builtin.append_ #[34, 34] 34 #[.slice sh.a sh.len sh.cap, .slice x84.a x84.len x84.cap]) fun (x85 : Sl) =>
      newO (.cells #[.int .i64 m, .int .i64 m, .int .i64 m, .int .i64 m] 3) fun b86 =>
      rawT Try.prog (.one (.one .sl)) (Builtin.append_ #[23, 23] 23 #[.slice mk.a mk.len mk.cap, .slice (some (at0 b86)) 4 4]) fun (x87 : Sl) => K x85 x87) w := by
  have hvl := h.row.len1
  rw [List.length_map] at hvl
  have hml := h.mks.length
  have hlv := h.lv
  refine grown_call ox hl hB fun s ys w1 G => ?_
  obtain ⟨hrow, h4, hall, hnew, u1⟩ := G
  have hs1 := u1.size
  have st1 : Stays w tag w1 (rtg tag w.heap.size tx) (fun t => t = tx) := Stays.re ⟨u1.mono fun k hk hb => (gx k hb).1, fun _ _ => rfl⟩ (Nat.le_refl _)
  have gy : ∀ y ∈ ys, Tg w1 (rtg tag w.heap.size tx) y tx := fun y hy => Tg.app gx (hall y hy).2.1 fun k hk => (hall y hy).1.blk_lt hk
  generalize rtg tag w.heap.size tx = tag1 at *
  have hsl : s.len = 4 := by have := hrow.len1; rw [List.length_map] at this; omega
  have or1 := st1.own h.tr (by omega) h.row
  refine append_r E34 u34' or1 hrow (fun u hu => by obtain ⟨y, _, rfl⟩ := List.mem_map.1 hu; rfl) (by omega) (by omega) fun sh' w2 osh hsh u2 hb2 => ?_
  have hs2 := u2.size
  have st2 : Stays w1 tag1 w2 (rtg tag1 w1.heap.size 1) (fun t => t = 1) := Stays.re ⟨u2.mono fun k hk hb => (st1.tg h.tr k hb).1, fun _ _ => rfl⟩ (Nat.le_refl _)
  have gsh : Tg w2 (rtg tag1 w1.heap.size 1) sh' 1 := Tg.app (st1.tg h.tr) hb2 fun k hk => SlOwn.blk_lt osh hk
  generalize rtg tag1 w1.heap.size 1 = tag2 at *
  refine newO_r fun b3 w3 e3 n3 _ _ => ?_
  have hs3 := e3.size
  have n3' : w3.heap[b3]? = some (.cells (iv [m, m, m, m]).toArray 3 (0, 0)) := n3
  have h3 : Ints w3 ⟨some (at0 b3), 4, 4⟩ [m, m, m, m] := box3 n3'
  have gm2 := st2.tg (st1.tg h.tm)
  have om2 := st2.own (st1.tg h.tm) (by omega) (st1.own h.tm (by omega) h.mks)
  refine app_r (x := ⟨some (at0 b3), 4, 4⟩) (SlOwn.ext om2 e3) h3.x (by simp only [List.length_cons, List.length_nil]; omega) (by omega) fun mk' w4 om u4 hb4 => ?_
  have st4 : Stays w2 tag2 w4 (rtg tag2 w3.heap.size 2) (fun t => t = 2) := Stays.re ⟨(Upd.of_ext e3).new u4 fun k hk hb => (gm2 k hb).1, fun _ _ => rfl⟩ hs3
  have gm : Tg w4 (rtg tag2 w3.heap.size 2) mk' 2 := Tg.app gm2 hb4 fun k hk => SlOwn.blk_lt om hk
  generalize rtg tag2 w3.heap.size 2 = tag4 at *
  have st24 : Stays w1 tag1 w4 tag4 (fun t => t = 1 ∨ t = 2) := (st2.mono fun t h => .inl h).trans (st4.mono fun t h => .inr h)
  have st : Stays w tag w4 tag4 (fun t => t = 1 ∨ t = 2 ∨ t = tx) := (st1.mono fun t h => .inr (.inr h)).trans (st24.mono fun t h => by omega)
  refine hK sh' mk' ys w4 tag4 ⟨by rw [List.map_append]; exact st4.own gsh (by omega) osh, st4.tg gsh, om, gm, st.own h.tq (by omega) h.qr, st.tg h.tq, st.own h.tw (by omega) h.wr, st.tg h.tw, by simp [hlv, h4], h.lq, h.lw, fun i z m' hz hm => ?_, fun i z l' hni hz hl' => ?_, fun i z l' hz hl' => ?_, h.lim⟩ h4 st
  · by_cases hi : i < vs.length
    · rw [List.getElem?_append_left hi] at hz
      rw [List.getElem?_append_left (by omega)] at hm
      obtain ⟨a, ⟨tg, b, c⟩, d⟩ := h.vt i z m' hz hm
      have htg : 10 ≤ tg ∧ tg ≠ tx := by rcases c with ⟨j, _, e⟩ | ⟨j, _, e⟩ <;> omega
      refine ⟨st.inn b (by clear c; omega) a, ⟨tg, st.tg b, ?_⟩, d⟩
      rcases c with ⟨j, hj, e⟩ | ⟨j, hj, e⟩
      · exact .inl ⟨j, by omega, e⟩
      · exact .inr ⟨j, by omega, e⟩
    · rw [List.getElem?_append_right (by omega)] at hz
      rw [List.getElem?_append_right (by omega)] at hm
      have hmm : m' = m := by
        have := List.mem_of_getElem? hm
        simpa using this
      subst hmm
      have hy := List.mem_of_getElem? hz
      obtain ⟨a, _, c⟩ := hall z hy
      refine ⟨st24.inn (gy z hy) (by omega) a, ⟨tx, st24.tg (gy z hy), ?_⟩, by omega⟩
      rcases htx with ⟨e, _, e'⟩ | ⟨e, e', _⟩
      · exact .inl ⟨v, by omega, e⟩
      · exact .inr ⟨n, by omega, e⟩
  · obtain ⟨a, b⟩ := h.qt i z l' (by omega) hz hl'
    exact ⟨st.own b (by omega) a, st.tg b⟩
  · obtain ⟨a, b⟩ := h.wt i z l' hz hl'
    exact ⟨st.inn b (by omega) a, st.tg b⟩
end
end Go.Proofs.Ytocdfkeflakemaa
