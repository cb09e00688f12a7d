/- What Put, Down, Restart, Names and New do. Conditions: the disk stands, its numbers are small; the bytes lie apart from the disk. -/
import Derived.Test.YtdabehgbhndimaaOpd
set_option linter.unusedSimpArgs false
set_option linter.unusedVariables false
namespace Go.Proofs.Ytdabehgbhndimaa
open Go Go.Vx Dsk
section
variable {w w' : World} {S F F' : Nat → Prop} {d m ms ml : Nat} {f : Dir} {fb : List Nat} {ds : List Sl} {fs : List Fl} {sa : Sl} {vs : List Value} {D : Dk} {pl : Option Nat} {p : Int → Option Fault} {N : Nat}

theorem down_call (A : DiskIn w d F D) {K : Bool → World → Prop} (hK : K D.down w) : callT Try.prog 23 #[.pointer (some (at0 d))] (.one (.one .bool)) K w := by
  obtain ⟨ms, ml, sa, pl, vs, fb, ds, A⟩ := A
  refine F23_calls ?_
  unfold F23
  refine nn_some ?_
  rw [addr_add]
  exact ld_r A.box (x := D.down) rfl hK

theorem names_of_call (A : DiskIn w d F D) (ok : DkOk D N) {K : Sl → World → Prop} (hK : ∀ s w', StrsO w' w.heap.size s (if D.down = true then [] else names D.seen) → Ext w w' → K s w') :
    callT Try.prog 26 #[.pointer (some (at0 d))] (.one (.one .sl)) K w := by
  obtain ⟨ms, ml, sa, pl, vs, fb, ds, A⟩ := A
  refine F26_calls ?_
  unfold F26
  refine nn_some ?_
  rw [addr_add]
  refine ld_r A.box (x := D.down) rfl (sif_r (fun h => ?_) fun h => nn_some ?_)
  · exact hK _ w (by rw [if_pos h]; exact SlOwn.nil _ _ _ _) (Ext.refl w)
  · rw [addr_add]
    refine ld_r A.box (x := some ms) rfl (names_call A.seen (fun l hl => ?_) fun s w' hs e => hK s w' (by rw [if_neg (by rw [h]; simp)]; exact hs) e)
    obtain ⟨l', h1, h2⟩ := ok.seen.few
    have := (lists_perm hl h1).length_eq
    omega

theorem restart_call (A : DiskIn w d F D) {K : Unit → World → Prop} (hK : ∀ w', DiskIn w' d F (restart D) → Upd F w w' → K () w') : callT Try.prog 24 #[.pointer (some (at0 d))] (.tup []) K w := by
  obtain ⟨ms, ml, sa, pl, vs, fb, ds, A⟩ := A
  refine F24_calls ?_
  unfold F24
  unfold restart at hK
  refine nn_some ?_
  rw [addr_add]
  refine ld_r A.box (x := D.down) rfl (sif_r (fun h => nn_some ?_) fun h => ?_)
  · rw [if_pos h] at hK
    rw [addr_add]
    refine stC_r A.box (by simp) fun w1 u1 n1 _ => nn_some ?_
    rw [addr_add]
    refine stC_r n1 (by simp) fun w2 u2 n2 _ => nn_some ?_
    rw [addr_add]
    refine stC_r n2 (by simp) fun w3 u3 n3 _ => ?_
    have u : Upd (fun k => k = d) w w3 := (u1.trans u2).trans u3
    have no : ∀ t : TypeId, 91 ≠ t → NoTy w (fun k => k = d) t := fun t ht => NoTy.box A.box ht
    have nm : ∀ m, (∃ o c, w.heap[m]? = some (.map o c)) → ¬ (fun k => k = d) m := by
      rintro m ⟨o, c, hm⟩ rfl
      rw [A.box] at hm; cases hm
    refine hK w3 ⟨ms, ml, sa, none, vs, fb, ds, ?_, A.seen.upd u (nm _ A.seen.map_at), A.lasts.upd u (nm _ A.lasts.map_at), A.files.ty u (no _ (by decide)) (no _ (by decide)), A.acts.ty u (no _ (by decide)) (no _ (by decide)) (no _ (by decide)) (no _ (by decide)) fun _ h => h, .inl ⟨rfl, fun _ => rfl⟩, A.ne, (by simp), (by simp), A.fd, A.fms, A.fml, A.ffb, A.fds, A.fsa, fun k hk => Nat.lt_of_lt_of_le (A.lt k hk) u.size⟩ (u.mono fun k _ h => by rw [h]; exact A.fd)
    rw [n3]; simp [dbox]
  · rw [if_neg (by rw [h]; simp)] at hK
    exact hK w A.in (Upd.refl _ _)

theorem put_call (A : DiskIn w d F D) (ok : DkOk D N) (hN : N + 2 ≤ 2 ^ 30) {n : Nm} {x : Sl} {l : List UInt8} (hx : Bytes w x l) (hxb : ∀ k, x.blk k → k < w.heap.size ∧ ¬ F k) {K : Value → World → Prop}
    (hK : ∀ F' w' v, ErrIn w w' F' v ⟨#[112, 117, 116]⟩ n (putR D n l).2 → DiskIn w' d F' (putR D n l).1 → Upd F w w' → (∀ k, F' k → F k ∨ w.heap.size ≤ k) → K v w') :
    callT Try.prog 13 #[.pointer (some (at0 d)), .string n, .slice x.a x.len x.cap] (.one (.one .any)) K w := by
  obtain ⟨ms, ml, sa, pl, vs, fb, ds, A⟩ := A
  refine F13_calls ?_
  unfold F13
  have hsp := ok.space
  have hu := ok.used (D.seen n)
  have hxl := hx.len1
  rw [List.length_map] at hxl
  refine nn_some ?_
  rw [addr_add]
  refine ld_r A.box (x := some ms) rfl (A.seen.look n (nn_some (ld_r A.box (x := D.space) rfl ?_)))
  refine join_r (fun x w' => x = (D.space - usedBut D (D.seen n), ()) ∧ Ext w w') ?_ ?_
  · refine nn_some ?_
    rw [addr_add]
    refine ld_r A.box (x := some ms) rfl (A.seen.range fun r w1 es hi e1 hr hm hg hl => ?_)
    have hcap : es.length ≤ 16 := by
      obtain ⟨l, h1, h2⟩ := ok.seen.few
      have := (lists_perm hl h1).length_eq
      rw [List.length_map] at this; omega
    refine sloop_r (fun s' w' => ∃ (done : List (KEnt ByteArray)), Iter w' r ms (es.map (KEnt.ent Key.str)) (done.map (KEnt.ent Key.str)) ∧ s' = (D.space - sumZ (done.map fun y => weigh D (D.seen n) y.1), ()) ∧ Ext w w' ∧ done.length ≤ es.length) (fun s' w' => es.length - (match w'.heap[r]? with | some (.mapIter _ _ seen _) => seen.size | _ => 0)) ⟨[], hi, by simp [sumZ], e1, Nat.zero_le _⟩ ?_
    rintro _ w2 ⟨done, hi2, rfl, e2, hdl⟩
    dsimp only
    have size_of : ∀ {W : World} {done : List (KEnt ByteArray)}, Iter W r ms (es.map (KEnt.ent Key.str)) (done.map (KEnt.ent Key.str)) → (match W.heap[r]? with | some (.mapIter _ _ seen _) => seen.size | _ => 0) = done.length := fun h => by
      obtain ⟨c, _, _, g3⟩ := h.at_
      rw [g3]; simp
    have bound : ∀ dn : List (KEnt ByteArray), dn.length ≤ 16 → 0 ≤ sumZ (dn.map fun y => weigh D (D.seen n) y.1) ∧ sumZ (dn.map fun y => weigh D (D.seen n) y.1) ≤ 16777216 := fun dn hdn => by
      refine ⟨sumZ_nonneg fun x hx => ?_, ?_⟩
      · obtain ⟨n, _, rfl⟩ := List.mem_map.1 hx; exact weigh_nonneg D _ _
      · have := sumZ_le (l := dn.map fun y => weigh D (D.seen n) y.1) (B := 1048576) fun x hx => by
          obtain ⟨n, _, rfl⟩ := List.mem_map.1 hx; exact ok.weigh _ _
        rw [List.length_map] at this
        have h4 : (dn.length : Int) * 1048576 ≤ 16 * 1048576 := Int.mul_le_mul_of_nonneg_right (by omega) (by decide)
        omega
    refine next_r hi2 (fun w3 e3 _ hp => sif_false ⟨?_, e2.trans e3⟩) fun x w3 hx hxd hi3 u3 hz3 => sif_true ?_
    · rw [weigh_sum hp hl]
    · obtain ⟨y, i, hy, rfl, hfy, hv⟩ := dir_entry hm hg hx
      have e3 : Ext w w3 := e2.step u3 (by rintro k rfl; exact hr)
      refine entry_r hi3 (y.1, some (at0 (fb.getD i 0)), ()) (by simp only [KEnt.ent, hv]; rfl) ?_
      have A3 := A.ext e3
      have hil : i < D.files.length := by have := A.seen.ids y.1 i hfy; have := A.files.lf; omega
      obtain ⟨b, s, g, hbi, _, _, hgb, hfl, hbx, hby⟩ := A3.file_at hil
      have hsl := hby.len1
      rw [List.length_map] at hsl
      have hi3' : Iter w3 r ms (es.map (KEnt.ent Key.str)) ((done ++ [y]).map (KEnt.ent Key.str)) := by simpa using hi3
      have hdn : (done ++ [y]).length ≤ es.length := by
        have h6 := List.Nodup.length_le_of_subset (nodup_of_born hi3'.dnd) hi3'.sub
        simpa using h6
      have hb1 := bound done (by omega)
      have hb2 := bound (done ++ [y]) (by omega)
      have hsum : sumZ ((done ++ [y]).map fun y => weigh D (D.seen n) y.1) = sumZ (done.map fun y => weigh D (D.seen n) y.1) + weigh D (D.seen n) y.1 := by
        rw [List.map_append, sumZ_append]; simp [sumZ]
      rw [hgb]
      have same : decide (some (at0 b) ≠ (D.seen n).map fun i => at0 (fb.getD i 0)) = decide (some i ≠ D.seen n) := by
        cases hsn : D.seen n with
        | none => simp
        | some j =>
          have hjl : j < fb.length := A.seen.ids n j hsn
          have hil' : i < fb.length := A.seen.ids y.1 i hfy
          have e : (at0 b = at0 (fb.getD j 0)) ↔ i = j := by
            constructor
            · intro h
              have h : b = fb.getD j 0 := by injection h
              rw [← hgb, List.getD_eq_getElem?_getD, List.getD_eq_getElem?_getD, List.getElem?_eq_getElem hjl, List.getElem?_eq_getElem hil'] at h
              exact (List.getElem_inj A.files.nd).1 h
            · rintro rfl; rw [hgb]
          rw [decide_eq_decide]
          simp only [Option.map_some, ne_eq, Option.some.injEq, e]
      refine rdB_neqp (e := 93) (n := i93.size) i85_ok.und (InfOk.run_size i93_ok) (by rw [show i93.size = 4 by kernel_rfl]; decide) (fun a ha => ?_) (fun a ha => ?_) ?_
      · cases ha; exact ⟨_, _, hbx⟩
      · obtain ⟨j, hj, rfl⟩ := Option.map_eq_some_iff.1 ha
        obtain ⟨b', s', g', _, _, _, hgb', _, hbx', _⟩ := A3.file_at (ok.seen.ids n j hj)
        rw [hgb']; exact ⟨_, _, hbx'⟩
      rw [same]
      have again : ∀ {z : Int}, z = D.space - sumZ ((done ++ [y]).map fun y => weigh D (D.seen n) y.1) → (∃ done_1 : List (KEnt ByteArray), Iter w3 r ms (es.map (KEnt.ent Key.str)) (done_1.map (KEnt.ent Key.str)) ∧ (z, ()) = (D.space - sumZ (done_1.map fun y => weigh D (D.seen n) y.1), ()) ∧ Ext w w3 ∧ done_1.length ≤ es.length) := fun {z} hz => ⟨done ++ [y], hi3', by rw [hz], e3, hdn⟩
      have less : (es.length - (match w3.heap[r]? with | some (.mapIter _ _ seen _) => seen.size | _ => 0)) < (es.length - (match w2.heap[r]? with | some (.mapIter _ _ seen _) => seen.size | _ => 0)) := by
        rw [size_of hi3', size_of hi2]
        simp at hdn ⊢; omega
      refine sif_r (fun h => nn_some ?_) fun h => ⟨again ?_, less⟩
      · have h : some i ≠ D.seen n := of_decide_eq_true h
        have hw : weigh D (D.seen n) y.1 = (s.len : Int) := by
          unfold weigh; rw [hfy]; dsimp only; rw [if_neg h, hfl]; omega
        rw [addr_add]
        refine ld_r hbx (x := s) rfl ⟨again ?_, less⟩
        rw [hsum, IntWalk.i64_in _ ⟨by omega, by omega⟩]; omega
      · have h : ¬ (some i ≠ D.seen n) := of_decide_eq_false h
        have h : some i = D.seen n := by simpa using h
        have hw : weigh D (D.seen n) y.1 = 0 := by
          unfold weigh; rw [hfy]; dsimp only; rw [if_pos h]
        rw [hsum]; omega
  · rintro _ w1 ⟨rfl, e1⟩
    dsimp only
    have A1 := A.ext e1
    have err : ∀ {W : World} (c : Int), Ext w1 W → c ≠ 0 → putR D n l = (D, c) → newO (.cells #[.string ⟨#[112, 117, 116]⟩, .string n, .int .i64 0, .iface 49 (.int .i64 c)] 96) (fun b => K (.iface 94 (.pointer (some (at0 b))))) W := fun {W} c e2 hc hp => by
      rw [hp] at hK
      have e12 := e1.trans e2
      have hs := e12.size
      exact newO_r fun b3 w2 e3 n3 hb3 _ => hK F w2 _ ⟨fun h => absurd h hc, fun _ => ⟨b3, 0, rfl, n3, by omega, fun h => by have := A.lt _ h; omega⟩⟩ (A.ext (e12.trans e3)).in (Upd.of_ext (e12.trans e3)) fun k hk => .inl hk
    refine nn_some ?_
    rw [addr_add]
    unfold putR at err
    refine ld_r A1.box (x := D.down) rfl (sif_r (fun hd => err 165 (Ext.refl _) (by decide) (by rw [if_pos hd])) fun hd => ?_)
    have hd : ¬ D.down = true := by rw [hd]; simp
    rw [if_neg hd] at err
    refine isName_call fun w2 e2 => sif_r (fun h => err 164 e2 (by decide) (by rw [if_pos (by simpa using h)])) fun h => ?_
    have hok : ¬ okName n = false := by simpa using h
    rw [if_neg hok] at err
    have A2 := A1.ext e2
    have e02 := e1.trans e2
    refine join_at (decide ((D.seen n = none ∧ 16 ≤ (names D.seen).length) ∨ (l.length : Int) > D.space - usedBut D (D.seen n)), ()) ?_ (sif_r (fun h => err 161 e2 (by decide) (by rw [if_pos (of_decide_eq_true h)])) fun h => ?_)
    · refine join_at (decide (D.seen n = none ∧ 16 ≤ (names D.seen).length), ()) (sif_r (fun h => nn_some ?_) fun h => ⟨tupb ?_, rfl⟩) (sif_r (fun h => ⟨tupb ?_, rfl⟩) fun h => ⟨tupb ?_, rfl⟩)
      · rw [addr_add]
        refine ld_r A2.box (x := some ms) rfl (A2.seen.len ⟨tupb ?_, rfl⟩)
        have h : D.seen n = none := by simpa using h
        simp [h]; omega
      · have h : ¬ D.seen n = none := fun hh => by rw [hh] at h; simp at h
        simp [h]
      · have h := of_decide_eq_true h
        simp [h]
      · have h := of_decide_eq_false h
        simp [h, ← hxl]
    have hfit := of_decide_eq_false h
    clear err
    have hp : putR D n l = (match D.seen n with
      | some i => ({ Dsk.settle D with files := put1 D.files i fun f => ⟨l, l.length, f.count + 1⟩ }, 0)
      | none => ({ D with lasts := dset D.seen n (some D.files.length), acts := [], files := D.files ++ [⟨l, l.length, 1⟩] }, 0)) := by
      unfold putR; rw [if_neg hd, if_neg hok, if_neg hfit]; cases D.seen n <;> rfl
    have hll : l.length ≤ 1048576 := by
      have : ¬ (l.length : Int) > D.space - usedBut D (D.seen n) := fun h => hfit (.inr h)
      omega
    have hnum := ok.num
    refine join_r (fun x W => ∃ F1 D1 g1 i b fb1 ds1, x = (some (at0 b), ()) ∧ Half W d F1 D1 g1 ms ml sa pl fb1 ds1 ∧ fb1[i]? = some b ∧ i < D1.files.length ∧ putR D n l = ({ D1 with lasts := g1, acts := [], files := put1 D1.files i fun f => ⟨l, l.length, f.count + 1⟩ }, 0) ∧ Upd F w W ∧ (∀ k, F1 k → F k ∨ w.heap.size ≤ k) ∧ (∀ f, D1.files[i]? = some f → 0 ≤ f.count ∧ f.count ≤ N)) (sif_r (fun h => ?_) fun h => ?_) ?_
    · have hsn : D.seen n = none := by simpa using h
      rw [hsn] at hp
      refine fresh_call A2 (by omega) fun b w3 A3 u3 hb3 => nn_some ?_
      rw [addr_add]
      have hlf := A.files.lf
      refine ld_r A3.box (x := some ms) rfl (A3.seen.set (n := n) (i := D.files.length) (b := b) (by simp [hlf]) ?_ fun w4 h4 u4 => ?_)
      · rw [← hlf, List.getD_eq_getElem?_getD, List.getElem?_append_right (Nat.le_refl _), Nat.sub_self]; rfl
      obtain ⟨o, c, hmap⟩ := A3.seen.map_at
      have no : ∀ t : TypeId, NoTy w3 (fun k => k = ms) t := fun t => NoTy.map hmap
      have hz2 := e02.size
      refine ⟨_, { D with files := D.files ++ [⟨[], 0, 0⟩] }, dset D.seen n (some D.files.length), D.files.length, b, fb ++ [b], ds ++ [⟨none, 0, 0⟩], rfl, ⟨u4.get A3.box ?_, h4, A3.files.ty u4 (no _) (no _), A3.plan.upd u4 (fun m hm e => A3.nes (by rw [hm, e])) (no _) fun _ h => h, A3.nes, A3.fd, A3.fms, A3.ffb, A3.fds, fun k hk => Nat.lt_of_lt_of_le (A3.lt k hk) u4.size⟩, ?_, by simp, ?_, ((Upd.of_ext e02).trans (u3.mono fun k _ e => by rw [e]; exact A.fd)).trans (u4.mono fun k _ e => by rw [e]; exact A.fms), fun k hk => hk.imp id fun h => by omega, fun f hf => ?_⟩
      · intro e
        have hbx := A3.box
        rw [e, hmap] at hbx; cases hbx
      · rw [← hlf, List.getElem?_append_right (Nat.le_refl _), Nat.sub_self]; rfl
      · rw [hp, put1_eq (g := ⟨[], 0, 0⟩) (by simp)]
        simp
      · simp at hf
        subst hf
        exact ⟨Int.le_refl _, Int.natCast_nonneg N⟩
    · obtain ⟨i, hsn⟩ : ∃ i, D.seen n = some i := by
        cases hsn : D.seen n with
        | none => rw [hsn] at h; cases h
        | some i => exact ⟨i, rfl⟩
      rw [hsn] at hp
      obtain ⟨b, s, g, hb, hss, hg, hgb, hfl, hbx, hby⟩ := A2.file_at (ok.seen.ids n i hsn)
      refine ⟨F, D, D.seen, i, b, fb, ds, ?_, A2.half, hb, ok.seen.ids n i hsn, hp, Upd.of_ext e02, fun k hk => .inl hk, fun f hf => (ok.fil i f hf).2.2⟩
      rw [hsn, Option.map_some, hgb]
    · rintro ⟨_, ⟨⟩⟩ W ⟨F1, D1, g1, i, b, fb1, ds1, hx1, H, hb, hi, hput, hu1, hF1, hcnt⟩
      cases hx1
      dsimp only
      refine settle_gen H fun m' w5 A5 u5 hm' => ?_
      have hsz := hu1.size
      have hsz5 := u5.size
      have hd5 : F d := A.fd
      have x5 : Bytes w5 x l := SlX.updO (SlX.updO hx hu1 fun k hk => (hxb k hk).2) u5 fun k hk e => (hxb k hk).2 (e ▸ hd5)
      refine cloneB_call x5 (by omega) fun s' w6 hs' e6 => nn_some ?_
      rw [addr_add]
      obtain ⟨b', s, g, hb', hss, hg, hgb, hfl, hbx5, hby⟩ := A5.file_at (i := i) hi
      have hbx := e6.ext_get hbx5
      rw [hb] at hb'; cases hb'
      have hc := hcnt g hg
      have ho := hs'.len1
      rw [List.length_map] at ho
      refine stC_r hbx (by simp) fun w7 u7 n7 hz7 => ?_
      have n7 : w7.heap[b]? = some (fbox i s' ⟨l, g.synced, g.count⟩) := n7
      refine fsync_call n7 fun w8 n8 u8 _ => nn_some ?_
      rw [addr_add]
      refine ld_r n8 (x := g.count) rfl (nn_some ?_)
      rw [addr_add, IntWalk.i64_in _ ⟨by omega, by omega⟩]
      refine stC_r n8 (by simp) fun w9 u9 n9 _ => ?_
      have n9 : w9.heap[b]? = some (fbox i s' ⟨l, l.length, g.count + 1⟩) := by rw [n9, ho]; rfl
      have u69 : Upd (fun k => k = b) w6 w9 := (u7.trans u8).trans u9
      have A9 := A5.file_set (s' := s') (g' := ⟨l, l.length, g.count + 1⟩) hb hss hg ((Upd.of_ext e6).trans u69) (fun k hk _ => .inl hk) n9 ((hs'.box hbx (by decide) u69).mono (Nat.zero_le _)) fun k hk => .inr (hs'.blk_ge hk)
      have hz6 := e6.size
      refine hK _ w9 _ ⟨fun _ => rfl, fun h => absurd (by rw [hput]) h⟩ (by rw [hput, put1_eq hg]; exact A9.in) (((hu1.trans (u5.mono fun k _ e => by rw [e]; exact hd5)).trans (Upd.of_ext e6)).new u69 fun k hk e => ?_) fun k hk => ?_
      · subst e
        exact (hF1 k (H.ffb k (List.mem_of_getElem? hb))).resolve_right (by omega)
      · rcases hk with (hk | hk) | hk
        · exact hF1 k hk
        · exact .inr (by omega)
        · have := hs'.blk_ge hk
          exact .inr (by omega)
end
end Go.Proofs.Ytdabehgbhndimaa
