/- What room, act and Crash do. Conditions: the disk stands, its numbers are small. -/
import Derived.Test.YtdabehgbhndimaaBx
set_option linter.unusedSimpArgs false
set_option linter.unusedVariables false
namespace Go.Proofs.Ytdabehgbhndimaa
open Go Go.Vx Dsk
section
variable {w w' : World} {S F F' : Nat → Prop} {d m ms ml : Nat} {f : Dir} {fb : List Nat} {ds : List Sl} {fs : List Fl} {sa : Sl} {vs : List Value} {D : Dk} {pl : Option Nat} {p : Int → Option Fault} {N : Nat}

/-- a file's box, by its number -/
theorem DiskAt.file_at (A : DiskAt w d F D ms ml sa pl vs fb ds) {i : Nat} (hi : i < D.files.length) : ∃ b s g, fb[i]? = some b ∧ ds[i]? = some s ∧ D.files[i]? = some g ∧ fb.getD i 0 = b ∧ fl D i = g ∧ w.heap[b]? = some (fbox i s g) ∧ BytesO w 0 s g.data := by
  have h1 := A.files.lf
  have h2 := A.files.ld
  obtain ⟨b, hb⟩ : ∃ b, fb[i]? = some b := ⟨_, List.getElem?_eq_getElem (by omega)⟩
  obtain ⟨s, hs⟩ : ∃ s, ds[i]? = some s := ⟨_, List.getElem?_eq_getElem (by omega)⟩
  obtain ⟨g, hg⟩ : ∃ g, D.files[i]? = some g := ⟨_, List.getElem?_eq_getElem hi⟩
  obtain ⟨x1, x2⟩ := A.files.at_ i b s g hb hs hg
  exact ⟨b, s, g, hb, hs, hg, by rw [List.getD_eq_getElem?_getD, hb]; rfl, by unfold Dsk.fl; rw [List.getD_eq_getElem?_getD, hg]; rfl, x1, x2⟩

/-- what the names weigh, entry by entry -/
theorem weigh_sum {es done : List (KEnt ByteArray)} {o : Option Nat} (hp : (done.map (KEnt.ent Key.str)).Perm (es.map (KEnt.ent Key.str))) (hl : Lists D.seen (es.map (·.1))) : sumZ (done.map fun y => weigh D o y.1) = usedBut D o := by
  rw [used_eq hl, List.map_map]
  have h5 := hp.map fun e : MapEntry => match e.key with | .string k => weigh D o k | _ => 0
  rw [List.map_map, List.map_map] at h5
  exact sumZ_perm h5

theorem room_call (A : DiskAt w d F D ms ml sa pl vs fb ds) (ok : DkOk D N) {K : Int → World → Prop} (hK : ∀ w', Ext w w' → K (room D) w') : callT Try.prog 61 #[.pointer (some (at0 d))] (.one (.one (.int .i64))) K w := by
  refine F61_calls ?_
  unfold F61
  have hsp := ok.space
  have hu := ok.used none
  refine nn_some (ld_r A.box (x := D.space) rfl ?_)
  refine join_r (fun x w' => x = (D.space - usedBut D none, ()) ∧ Ext w w') ?_ ?_
  · refine nn_some ?_
    rw [addr_add]
    refine ld_r A.box (x := some ms) rfl (A.seen.range fun r w1 es hi e1 hr hm hg hl => ?_)
    have hcap : es.length ≤ 16 := by
      obtain ⟨l, h1, h2⟩ := ok.seen.few
      have := (lists_perm hl h1).length_eq
      rw [List.length_map] at this; omega
    refine sloop_r (fun s' w' => ∃ (done : List (KEnt ByteArray)), Iter w' r ms (es.map (KEnt.ent Key.str)) (done.map (KEnt.ent Key.str)) ∧ s' = (D.space - sumZ (done.map fun y => weigh D none y.1), ()) ∧ Ext w w' ∧ done.length ≤ es.length) (fun s' w' => es.length - (match w'.heap[r]? with | some (.mapIter _ _ seen _) => seen.size | _ => 0)) ⟨[], hi, by simp [sumZ], e1, Nat.zero_le _⟩ ?_
    rintro _ w2 ⟨done, hi2, rfl, e2, hdl⟩
    dsimp only
    have size_of : ∀ {W : World} {done : List (KEnt ByteArray)}, Iter W r ms (es.map (KEnt.ent Key.str)) (done.map (KEnt.ent Key.str)) → (match W.heap[r]? with | some (.mapIter _ _ seen _) => seen.size | _ => 0) = done.length := fun h => by
      obtain ⟨c, _, _, g3⟩ := h.at_
      rw [g3]; simp
    have bound : ∀ dn : List (KEnt ByteArray), dn.length ≤ 16 → 0 ≤ sumZ (dn.map fun y => weigh D none y.1) ∧ sumZ (dn.map fun y => weigh D none y.1) ≤ 16777216 := fun dn hdn => by
      refine ⟨sumZ_nonneg fun x hx => ?_, ?_⟩
      · obtain ⟨n, _, rfl⟩ := List.mem_map.1 hx; exact weigh_nonneg D none _
      · have := sumZ_le (l := dn.map fun y => weigh D none y.1) (B := 1048576) fun x hx => by
          obtain ⟨n, _, rfl⟩ := List.mem_map.1 hx; exact ok.weigh none _
        rw [List.length_map] at this
        have h4 : (dn.length : Int) * 1048576 ≤ 16 * 1048576 := Int.mul_le_mul_of_nonneg_right (by omega) (by decide)
        omega
    refine next_r hi2 (fun w3 e3 _ hp => sif_false ⟨?_, e2.trans e3⟩) fun x w3 hx hxd hi3 u3 hz3 => sif_true ?_
    · rw [weigh_sum hp hl]
    · obtain ⟨y, i, hy, rfl, hfy, hv⟩ := dir_entry hm hg hx
      have e3 : Ext w w3 := e2.step u3 (by rintro k rfl; exact hr)
      refine entry_r hi3 (y.1, some (at0 (fb.getD i 0)), ()) (by simp only [KEnt.ent, hv]; rfl) (nn_some ?_)
      have A3 := A.ext e3
      have hil : i < D.files.length := by have := A.seen.ids y.1 i hfy; have := A.files.lf; omega
      obtain ⟨b, s, g, _, _, _, hgb, hfl, hbx, hby⟩ := A3.file_at hil
      rw [hgb, addr_add]
      refine ld_r hbx (x := s) rfl ?_
      have hsl := hby.len1
      rw [List.length_map] at hsl
      have hw : weigh D none y.1 = (s.len : Int) := by
        unfold weigh; rw [hfy]; dsimp only; rw [if_neg (by simp), hfl]; omega
      have hi3' : Iter w3 r ms (es.map (KEnt.ent Key.str)) ((done ++ [y]).map (KEnt.ent Key.str)) := by simpa using hi3
      have hdn : (done ++ [y]).length ≤ es.length := by
        have h6 := List.Nodup.length_le_of_subset (nodup_of_born hi3'.dnd) hi3'.sub
        simpa using h6
      have hb1 := bound done (by omega)
      have hb2 := bound (done ++ [y]) (by omega)
      have hsum : sumZ ((done ++ [y]).map fun y => weigh D none y.1) = sumZ (done.map fun y => weigh D none y.1) + (s.len : Int) := by
        rw [List.map_append, sumZ_append]; simp [sumZ, hw]
      have ew : IntKind.wrap .i64 (D.space - sumZ (done.map fun y => weigh D none y.1) - (s.len : Int)) = D.space - sumZ ((done ++ [y]).map fun y => weigh D none y.1) := by
        rw [hsum, IntWalk.i64_in _ ⟨by omega, by omega⟩]; omega
      rw [ew]
      refine ⟨⟨done ++ [y], hi3', rfl, e3, hdn⟩, ?_⟩
      rw [size_of hi3', size_of hi2]
      simp at hdn ⊢; omega
  · rintro _ w1 ⟨rfl, e1⟩
    dsimp only
    have e : (if (0 : Int) > D.space - usedBut D none then (0 : Int) else D.space - usedBut D none) = room D := by
      unfold room; split <;> omega
    rw [e]
    exact hK w1 e1

/-- a block of the disk's, but no row of ints -/
def FN (w : World) (F : Nat → Prop) (k : Nat) : Prop := F k ∧ ∀ c fr, w.heap[k]? ≠ some (.cells c 3 fr)
theorem FN.of (h : F m) {o : Obj} (hm : w.heap[m]? = some o) (ho : ∀ c fr, o ≠ .cells c 3 fr) : FN w F m := ⟨h, fun c fr hc => ho c fr (by rw [hm] at hc; cases hc; rfl)⟩
theorem act_call (A : DiskAt w d F D ms ml sa pl vs fb ds) {v : Value} {a : Deed} (ha : ActIn w F fb v a) (ho : isOne v = true) (hn : D.acts.length ≤ 2 ^ 30) {K : Unit → World → Prop}
    (hK : ∀ sa' w', DiskAt w' d (fun k => F k ∨ sa'.blk k) { D with acts := D.acts ++ [a] } ms ml sa' pl (vs ++ [v]) fb ds → Upd (FN w F) w w' → (∀ k, sa'.blk k → F k ∨ w.heap.size ≤ k) → K () w') :
    callT Try.prog 43 #[.pointer (some (at0 d)), v] (.tup []) K w := by
  refine F43_calls ?_
  unfold F43
  have hseen : (({ D with acts := D.acts ++ [a] } : Dk)).seen = a.on D.seen := by simp only [Dk.seen, onAll_append]
  refine nn_some ?_
  rw [addr_add]
  refine ld_r A.box (x := some ms) rfl (deed_run ha A.seen fun w1 h1 u1 => nn_some ?_)
  obtain ⟨o, c, hmap⟩ := A.seen.map_at
  have no : ∀ t : TypeId, NoTy w (fun k => k = ms) t := fun t => NoTy.map hmap
  have b1 := u1.get A.box fun e => by
    have hb := A.box
    rw [show d = ms from e, hmap] at hb; cases hb
  have l1 := A.lasts.upd u1 fun e => A.ne e.symm
  have f1 := A.files.ty u1 (no _) (no _)
  have a1 := A.acts.ty u1 (no _) (no _) (no _) (no _) fun _ h => h
  have p1 := A.plan.upd u1 (fun m hm e => A.nes (by rw [hm]; exact congrArg some e)) (no _) fun _ h => h
  have hal := a1.row.len1
  have hlen := a1.len
  rw [addr_add]
  refine ld_r b1 (x := sa) rfl (chk_r (by simp [oneAll, ho]) (newO_r fun b6 w2 e2 n2 _ _ => ?_))
  have one : SlIn w2 ⟨some (at0 b6), 1, 1⟩ 107 1 [v] := SlIn.of_box (n := 1) (sz := 1) n2 rfl
  have hs1 := u1.size
  have hs2 := e2.size
  refine append_r (x := ⟨some (at0 b6), 1, 1⟩) EA uA (a1.row.ext e2) one (fun u hu => by simp at hu; subst hu; exact ho) (by dsimp only; omega) (Nat.zero_le _) fun sa' w3 o3 _ u3 hb3 => nn_some ?_
  have nb : ∀ t : TypeId, t ≠ 107 → NoTy w2 sa.blk t := fun t ht => NoTy.blk (a1.row.ext e2).in ht.symm
  have nm : ∀ m, (∃ o c, w2.heap[m]? = some (.map o c)) → ¬ sa.blk m := fun m ⟨o, c, hm⟩ hk => by
    obtain ⟨c', fr, hc⟩ := (a1.row.ext e2).in.blk_cells hk
    rw [hm] at hc; cases hc
  have b3 := u3.get (e2.ext_get b1) fun hk => nb 91 (by decide) d hk _ _ (e2.ext_get b1)
  rw [addr_add]
  refine stC_r b3 (by simp) fun w4 u4 n4 _ => ?_
  have h2 := h1.upd e2 id
  have l2 := l1.upd e2 id
  have h3 := h2.upd u3 (nm _ h2.map_at)
  have l3 := l2.upd u3 (nm _ l2.map_at)
  have f3 := (f1.ty e2 (fun _ h => h.elim) (fun _ h => h.elim)).ty u3 (nb _ (by decide)) (nb _ (by decide))
  have p2 := p1.upd e2 (fun _ _ => id) (fun _ h => h.elim) fun _ h => h
  have p3 := p2.upd u3 (fun m hm => nm m (by subst hm; exact p2.map_at)) (nb _ (by decide)) fun _ h => h
  have a3 : ∀ (i : Nat) (u : Value) (x : Deed), vs[i]? = some u → D.acts[i]? = some x → ActIn w3 F fb u x := fun i u x hu hx => ((a1.at_ i u x hu hx).ty e2 (fun _ h => h.elim) (fun _ h => h.elim) (fun _ h => h.elim) fun _ h => h).ty u3 (nb _ (by decide)) (nb _ (by decide)) (nb _ (by decide)) fun _ h => h
  have ha3 : ActIn w3 F fb v a := ((ha.ty u1 (no _) (no _) (no _) fun _ h => h).ty e2 (fun _ h => h.elim) (fun _ h => h.elim) (fun _ h => h.elim) fun _ h => h).ty u3 (nb _ (by decide)) (nb _ (by decide)) (nb _ (by decide)) fun _ h => h
  -- the box turns last
  have nd : ∀ t : TypeId, 91 ≠ t → NoTy w3 (fun k => k = d) t := fun t ht => NoTy.box b3 ht
  have nmd : ∀ m, (∃ o c, w3.heap[m]? = some (.map o c)) → ¬ (fun k => k = d) m := by
    rintro m ⟨o, c, hm⟩ rfl
    rw [b3] at hm; cases hm
  have u14 : Upd (FN w F) w w4 := by
    refine ((u1.mono fun k _ e => by rw [e]; exact FN.of A.fms hmap fun c fr h => by cases h).trans (Upd.of_ext e2)).trans ((u3.mono fun k _ hk => ?_).trans (u4.mono fun k _ e => by rw [e]; exact FN.of A.fd A.box fun c fr h => by cases h))
    obtain ⟨c, fr, hc⟩ := A.acts.row.in.blk_cells hk
    exact FN.of (A.fsa k hk) hc fun c fr h => by cases h
  have o4 := o3.ty u4 (nd _ (by decide))
  refine hK sa' w4 ⟨?_, ?_, l3.upd u4 (nmd _ l3.map_at), f3.ty u4 (nd _ (by decide)) (nd _ (by decide)), ⟨o4, by simp [hlen], fun i u x hu hx => ?_⟩, p3.upd u4 (fun m hm => nmd m (by subst hm; exact p3.map_at)) (nd _ (by decide)) fun _ h => .inl h, A.ne, A.nes, A.nel, .inl A.fd, .inl A.fms, .inl A.fml, fun b hb => .inl (A.ffb b hb), fun t ht k hk => .inl (A.fds t ht k hk), fun k hk => .inr hk, fun k hk => ?_⟩ u14 (fun k hk => (hb3 k hk).imp (A.fsa k) fun h => by omega)
  · rw [n4]; simp [dbox]
  · rw [hseen]; exact h3.upd u4 (nmd _ h3.map_at)
  · have go : ∀ {u : Value} {x : Deed}, ActIn w3 F fb u x → ActIn w4 (fun k => F k ∨ sa'.blk k) fb u x := fun h => h.ty u4 (nd _ (by decide)) (nd _ (by decide)) (nd _ (by decide)) fun _ h => .inl h
    by_cases hi : i < vs.length
    · rw [List.getElem?_append_left hi] at hu
      rw [List.getElem?_append_left (by omega)] at hx
      exact go (a3 i u x hu hx)
    · rw [List.getElem?_append_right (by omega)] at hu
      rw [List.getElem?_append_right (by omega)] at hx
      have h1 := List.mem_of_getElem? hu
      have h2 := List.mem_of_getElem? hx
      simp at h1 h2
      subst h1 h2
      exact go ha3
  · rcases hk with hk | hk
    · exact Nat.lt_of_lt_of_le (A.lt k hk) u14.size
    · exact o4.in.blk_lt hk
end
end Go.Proofs.Ytdabehgbhndimaa
