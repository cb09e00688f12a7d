/- Names and Copy of both banks, New of the reference; what every writing call keeps. Conditions: none. -/
import Derived.Test.YtocdfkeflakemaaRef4
set_option linter.unusedSimpArgs false
set_option linter.unusedVariables false
namespace Go.Proofs.Ytocdfkeflakemaa
open Go Go.Vx
section
variable {w w' : World} {pb m pr : Nat} {b : Reg.Bk} {Z : Nat → Prop} {ks : List (Cells.T c85)}

/- plainly -/
theorem go_slot {h : Int → Option (Int × List Int)} {s : Int} {r : Int × List Int} (hs : Slot s) (hh : ∀ k r, h k = some r → Slot k ∧ 0 < r.2.length ∧ r.2.length ≤ 140000) : ∀ k r', (Reg.go h s r).1 k = some r' → Slot k ∧ 0 < r'.2.length ∧ r'.2.length ≤ 140000 := by
  intro k r' hk
  unfold Reg.go at hk
  split at hk
  · exact hh k r' hk
  · rename_i hl
    simp only [Reg.put] at hk
    split at hk
    · rename_i e
      subst e
      split at hk
      · cases hk
      · cases hk
        exact ⟨hs, by omega, by omega⟩
    · exact hh k r' hk
theorem sto_slot {h : Int → Option (Int × List Int)} {s : Int × Bool} {r : Int × List Int} (hs : Slot s.1) (hh : ∀ k r, h k = some r → Slot k ∧ 0 < r.2.length ∧ r.2.length ≤ 140000) : ∀ k r', (Reg.sto h s r).1 k = some r' → Slot k ∧ 0 < r'.2.length ∧ r'.2.length ≤ 140000 := by
  unfold Reg.sto
  split
  · split
    · split
      · exact go_slot hs hh
      · exact hh
    · exact go_slot hs hh
  · exact go_slot hs hh
theorem kp_ok {s : Int × Bool} {r : Int × List Int} (hs : Slot s.1) (h : BkOk b) : BkOk (Reg.kp b s r).1 := by
  unfold Reg.kp; dsimp only; split
  · exact ⟨sto_slot hs h.slot, .inr hs⟩
  · exact ⟨sto_slot hs h.slot, h.to⟩
theorem key_slot {a : Int} (h : (Reg.fnd a).2 = true) (h1 : (Reg.fnd a).1.1 ≠ 95) (h2 : (Reg.fnd a).1.1 ≠ 34) : Slot (Reg.fnd a).1.1 := by
  have hn : ¬ (a = 0 ∨ a = 34) := fun hh => h2 ((key34 h).2 hh)
  rw [own_key h hn]
  exact slot_key h hn fun hh => h1 ((key95 h).2 hh)
theorem keepOk : Keeps BkOk := by
  refine ⟨⟨(fun k r h => by cases h), .inl rfl⟩, fun b a k l h => ?_, fun b a k l h => ?_, fun b a l h => ?_⟩
  · simp only [Reg.yank]
    split
    · exact h
    rename_i h0
    obtain ⟨hf, _⟩ := rfs_ok (a := a) (k := k) (by omega)
    split
    · exact h
    rename_i h1
    refine kp_ok ?_ h
    rw [rfs_key] at h1 ⊢
    split
    · exact (show Slot 48 by decide)
    · rename_i h2; exact key_slot hf (fun e => h1 (.inl e)) h2
  · simp only [Reg.del]
    split
    · exact h
    rename_i h0
    obtain ⟨hf, _⟩ := rfs_ok (a := a) (k := k) (by omega)
    split
    · exact h
    rename_i h1
    rw [rfs_key] at h1 ⊢
    split
    · rename_i h2; exact kp_ok (key_slot hf (fun e => h1 (.inl e)) h2) h
    split
    · exact kp_ok (by decide) h
    split
    · exact h
    · refine kp_ok (by decide) ⟨fun k r hk => ?_, h.to⟩
      simp only [Reg.ring] at hk
      split at hk
      · have := h.slot _ r hk
        exact ⟨by omega, this.2⟩
      · exact h.slot k r hk
  · simp only [Reg.set]
    split
    · exact h
    rename_i h0
    split
    · exact h
    rename_i h1
    have hf : (Reg.fnd a).2 = true := by
      cases e : (Reg.fnd a).2 with
      | true => rfl
      | false => exact absurd (.inl e) h0
    exact ⟨sto_slot (key_slot hf h1 fun e => h0 (.inr e)) h.slot, h.to⟩

theorem mget_mem : ∀ {es : List IEnt}, (es.map (·.1)).Nodup → ∀ x ∈ es, mget es x.1 = some x.2.1
  | [], _, x, h => by cases h
  | y :: r, hn, x, h => by
    simp only [List.map_cons, List.nodup_cons] at hn
    unfold mget
    rw [List.find?_cons]
    rcases List.mem_cons.1 h with e | h
    · subst e; simp
    · have hne : (y.1 == x.1) = false := by
        simp only [beq_eq_false_iff_ne, ne_eq]
        intro e
        exact hn.1 (by rw [e]; exact List.mem_map.2 ⟨x, h, rfl⟩)
      rw [hne]
      exact mget_mem hn.2 x h
theorem mem_mget {es : List IEnt} {k : Int} {v : Value} (h : mget es k = some v) : ∃ x ∈ es, x.1 = k ∧ x.2.1 = v := by
  unfold mget at h
  obtain ⟨x, hx, rfl⟩ := Option.map_eq_some_iff.1 h
  exact ⟨x, List.mem_of_find?_eq_some hx, by simpa using List.find?_some hx, rfl⟩

theorem srt_names {l : List Int} (hn : l.Nodup) (hl : ∀ k, k ∈ l ↔ (b.held k).isSome = true) (hb : BkOk b) : srt l = nms b 128 := by
  have hs : (nms b 128).Pairwise fun x y => decide (x ≤ y) = true := by
    rw [List.pairwise_map]
    refine List.Pairwise.imp (fun {x y} h => ?_) (List.Pairwise.filter _ (List.pairwise_lt_range (n := 128)))
    simp only [decide_eq_true_eq]
    omega
  have hnd : (nms b 128).Nodup := by
    unfold List.Nodup
    rw [List.pairwise_map]
    refine List.Pairwise.imp (fun {x y} h => ?_) (List.Pairwise.filter _ (List.pairwise_lt_range (n := 128)))
    omega
  have hp : l.Perm (nms b 128) := (List.perm_ext_iff_of_nodup hn hnd).2 fun k => by
    rw [hl]
    simp only [nms, List.mem_map, List.mem_filter, List.mem_range]
    constructor
    · intro h
      obtain ⟨r, hr⟩ := Option.isSome_iff_exists.1 h
      have hk := (hb.slot k r hr).1
      refine ⟨k.toNat, ⟨by omega, ?_⟩, by omega⟩
      rw [show ((k.toNat : Nat) : Int) = k by omega]; exact h
    · rintro ⟨i, ⟨_, h⟩, rfl⟩
      exact h
  refine List.Perm.eq_of_pairwise (le := fun x y => decide (x ≤ y) = true) (fun a b _ _ h1 h2 => ?_) (List.pairwise_mergeSort (fun a b c h1 h2 => ?_) (fun a b => ?_) l) hs ((List.mergeSort_perm l _).trans hp)
  · simp only [decide_eq_true_eq] at h1 h2; omega
  · simp only [decide_eq_true_eq] at h1 h2 ⊢; omega
  · simp only [Bool.or_eq_true, decide_eq_true_eq]; omega

theorem ent_key {es : List IEnt} {x : MapEntry} (h : x ∈ es.map IEnt.ent) : ∃ y ∈ es, x = ⟨.int .i64 y.1, y.2.1, y.2.2⟩ := by
  obtain ⟨y, hy, rfl⟩ := List.mem_map.1 h
  exact ⟨y, hy, rfl⟩
theorem u71 : Try.prog.underlying 71 = some (.map 3 28) := i71_ok.und
/-- a look over all the registers -/
theorem BankIn.range (h : BankIn w pb m Z b) {K : Option Addr → World → Prop}
    (hK : ∀ r w' es, Iter w' r m (es.map IEnt.ent) [] → Ext w w' → w.heap.size ≤ r → (∀ k, HeldV w Z (mget es k) (b.held k)) → (es.map (·.1)).Nodup → K (some (at0 r)) w') : rawT Try.prog (.one (.one .ptr)) (Instr.range 71 (.map (some m))) K w := by
  obtain ⟨es, ⟨⟨c, h1, h2⟩, h3, h4⟩, hh⟩ := h.map
  refine range_r u71 h1 (fun x hx => ?_) ?_ fun r w' hi e hr => hK r w' es hi e (Nat.le_of_eq hr.symm) hh h3
  · obtain ⟨y, hy, rfl⟩ := List.mem_map.1 hx
    exact h2 y hy
  · rw [List.map_map]; exact h4
theorem HeldV.entry {es : List IEnt} (hh : ∀ k, HeldV w Z (mget es k) (b.held k)) (hn : (es.map (·.1)).Nodup) {x : IEnt} (hx : x ∈ es) : ∃ (s : Sl) (r : Int × List Int), x.2.1 = .agg #[.int .i64 r.1, sv s] ∧ b.held x.1 = some r ∧ Ints w s r.2 ∧ 0 < r.2.length ∧ r.2.length ≤ 140000 ∧ ∀ k, s.blk k → ¬ Z k := by
  have h1 := hh x.1
  rw [mget_mem hn x hx] at h1
  generalize hr : b.held x.1 = r at h1
  match r, h1 with
  | some r, ⟨s, e, h2⟩ => exact ⟨s, r, e, rfl, h2⟩

theorem names_call {K : Sl → World → Prop} (hB : BankIn w pb m Z b) (hb : BkOk b) (hK : ∀ s w', IntsO w' w.heap.size s (nms b 128) → Ext w w' → K s w') :
    callT Try.prog 27 #[.pointer (some (at0 pb))] (.one (.one .sl)) K w := by
  refine F27_calls ?_
  unfold F27
  refine join_r (fun x w' => ∃ l, IntsO w' w.heap.size x.1 l ∧ Ext w w' ∧ srt l = nms b 128 ∧ l.length ≤ 2 ^ 60) ?_ ?_
  · refine nn_some (hB.ldm (hB.range fun r w1 es hi e1 hr hh hn => ?_))
    have hcap : es.length ≤ 128 := by
      have h1 : (es.map (·.1)).Nodup := hn
      have h2 : ∀ k ∈ es.map (·.1), k ∈ (List.range 128).map fun (i : Nat) => (i : Int) := by
        intro k hk
        obtain ⟨x, hx, rfl⟩ := List.mem_map.1 hk
        obtain ⟨s, r, _, hr, _⟩ := HeldV.entry hh hn hx
        have := (hb.slot _ r hr).1
        exact List.mem_map.2 ⟨x.1.toNat, List.mem_range.2 (by omega), by omega⟩
      have := List.Nodup.length_le_of_subset h1 h2
      simpa using this
    refine sloop_r (fun s' w' => ∃ (done : List IEnt), Iter w' r m (es.map IEnt.ent) (done.map IEnt.ent) ∧ IntsO w' w.heap.size s'.1 (done.map (·.1)) ∧ Ext w w' ∧ s'.2 = () ∧ done.length ≤ es.length) (fun s' w' => es.length - s'.1.len) ⟨[], hi, SlOwn.nil w1 _ 3 1, e1, rfl, Nat.zero_le _⟩ ?_
    rintro ⟨s1, ⟨⟩⟩ w2 ⟨done, hi2, o2, e2, _, hdl⟩
    dsimp only at o2 ⊢
    have hol := o2.length
    rw [List.length_map] at hol
    refine next_r hi2 (fun w3 e3 _ hp => sif_false ⟨done.map (·.1), o2.ext e3, e2.trans e3, ?_, by rw [List.length_map]; omega⟩) fun x w3 hx hxd hi3 u3 hz3 => sif_true ?_
    · have hpk : (done.map (·.1)).Perm (es.map (·.1)) := by
        have h5 := hp.map fun e : MapEntry => match e.key with | .int _ k => k | _ => 0
        rw [List.map_map, List.map_map] at h5
        exact h5
      refine srt_names (hpk.nodup_iff.2 hn) (fun k => ?_) hb
      rw [hpk.mem_iff]
      constructor
      · intro hk
        obtain ⟨x, hx, rfl⟩ := List.mem_map.1 hk
        obtain ⟨s, r, _, hr, _⟩ := HeldV.entry hh hn hx
        rw [hr]; rfl
      · intro hk
        have h1 := hh k
        generalize hv : mget es k = v at h1
        match v, h1 with
        | none, h1 =>
          generalize b.held k = r at h1 hk
          match r, h1 with
          | none, _ => cases hk
        | some v, _ =>
          obtain ⟨x, hx, hxk, _⟩ := mem_mget hv
          exact List.mem_map.2 ⟨x, hx, hxk⟩
    · obtain ⟨y, hy, rfl⟩ := ent_key hx
      obtain ⟨s, rr, hv, hr', _⟩ := HeldV.entry hh hn hy
      have e3 : Ext w w3 := e2.step u3 (by rintro k rfl; exact hr)
      have o3 := o2.upd u3 fun k _ hk he => by
        obtain ⟨c, fr, hc⟩ := o2.in.blk_cells hk
        obtain ⟨cl, _, _, g3⟩ := hi2.at_
        subst he
        rw [g3] at hc; cases hc
      refine entry_r hi3 (y.1, (rr.1, s, ()), ()) (by simp only [hv]; rfl) ?_
      refine newO_r fun b11 w4 e4 n4 _ _ => ?_
      have n4' : w4.heap[b11]? = some (.cells (iv [y.1]).toArray 3 (0, 0)) := n4
      have h1 : Ints w4 ⟨some (at0 b11), 1, 1⟩ [y.1] := box3 n4'
      refine app_r (x := ⟨some (at0 b11), 1, 1⟩) (o3.ext e4) h1.x (by simp only [List.length_map, List.length_cons, List.length_nil]; omega) (e3.trans e4).size fun s5 w5 o5 u5 _ => ?_
      have hnew : ∀ k, s1.blk k → ∃ c t fr, w4.heap[k]? = some (.cells c t fr) := fun k hk => by
        obtain ⟨c, fr, hc⟩ := (o3.ext e4).in.blk_cells hk
        exact ⟨c, 3, fr, hc⟩
      have hi5 := (hi3.ext e4).cells u5 hnew
      have hlen5 := o5.length
      have hdn : (done ++ [y]).length ≤ es.length := by
        have hsub : (done ++ [y]).map IEnt.ent = done.map IEnt.ent ++ [⟨.int .i64 y.1, y.2.1, y.2.2⟩] := by simp [IEnt.ent]
        have h6 := List.Nodup.length_le_of_subset (nodup_of_born hi5.dnd) hi5.sub
        simpa using h6
      have hlen6 : s5.len = done.length + 1 := by
        have : ((done.map (·.1)) ++ [y.1]).length = s5.len := hlen5
        simp at this; omega
      simp only [List.length_append, List.length_cons, List.length_nil] at hdn
      exact ⟨⟨done ++ [y], by simpa [IEnt.ent] using hi5, by simpa using o5, (e3.trans e4).step u5 fun k hk => (o3.ext e4).blk_ge hk, rfl, by simpa using hdn⟩, by omega⟩
  · rintro ⟨s1, ⟨⟩⟩ w1 ⟨l, o1, e1, hsrt, hll⟩
    dsimp only at o1 ⊢
    refine sort_call o1 hll fun w2 o2 u2 => ?_
    rw [hsrt] at o2
    exact hK s1 w2 o2 (e1.step u2 fun k hk => o1.blk_ge hk)

/-- how many an iterator has given -/
def itSeen (w : World) (r : Nat) : Nat := match w.heap[r]? with | some (.mapIter _ _ seen _) => seen.size | _ => 0

theorem copy_call {K : Option Addr → World → Prop} (hB : BankIn w pb m Z b) (hZ : ∀ k, Z k → k < w.heap.size) (hK : ∀ pb2 m2 w', BankIn w' pb2 m2 Z b → Ext w w' → w.heap.size ≤ pb2 → w.heap.size ≤ m2 → K (some (at0 pb2)) w') :
    callT Try.prog 26 #[.pointer (some (at0 pb))] (.one (.one .ptr)) K w := by
  refine F26_calls ?_
  unfold F26
  refine new_call (Z := Z) fun pb2 m2 w1 hN1 e1 hp2 hm2 => ?_
  have hM : ∀ k, BM pb2 m2 k → w.heap.size ≤ k := by rintro k (rfl | rfl) <;> assumption
  refine nn_some ?_
  rw [addr_add]
  refine (hB.ext e1).ldt (nn_some ?_)
  rw [addr_add]
  refine hN1.sett b.to fun w2 hN2 u2 => ?_
  have e2 : Ext w w2 := e1.step u2 fun k hk => hM k (.inl hk)
  refine join_r (fun _ w' => BankIn w' pb2 m2 Z b ∧ Ext w w') ?_ fun _ w' ⟨h, e⟩ => hK pb2 m2 w' h e hp2 hm2
  have hB2 := hB.ext e2
  refine nn_some (hB2.ldm (hB2.range fun r w3 es hi e3 hr hh hn => ?_))
  have hh0 := hh
  have hmap2 : ∃ c es', w2.heap[m2]? = some (.map es' c) := by
    obtain ⟨es', ⟨⟨c, h1, _⟩, _, _⟩, _⟩ := hN2.map
    exact ⟨c, _, h1⟩
  have hml := hB.lt m (.inr rfl)
  have hrm2 : r ≠ m2 := by
    intro e
    have := (hN2.lt m2 (.inr rfl))
    omega
  have hrp2 : r ≠ pb2 := by
    intro e
    have := (hN2.lt pb2 (.inl rfl))
    omega
  have hiter : ∀ {W : World} {done : List IEnt}, Iter W r m (es.map IEnt.ent) (done.map IEnt.ent) → itSeen W r = done.length := by
    intro W done h
    obtain ⟨c, _, _, g3⟩ := h.at_
    simp [itSeen, g3]
  refine sloop_r (fun s' w' => ∃ (done : List IEnt) (h : Int → Option (Int × List Int)), Iter w' r m (es.map IEnt.ent) (done.map IEnt.ent) ∧ BankIn w' pb2 m2 Z ⟨h, b.to⟩ ∧ Ext w w' ∧ Upd (fun k => k = m2) w2 w' ∧ (∀ k, (∃ x ∈ done, x.1 = k) → h k = b.held k) ∧ (∀ k, (¬ ∃ x ∈ done, x.1 = k) → h k = none)) (fun s' w' => es.length - itSeen w' r) ⟨[], _, hi, hN2.ext e3, e2.trans e3, Upd.of_ext e3, (fun k ⟨x, hx, _⟩ => by cases hx), fun k _ => rfl⟩ ?_
  rintro ⟨⟩ w4 ⟨done, h, hi4, hN4, e4, u4, hin, hout⟩
  have hh4 : ∀ k, HeldV w4 Z (mget es k) (b.held k) := fun k => (hh0 k).upd u4 (fun k hk _ => .inl fun c t fr hc => by
    obtain ⟨c', es', h1⟩ := hmap2
    subst hk
    rw [h1] at hc; cases hc) fun _ h => .inl h
  refine next_r hi4 (fun w5 e5 _ hp => sif_false ⟨?_, e4.trans e5⟩) fun x w5 hx hxd hi5 u5 hz5 => sif_true ?_
  · have hmem : ∀ x ∈ es, x ∈ done := by
      intro x hx
      have : x.ent ∈ done.map IEnt.ent := hp.mem_iff.2 (List.mem_map.2 ⟨x, hx, rfl⟩)
      obtain ⟨y, hy, hxy⟩ := List.mem_map.1 this
      have : x = y := by
        obtain ⟨a, b, c⟩ := x
        obtain ⟨a', b', c'⟩ := y
        simp only [IEnt.ent, MapEntry.mk.injEq, Value.int.injEq] at hxy
        simp [hxy]
      rw [this]; exact hy
    have heq : h = b.held := by
      funext k
      by_cases hk : ∃ x ∈ done, x.1 = k
      · exact hin k hk
      · rw [hout k hk]
        have h1 := hh0 k
        generalize hv : mget es k = v at h1
        match v, h1 with
        | none, h1 =>
          generalize b.held k = r at h1
          match r, h1 with
          | none, _ => rfl
        | some v, _ =>
          obtain ⟨x, hx, hxk, _⟩ := mem_mget hv
          exact absurd ⟨x, hmem x hx, hxk⟩ hk
    rw [heq] at hN4
    exact hN4.ext e5
  · obtain ⟨y, hy, rfl⟩ := ent_key hx
    obtain ⟨s, rr, hv, hr', hs, h1, h2, h3⟩ := HeldV.entry hh4 hn hy
    have hIno : ∀ k, (fun k => k = r) k → k < w4.heap.size → (∀ c t fr, w4.heap[k]? = some (.cells c t fr) → t ≠ 3) ∨ Z k := by
      rintro k rfl _
      refine .inl fun c t fr hc => ?_
      obtain ⟨cl, _, _, g3⟩ := hi4.at_
      rw [g3] at hc; cases hc
    have hN5 := hN4.upd u5 (fun e => hrp2 e.symm) (fun e => hrm2 e.symm) hIno
    have e5 : Ext w w5 := e4.step u5 (by rintro k rfl; exact Nat.le_trans e2.size hr)
    have hs5 : Ints w5 s rr.2 := hs.upd u5 fun k hk he => by
      obtain ⟨c, fr, hc⟩ := hs.blk_cells hk
      obtain ⟨cl, _, _, g3⟩ := hi4.at_
      subst he
      rw [g3] at hc; cases hc
    refine entry_r hi5 (y.1, (rr.1, s, ()), ()) (by simp only [hv]; rfl) ?_
    have S := St.start w5
    refine S.newAgg rfl rfl rfl fun b15 w6 S e6 => S.drew fun w7 S e7 _ => ?_
    have e57 := e6.trans e7
    refine nn_some ((hN5.ext e57).ldm (S.lds 0 (rr.1, s, ()) rfl ((hN5.ext e57).update y.1 (hs5.ext e57) h1 h2 h3 fun w8 hN8 u8 => ?_)))
    have hm2r : ¬ (fun k => k = m2) r := hrm2
    have hm2m : ¬ (fun k => k = m2) m := fun e => by simp only at e; omega
    have hi8 := (hi5.ext e57).upd u8 hm2r hm2m
    have hi8' : Iter w8 r m (es.map IEnt.ent) ((done ++ [y]).map IEnt.ent) := by simpa [IEnt.ent] using hi8
    have hdn : (done ++ [y]).length ≤ es.length := by
      have h6 := List.Nodup.length_le_of_subset (nodup_of_born hi8'.dnd) hi8'.sub
      simpa using h6
    refine ⟨⟨done ++ [y], _, hi8', hN8, (e5.trans e57).step u8 (by rintro k rfl; exact hm2), ((u4.new u5 (fun k hk he => by subst he; omega)).trans (Upd.of_ext e57)).trans u8, fun k ⟨x, hx, hxk⟩ => ?_, fun k hk => ?_⟩, ?_⟩
    · simp only [Reg.put]
      by_cases hky : k = y.1
      · rw [if_pos hky, hky, hr']
      · rw [if_neg hky]
        rcases List.mem_append.1 hx with hx | hx
        · exact hin k ⟨x, hx, hxk⟩
        · simp at hx; subst hx; exact absurd hxk.symm hky
    · simp only [Reg.put]
      have hky : ¬ k = y.1 := fun e => hk ⟨y, by simp, e.symm⟩
      rw [if_neg hky]
      exact hout k fun ⟨x, hx, hxk⟩ => hk ⟨x, List.mem_append_left _ hx, hxk⟩
    · rw [hiter hi8', hiter hi4]
      simp at hdn ⊢; omega

/- the reference's New and Copy -/
theorem c88_eq : c88 = (List.replicate 128 c85).flatten ++ [.int .i64] := by kernel_rfl
theorem new_ref {K : Option Addr → World → Prop} (hK : ∀ pr w' ks, RefIn w' pr Z ⟨fun _ => none, 0⟩ ks → Ext w w' → w.heap.size ≤ pr → K (some (at0 pr)) w') : callT Try.prog 40 #[] (.one (.one .ptr)) K w := by
  refine F40_calls ?_
  unfold F40
  refine newO_r fun b1 w1 e1 n1 hb1 _ => hK b1 w1 (List.replicate 128 (0, ⟨none, 0, 0⟩, ())) ⟨?_, by simp, fun i x hx => ?_⟩ e1 (Nat.le_of_eq hb1.symm)
  · have e : Value.cells (Try.t88.zero.getD default) = (flat c85 (List.replicate 128 (0, ⟨none, 0, 0⟩, ())) ++ [Value.int .i64 0]).toArray := by kernel_rfl
    rw [e] at n1; exact n1
  · have := List.mem_of_getElem? hx
    rw [List.eq_of_mem_replicate this]
    exact ⟨SlIn.nil w1 3 1, (fun r h => by cases h), by rintro k ⟨p, hp, _⟩; cases hp⟩
theorem vals_append : ∀ (cs ds : List Cell) (x : Cells.T cs) (y : Cells.T ds), ∃ z : Cells.T (cs ++ ds), Cells.vals (cs ++ ds) z = Cells.vals cs x ++ Cells.vals ds y
  | [], ds, _, y => ⟨y, rfl⟩
  | c :: r, ds, x, y => by
    obtain ⟨z, hz⟩ := vals_append r ds x.2 y
    exact ⟨(x.1, z), by simp [Cells.vals, hz]⟩
theorem vals_rep (cs : List Cell) : ∀ (xs : List (Cells.T cs)), ∃ z : Cells.T ((List.replicate xs.length cs).flatten), Cells.vals _ z = flat cs xs
  | [] => ⟨(), rfl⟩
  | x :: r => by
    obtain ⟨z, hz⟩ := vals_rep cs r
    obtain ⟨u, hu⟩ := vals_append cs _ x z
    refine ⟨u, ?_⟩
    have : Cells.vals (cs ++ (List.replicate r.length cs).flatten) u = flat cs (x :: r) := by rw [hu, hz]; simp [flat]
    exact this
theorem vals88 (ks : List (Cells.T c85)) (hl : ks.length = 128) (t : Int) : ∃ z : Cells.T c88, Cells.vals c88 z = flat c85 ks ++ [Value.int .i64 t] := by
  rw [c88_eq]
  have key : ∀ n, ks.length = n → ∃ z : Cells.T ((List.replicate n c85).flatten), Cells.vals _ z = flat c85 ks := by
    rintro _ rfl
    exact vals_rep c85 ks
  obtain ⟨z, hz⟩ := key 128 hl
  obtain ⟨u, hu⟩ := vals_append _ [Cell.int .i64] z (t, ())
  exact ⟨u, by rw [hu, hz]; rfl⟩
set_option maxRecDepth 100000 in
theorem copy_ref {K : Option Addr → World → Prop} (hR : RefIn w pr Z b ks) (hK : ∀ p2 w', RefIn w' p2 Z b ks → Ext w w' → w.heap.size ≤ p2 → K (some (at0 p2)) w') : callT Try.prog 43 #[.pointer (some (at0 pr))] (.one (.one .ptr)) K w := by
  refine F43_calls ?_
  unfold F43
  obtain ⟨z, hz⟩ := vals88 ks hR.len b.to
  refine nn_some (lds_r (x := z) hR.box (fun i v hv => by rw [hz] at hv; simpa using hv) ?_)
  refine newO_r fun b3 w1 e1 n1 hb3 _ => ?_
  have hsz : (Cells.vals c88 z).length = 257 := by
    rw [hz]
    have hf := flat_len c85 ks
    rw [hR.len] at hf
    have hf : (flat c85 ks).length = 256 := hf
    simp [hf]
  have e : Value.cells (Try.t88.zero.getD default) = (flat c85 (List.replicate 128 (0, ⟨none, 0, 0⟩, ())) ++ [Value.int .i64 0]).toArray := by kernel_rfl
  rw [e] at n1
  have hz1 : (flat c85 (List.replicate 128 ((0 : Int), (⟨none, 0, 0⟩ : Sl), ())) ++ [Value.int .i64 0]).toArray.size = 257 := by
    have hf := flat_len c85 (List.replicate 128 ((0 : Int), (⟨none, 0, 0⟩ : Sl), ()))
    have hf : (flat c85 (List.replicate 128 ((0 : Int), (⟨none, 0, 0⟩ : Sl), ()))).length = 256 := by rw [hf]; simp
    simp only [List.size_toArray, List.length_append, hf]; rfl
  refine aggSt_r n1 (by simpa using hsz) ?_ (by rw [hz1]; decide) fun w2 u2 n2 _ => ?_
  · rw [hz]
    simp only [List.all_append, Bool.and_eq_true, List.all_eq_true]
    refine ⟨fun v hv => ?_, by simp; rfl⟩
    obtain ⟨x, _, hx⟩ := List.mem_flatMap.1 hv
    obtain ⟨a, s, ⟨⟩⟩ := x
    simp [Cells.vals, Cell.val] at hx
    rcases hx with rfl | rfl <;> rfl
  · have hw : setRow ((flat c85 (List.replicate 128 ((0 : Int), (⟨none, 0, 0⟩ : Sl), ())) ++ [Value.int .i64 0]).toArray) 0 (Cells.vals c88 z) = (Cells.vals c88 z).toArray := setRow_whole _ _ (by rw [hz1, hsz])
    have e2 : (Cells.vals c88 z).toArray.toList = Cells.vals c88 z := by simp
    rw [e2] at n2
    rw [hw, hz] at n2
    have e12 : Ext w w2 := e1.step u2 (by rintro k rfl; omega)
    have hR2 := hR.ext e12
    exact hK b3 w2 ⟨n2, hR2.len, hR2.txt⟩ e12 (by omega)
end
end Go.Proofs.Ytocdfkeflakemaa
