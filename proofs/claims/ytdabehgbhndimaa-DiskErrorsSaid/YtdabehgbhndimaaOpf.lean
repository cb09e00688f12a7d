/- What New and Plan do. Conditions: the disk stands; the faults lie apart from the disk. -/
import Derived.Test.YtdabehgbhndimaaOpe
set_option linter.unusedSimpArgs false
set_option linter.unusedVariables false
namespace Go.Proofs.Ytdabehgbhndimaa
open Go Go.Vx Dsk
section
variable {w w' : World} {S F F' : Nat → Prop} {d m ms ml : Nat} {f : Dir} {fb : List Nat} {ds : List Sl} {fs : List Fl} {sa : Sl} {vs : List Value} {D : Dk} {pl : Option Nat} {p : Int → Option Fault} {N : Nat}

/-- an empty disk -/
def newD (space : Int) : Dk := ⟨space, [], fun _ => none, [], false, fun _ => none, 0⟩
theorem DirIn.made (h : w.heap[m]? = some (.map #[] 0)) : DirIn w m [] fun _ => none := ⟨⟨[], MapK.made m h, fun _ => rfl⟩, fun _ _ h => by cases h⟩
theorem new_call {space : Int} (h0 : 0 ≤ space) (h1 : space ≤ 1048576) {K : (Option Addr × Value × Unit) → World → Prop}
    (hK : ∀ d F w', DiskIn w' d F (newD space) → Ext w w' → (∀ k, F k → w.heap.size ≤ k) → K (some (at0 d), .nilIface, ()) w') : callT Try.prog 33 #[.int .i64 space] (.tup [(.one .ptr), (.one .any)]) K w := by
  refine F33_calls ?_
  unfold F33
  refine join_at (false, ()) (sif_r (fun h => absurd (of_decide_eq_true h) (by omega)) fun _ => ⟨tupb ?_, rfl⟩) (sif_false ?_)
  · simp; omega
  · refine newO_r fun b4 w1 e1 n1 hb4 hz1 => newO_r fun b5 w2 e2 n2 hb5 hz2 => newO_r fun b6 w3 e3 n3 hb6 hz3 => ?_
    have g4 : w3.heap[b4]? = some (.map #[] 0) := (e2.trans e3).ext_get n1
    have g5 : w3.heap[b5]? = some (.map #[] 0) := e3.ext_get n2
    refine hK b6 (fun k => k = b4 ∨ k = b5 ∨ k = b6) w3 ⟨b4, b5, ⟨none, 0, 0⟩, none, [], [], [], n3, DirIn.made g4, DirIn.made g5, ⟨rfl, rfl, List.nodup_nil, fun i j s t _ hs => by simp at hs, fun i b s f hb => by simp at hb⟩, ⟨SlOwn.nil _ _ _ _, rfl, fun i v a hv => by simp at hv⟩, .inl ⟨rfl, fun _ => rfl⟩, by omega, by simp, by simp, .inr (.inr rfl), .inl rfl, .inr (.inl rfl), fun b hb => by simp at hb, fun s hs => by simp at hs, (fun k ⟨q, hq, _⟩ => by cases hq), fun k hk => ?_⟩ ((e1.trans e2).trans e3) fun k hk => by omega
    have l4 := lt_of_heap g4
    have l5 := lt_of_heap g5
    have l6 := lt_of_heap n3
    rcases hk with rfl | rfl | rfl <;> assumption

/-- the plan's map turns -/
theorem DiskAt.plan_set {p' : Int → Option Fault} (A : DiskAt w d F D ms ml sa (some m) vs fb ds) (u : Upd (fun k => k = m) w w') (hp : PlanIn w' F' (some m) p') (hF : ∀ k, F k → F' k) (hl : ∀ k, F' k → k < w'.heap.size) :
    DiskAt w' d F' { D with plan := p' } ms ml sa (some m) vs fb ds := by
  obtain ⟨o, c, hm⟩ := A.plan.map_at
  have no : ∀ t : TypeId, NoTy w (fun k => k = m) t := fun t => NoTy.map hm
  refine ⟨u.get A.box fun e => ?_, A.seen.upd u fun e => A.nes (by rw [e]), A.lasts.upd u fun e => A.nel (by rw [e]), A.files.ty u (no _) (no _), A.acts.ty u (no _) (no _) (no _) (no _) hF, hp, A.ne, A.nes, A.nel, hF _ A.fd, hF _ A.fms, hF _ A.fml, fun b hb => hF _ (A.ffb b hb), fun s hs k hk => hF _ (A.fds s hs k hk), fun k hk => hF _ (A.fsa k hk), hl⟩
  have hb := A.box
  rw [e, hm] at hb; cases hb

/-- a list of faults, all of its blocks with P -/
structure FaultsIn (w : World) (P : Nat → Prop) (x : Sl) (rows : List (Cells.T c74)) (fl : List (Int × Fault)) : Prop where
  row : SlX w x 5 (flat c74 rows)
  blk : Lie P x
  len : rows.length = fl.length
  at_ : ∀ (i : Nat) (r : Cells.T c74) (f : Int × Fault), rows[i]? = some r → fl[i]? = some f → r.1 = f.1 ∧ r.2.1 = f.2.kind ∧ r.2.2.1 = f.2.part ∧ r.2.2.2.1 = f.2.names ∧ SlX w r.2.2.2.2.1 1 (iv f.2.bytes) ∧ f.2.bytes.length ≤ 2 ^ 44 ∧ Lie P r.2.2.2.2.1

theorem FaultsIn.upd {P : Nat → Prop} {x : Sl} {rows : List (Cells.T c74)} {fl : List (Int × Fault)} (h : FaultsIn w P x rows fl) (u : Upd S w w') (hS : ∀ k, P k → ¬ S k) : FaultsIn w' P x rows fl :=
  ⟨SlX.updL h.row h.blk u hS, h.blk, h.len, fun i r f hr hf => let ⟨a, b, c, e, g, g', g''⟩ := h.at_ i r f hr hf; ⟨a, b, c, e, SlX.updL g g'' u hS, g', g''⟩⟩

theorem planOf_snoc (l : List (Int × Fault)) (x : Int × Fault) (f : Int → Option Fault) : planOf (l ++ [x]) f = (if ((planOf l f) x.1).isSome = true ∨ x.2.kind < 1 ∨ x.2.kind > 5 then planOf l f else fun k => if k = x.1 then some x.2 else planOf l f k) := by
  induction l generalizing f with
  | nil => rfl
  | cons y r ih => simp only [List.cons_append, planOf]; exact ih _

theorem plan_call (A : DiskIn w d F D) {x : Sl} {rows : List (Cells.T c74)} {fl : List (Int × Fault)} (hx : FaultsIn w (fun k => k < w.heap.size ∧ ¬ F k) x rows fl) (hl : fl.length ≤ 2 ^ 60) {K : Unit → World → Prop}
    (hK : ∀ F' w', DiskIn w' d F' (plan D fl) → Upd F w w' → (∀ k, F' k → F k ∨ w.heap.size ≤ k) → K () w') :
    callT Try.prog 19 #[.pointer (some (at0 d)), .slice x.a x.len x.cap] (.tup []) K w := by
  obtain ⟨ms, ml, sa, pl, vs, fb, ds, A⟩ := A
  refine F19_calls ?_
  unfold F19
  refine newO_r fun b1 w1 e1 n1 hb1 hz1 => nn_some ?_
  rw [addr_add]
  refine stC_r (e1.ext_get A.box) (by simp) fun w2 u2 n2 hz2 => nn_some ?_
  rw [addr_add]
  refine stC_r n2 (by simp) fun w3 u3 n3 hz3 => ?_
  have u : Upd (fun k => k = d) w w3 := ((Upd.of_ext e1).trans u2).trans u3
  have hdl := lt_of_heap A.box
  have hxl : rows.length = x.len := hx.row.lenR (by decide)
  have A3 : DiskAt w3 d (fun k => F k ∨ k = b1) { D with plan := fun _ => none, steps := 0 } ms ml sa (some b1) vs fb ds := by
    have no : ∀ t : TypeId, 91 ≠ t → NoTy w (fun k => k = d) t := fun t ht => NoTy.box A.box ht
    have nm : ∀ m, (∃ o c, w.heap[m]? = some (.map o c)) → ¬ (fun k => k = d) m := by
      rintro m ⟨o, c, hm⟩ rfl
      rw [A.box] at hm; cases hm
    have nb : ∀ k, F k → k ≠ b1 := fun k hk e => by have := A.lt k hk; omega
    have n1' : w3.heap[b1]? = some (.map #[] 0) := (u2.trans u3).get n1 (by omega)
    refine ⟨by rw [n3]; simp [dbox], A.seen.upd u (nm _ A.seen.map_at), A.lasts.upd u (nm _ A.lasts.map_at), A.files.ty u (no _ (by decide)) (no _ (by decide)), A.acts.ty u (no _ (by decide)) (no _ (by decide)) (no _ (by decide)) (no _ (by decide)) fun _ h => .inl h, .inr ⟨b1, [], rfl, .inr rfl, MapK.made b1 n1', fun k => trivial⟩, A.ne, (fun e => nb ms A.fms (by cases e; rfl)), (fun e => nb ml A.fml (by cases e; rfl)), .inl A.fd, .inl A.fms, .inl A.fml, fun b hb => .inl (A.ffb b hb), fun s hs k hk => .inl (A.fds s hs k hk), fun k hk => .inl (A.fsa k hk), fun k hk => ?_⟩
    rcases hk with hk | hk
    · exact Nat.lt_of_lt_of_le (A.lt k hk) u.size
    · rw [hk]; exact lt_of_heap n1'
  have hF3 : Upd F w w3 := u.mono fun k _ e => by rw [e]; exact A.fd
  refine sloop_r (fun s W => ∃ (j : Nat) (F1 : Nat → Prop), s = ((j : Int), ()) ∧ j ≤ rows.length ∧ DiskAt W d F1 { D with plan := planOf (fl.take j) fun _ => none, steps := 0 } ms ml sa (some b1) vs fb ds ∧ Upd F w W ∧ ∀ k, F1 k → F k ∨ w.heap.size ≤ k) (fun s _ => rows.length - s.1.toNat) ⟨0, _, rfl, Nat.zero_le _, A3, hF3, fun k hk => hk.imp id fun h => by omega⟩ ?_
  rintro _ W ⟨j, F1, rfl, hj, AW, uW, hFW⟩
  dsimp only
  have hlen := hx.len
  refine sif_r (fun h => ?_) (fun h => ?_)
  · have h : j < rows.length := by have := of_decide_eq_true h; omega
    obtain ⟨r, hr⟩ : ∃ r, rows[j]? = some r := ⟨_, List.getElem?_eq_getElem h⟩
    obtain ⟨g, hg⟩ : ∃ g, fl[j]? = some g := ⟨_, List.getElem?_eq_getElem (by omega)⟩
    have xW := hx.upd uW fun k hk => hk.2
    obtain ⟨q1, q2, q3, q4, q5, q6, q7⟩ := xW.at_ j r g hr hg
    have ew : IntKind.wrap .i64 ((j : Int) + 1) = ((j + 1 : Nat) : Int) := by rw [IntWalk.i64_in _ ⟨by omega, by omega⟩]; omega
    have htk : fl.take (j + 1) = fl.take j ++ [g] := by rw [List.take_add_one, hg]; rfl
    have hpl := planOf_snoc (fl.take j) g fun _ => none
    rw [← htk] at hpl
    generalize hp0 : planOf (fl.take j) (fun _ => none) = p0 at hpl AW
    refine join_r (fun _ W' => ∃ F2, DiskAt W' d F2 { D with plan := planOf (fl.take (j + 1)) fun _ => none, steps := 0 } ms ml sa (some b1) vs fb ds ∧ Upd F w W' ∧ ∀ k, F2 k → F k ∨ w.heap.size ≤ k) (ix_ldsX (cs := c74) xW.row (by decide) (by omega) (by simpa using hr) fun _ => ?_) ?_
    · refine (St.start W).newAgg rfl rfl rfl fun b10 w4 S4 e4 => S4.drew fun w5 S5 e5 _ => nn_some ?_
      rw [addr_add]
      have A5 := (AW.ext e4).ext e5
      refine ld_r A5.box (x := some b1) rfl (S5.ld 0 (x := r.1) rfl rfl ?_)
      obtain ⟨m, es, hm1, hm2, hm3, hm4⟩ : ∃ m es, some b1 = some m ∧ F1 m ∧ MapK Key.int w5 m es ∧ ∀ k, FaultIn w5 F1 k (kget es k) (p0 k) := by
        rcases A5.plan with ⟨h, _⟩ | h
        · cases h
        · exact h
      cases hm1
      obtain ⟨y, hy, hy1⟩ : ∃ y : (Int × Int × Int × Int × Sl × Unit) × Bool × Unit, (∀ W2, Ext w5 W2 → (Instr.lookup 89 (.map (some b1)) (.int .i64 r.1) true).run Try.prog W2 = .ok (RTy.val (.tup [(.agg c74), (.one .bool)]) y) W2) ∧ y.2.1 = (p0 g.1).isSome := by
        have h4 := hm4 r.1
        have hr2 : ∀ W2, Ext w5 W2 → _ := fun W2 e => lookupK_run MP (hm3.upd e id) r.1
        rw [← q1]
        generalize hv : kget es r.1 = v at hr2 h4
        generalize hp : p0 r.1 = q at h4 ⊢
        match v, q, h4 with
        | none, none, _ => exact ⟨((0, 0, 0, 0, ⟨none, 0, 0⟩, ()), false, ()), hr2, rfl⟩
        | some _, some f, ⟨s, rfl, hs, hb, _⟩ => exact ⟨((r.1, f.kind, f.part, f.names, s, ()), true, ()), hr2, rfl⟩
      refine ⟨y, hy _ (Ext.refl _), ?_⟩
      refine S5.newO' fun b15 w6 S6 e6 hb15 => keep_r (hy _ e6) (S6.keep 1 rfl rfl (keep_r (cell_of (A5.ext e6).box rfl) (S6.aggSt 0 rfl rfl rfl rfl fun w7 S7 u7 => ?_)))
      have e57 : Ext w5 w7 := e6.new u7 fun k hk e => by omega
      have A7 := A5.ext e57
      have e47 : Ext W w7 := (e4.trans e5).trans e57
      refine join_at (decide ((p0 g.1).isSome = true ∨ g.2.kind < 1 ∨ g.2.kind > 5), ()) (sif_r (fun h => ⟨tupb ?_, rfl⟩) fun h => S7.ld 1 (off := 1) (x := r.2.1) rfl rfl (sif_r (fun h2 => ⟨tupb ?_, rfl⟩) fun h2 => S7.ld 1 (off := 1) (x := r.2.1) rfl rfl ⟨tupb ?_, rfl⟩)) (sif_r (fun h => ?_) fun h => ?_)
      · rw [hy1] at h; simp [h]
      · have h2 := of_decide_eq_true h2
        rw [q2] at h2; simp [h2]
      · have h2 := of_decide_eq_false h2
        rw [hy1] at h; rw [q2] at h2 ⊢; simp [h, h2]
      · have h := of_decide_eq_true h
        rw [if_pos h] at hpl
        exact ⟨F1, by rw [hpl]; exact AW.ext e47, uW.trans (Upd.of_ext e47), hFW⟩
      · have h := of_decide_eq_false h
        rw [if_neg h] at hpl
        refine S7.ld 1 (off := 4) (x := r.2.2.2.2.1) rfl rfl (cloneI_call (SlX.ext q5 e47) q6 fun s' w8 hs' e8 => ?_)
        refine (S7.ext e8).stC 1 (off := 4) rfl (by simp [Cells.vals]) fun w9 S9 u9 => S9.drew fun w10 S10 e10 _ => nn_some ?_
        have g10 := S7.ge 1 rfl
        have eAll : Ext W w10 := ((e47.trans e8).new u9 fun k hk e => by have e : k = b10 := e; omega).trans e10
        have A10 := AW.ext eAll
        have hs10 : Ints w10 s' g.2.bytes := ((hs'.box ((S7.ext e8).at_ 1 rfl) (by decide) u9).ext e10).in
        rw [addr_add]
        refine ld_r A10.box (x := some b1) rfl (S10.ld 1 (off := 0) (x := r.1) rfl rfl (S10.lds 1 (cs := c74) (r.1, r.2.1, r.2.2.1, r.2.2.2.1, s', ()) rfl ?_))
        obtain ⟨m, es, hm1, hm2, hm3, hm4⟩ : ∃ m es, some b1 = some m ∧ F1 m ∧ MapK Key.int w10 m es ∧ ∀ k, FaultIn w10 F1 k (kget es k) (p0 k) := by
          rcases A10.plan with ⟨h, _⟩ | h
          · cases h
          · exact h
        cases hm1
        obtain ⟨es', w11, hrun, hm', hget, u11, hz11, _⟩ := updateK_run MP hm3 r.1 (.agg (Cells.vals c74 (r.1, r.2.1, r.2.2.1, r.2.2.2.1, s', ())).toArray)
        obtain ⟨o, c, hmap⟩ := MapK.heap_at hm3
        have no : ∀ t : TypeId, NoTy w10 (fun k => k = b1) t := fun t => NoTy.map hmap
        have hp' : PlanIn w11 (fun k => F1 k ∨ s'.blk k) (some b1) (planOf (fl.take (j + 1)) fun _ => none) := by
          rw [hpl]
          refine .inr ⟨b1, es', rfl, .inl hm2, hm', fun k => ?_⟩
          rw [hget]
          show FaultIn _ _ k _ (if k = g.1 then some g.2 else p0 k)
          by_cases hk : k = r.1
          · rw [if_pos hk, if_pos (by rw [hk, q1]), hk]
            refine ⟨s', ?_, hs10.ty u11 (no _), fun k hk => .inr hk, by omega⟩
            show Value.agg #[.int .i64 r.1, .int .i64 r.2.1, .int .i64 r.2.2.1, .int .i64 r.2.2.2.1, sv s'] = _
            rw [q2, q3, q4]
          · rw [if_neg hk, if_neg (by rw [← q1]; exact hk)]
            exact (hm4 k).upd u11 (no _) fun _ h => .inl h
        have hz := eAll.size
        have hz7 := e47.size
        refine ⟨w11, hrun, fun k => F1 k ∨ s'.blk k, A10.plan_set u11 hp' (fun _ h => .inl h) fun k hk => ?_, (uW.trans (Upd.of_ext eAll)).new u11 fun k hk e => ?_, fun k hk => hk.elim (hFW k) fun h => .inr ?_⟩
        · rcases hk with hk | hk
          · rw [hz11]; exact A10.lt k hk
          · rw [hz11]; exact hs10.blk_lt hk
        · subst e; exact (hFW k hm2).resolve_right (by omega)
        · have := hs'.blk_ge h
          have := uW.size
          omega
    · rintro _ W' ⟨F2, h1, h2, h3⟩
      rw [ew]
      exact ⟨⟨j + 1, F2, rfl, h, h1, h2, h3⟩, by simp only [Int.toNat_natCast]; omega⟩
  · have h : ¬ j < rows.length := by have := of_decide_eq_false h; omega
    have hj : fl.take j = fl := List.take_of_length_le (by omega)
    rw [hj] at AW
    exact hK F1 W AW.in uW hFW
end
end Go.Proofs.Ytdabehgbhndimaa
