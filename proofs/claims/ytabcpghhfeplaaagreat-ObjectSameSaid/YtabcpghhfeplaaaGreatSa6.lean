/- The law holds for every input: it returns true, and each argument reads behind the call as it did. Conditions: those of the form alone. -/
import Derived.Test.YtabcpghhfeplaaaGreatSa5
set_option linter.unusedVariables false
set_option linter.unusedSimpArgs false
set_option linter.unusedSectionVars false
set_option linter.unusedSimpArgs false
set_option linter.unusedVariables false
set_option maxRecDepth 100000
namespace Go.Proofs.YtabcpghhfeplaaaGreat
open Go Go.Vx Cdc Trx Gly Clu Lns Obx
section
variable {w w' : World} {S : Nat → Prop} {p : Nat} {e : Enc} {lim na : Nat} {O : Nat → Prop} {M : Parts}
theorem eLines : ElemOk Tryz.prog 95 100 4 32 := ElemOk.of (z := .agg #[.int .i64 0, .int .i64 0, .int .i64 0, .int .i64 0]) i95_ok i100_ok rfl rfl rfl (by decide)
theorem ln_one (l : Ln) : ∀ v ∈ flat c100 [lnT l], isOne v = true := by
  intro v hv
  rw [flat_one] at hv
  have h : v ∈ [_, _, _, _] := hv
  simp only [List.mem_cons, List.not_mem_nil, or_false] at h
  rcases h with rfl | rfl | rfl | rfl <;> rfl
theorem sortsP_len (A : List Int) : (sortsP A).length = lnN A ∧ (lnAll A).length = lnN A := by
  unfold sortsP lnAll
  simp
theorem lnAll_get {A : List Int} {j : Nat} (hj : j < lnN A) : (lnAll A)[j]? = some ((lnAt A j).getD ⟨0, 0, 0, 0⟩) := by
  unfold lnAll
  rw [List.getElem?_map, List.getElem?_range hj]; rfl
theorem sortX_paras {L : List Nat} {r : Sl} {b : Nat} (hr : SlIn w r 3 1 (nv L)) (hb : w.heap[b]? = some (.cells #[.slice r.a r.len r.cap] 26 (0, 0))) :
    SortX w (.func (.func 60) #[] #[.pointer (some (at0 b))]) L := by
  intro W i so K e hs hK
  refine func_x (caps := #[.pointer (some (at0 b))]) (by kernel_rfl) ?_
  refine F60_calls ?_
  unfold F60
  have nvi : nv L = (L.map fun (n : Nat) => (n : Int)).map (Cell.int .i64).val := by rw [List.map_map]; rfl
  rw [nvi] at hr
  exact ld_r (e.ext_get hb) (x := r) rfl (ix_ld (c := .int .i64) (hr.ext e) (by omega) (x := (so : Int)) (by rw [Int.toNat_natCast, List.getElem?_map, hs]; rfl) fun q => hK W (Ext.refl W))
set_option maxHeartbeats 1000000 in
theorem paras_call {at_ kind count arg : Int} (h : Txt w p e lim na O M) (hcn : count < 2 ^ 63) {K : Cells.T c34 × Int × Unit → World → Prop} (hK : ∀ w', Ext w w' → K (spT (parasP (atoms (aOf e M)) at_ kind count).1, (parasP (atoms (aOf e M)) at_ kind count).2, ()) w') :
    callT Tryz.prog 33 #[.pointer (some (at0 p)), .int .i64 at_, .agg (Cells.vals c39 (mvT kind count arg)).toArray] (.tup [(.agg c34), (.one (.int .i64))]) K w := by
  refine F33_calls (a2 := mvT kind count arg) ?_
  unfold F33
  have few := h.few; have lims := h.lims
  have hal := hal e M
  obtain ⟨A, hA⟩ : ∃ A, A = atoms (aOf e M) := ⟨_, rfl⟩
  rw [← hA] at hal
  rw [← hA] at hK
  unfold parasP at hK
  rw [hal] at hK
  let Pt : Obj := .cells #[.pointer (some (at0 p))] 25 (0, 0)
  let Mv : Obj := .cells (Cells.vals c39 (mvT kind count arg)).toArray 39 (0, 0)
  let Z : Obj := .cells #[.int .i64 0, .int .i64 0, .int .i64 0] 34 (0, 0)
  refine (St.start w).newO fun b1 w1 S1 e1 => S1.newO fun b2 w2 S2 e2 => S2.newO fun b3 w3 S3 e3 => ?_
  have S3 : St (fun _ => False) w w3 [(b3, Z), (b2, Mv), (b1, Pt)] := S3
  refine S3.ld 2 rfl (x := some (at0 p)) rfl (S3.lds 1 (mvT kind count arg) rfl (checked_call (h.ext S3.upd) fun w4 e4 => ?_))
  have S4 := S3.ext e4
  generalize hck : checked (aOf e M).length at_ kind count 69 70 = ck at *
  have fin : ∀ {W : World} {s : Int × Int × Int} {n : Int}, St (fun _ => False) w W [(b3, Z), (b2, Mv), (b1, Pt)] → (∀ w', Ext w w' → K (spT s, n, ()) w') → aggSt (at0 b3) (.agg #[.int .i64 s.1, .int .i64 s.2.1, .int .i64 s.2.2]) 3 (lds c34 (at0 b3) fun x => K (x, n, ())) W := fun {W s n} SW hk =>
    SW.aggSt 0 rfl rfl rfl rfl fun w1 S1 _ => S1.lds 0 (spT s) rfl (hk w1 S1.upd)
  refine sif_r (fun h0 => ?_) (fun h0 => ?_)
  · simp only [bne_iff_ne, ne_eq] at h0
    rw [if_pos h0] at hK
    exact fin (s := (0, 0, 0)) S4 hK
  simp only [bne_eq_false_iff_eq] at h0
  rw [if_neg (by rw [h0]; decide)] at hK
  have hat : 0 ≤ at_ ∧ at_ ≤ ((aOf e M).length : Int) := by
    unfold checked at hck
    split at hck
    · omega
    · split at hck <;> omega
  have hbrs : brs A ≤ A.length := by rw [brs_nb]; exact nb_le _ _
  have hnl : lnN A ≤ A.length + 1 := by unfold lnN; split <;> omega
  refine S4.ld 2 rfl (x := some (at0 p)) rfl (lof_call (h.ext S4.upd) fun w5 e5 => ?_)
  rw [← hA]
  generalize nb A at_.toNat = i at *
  have S5 := S4.ext e5
  refine S5.ld 2 rfl (x := some (at0 p)) rfl (lcount_call (h.ext S5.upd) fun w6 e6 => ?_)
  rw [← hA]
  have S6 := S5.ext e6
  refine sif_r (fun h1 => ?_) (fun h1 => ?_)
  · simp only [decide_eq_true_eq, ge_iff_le] at h1
    rw [if_pos (by omega)] at hK
    exact fin (s := (0, 0, 0)) S6 hK
  simp only [decide_eq_false_iff_not, ge_iff_le] at h1
  rw [if_neg (by omega)] at hK
  refine S6.newO fun b13 w7 S7 e7 => S7.newO fun b14 w8 S8 e8 => ?_
  let B13 : Sl → Obj := fun r => .cells #[.slice r.a r.len r.cap] 95 (0, 0)
  let B14 : Sl → Obj := fun r => .cells #[.slice r.a r.len r.cap] 26 (0, 0)
  let Ls : Sl → Sl → List (Nat × Obj) := fun r1 r2 => [(b14, B14 r2), (b13, B13 r1), (b3, Z), (b2, Mv), (b1, Pt)]
  have S8 : St (fun _ => False) w w8 (Ls ⟨none, 0, 0⟩ ⟨none, 0, 0⟩) := S8
  refine S8.ld 4 rfl (x := some (at0 p)) rfl ?_
  refine F59_calls ?_
  unfold F59
  refine S8.newO fun ba w9 S9 e9 => ?_
  have hba : w9.heap[ba]? = some (.cells #[.pointer (some (at0 p))] 25 (0, 0)) := S9.at_ 0 rfl
  have S9 : St (fun _ => False) w w9 (Ls ⟨none, 0, 0⟩ ⟨none, 0, 0⟩) := S9.tail
  have hbal := lt_of_heap hba
  have lt9 : ∀ x ∈ Ls ⟨none, 0, 0⟩ ⟨none, 0, 0⟩, x.1 < w9.heap.size := S9.lt
  have hb14 := lt9 _ (List.mem_cons_self)
  have hb13 := lt9 (b13, B13 ⟨none, 0, 0⟩) (by simp [Ls])
  have hsz : w.heap.size ≤ w9.heap.size := S9.upd.size
  have tx9 := h.ext S9.upd
  let Inv : Nat → World → Prop := fun j W => ∃ r1 r2, St (fun _ => False) w W (Ls r1 r2) ∧ SlOwn W w9.heap.size r1 100 4 (flat c100 (((lnAll A).take j).map lnT)) ∧ SlOwn W w9.heap.size r2 3 1 (nv ((sortsP A).take j)) ∧
    W.heap[ba]? = some (.cells #[.pointer (some (at0 p))] 25 (0, 0)) ∧ W.heap[w9.heap.size]? = some (.deferred (some []))
  obtain ⟨hsl, hal'⟩ := sortsP_len A
  have invE : ∀ j W W', Inv j W → Ext W W' → Inv j W' := by
    rintro j W W' ⟨r1, r2, g1, g2, g3, g4, g5⟩ x
    exact ⟨r1, r2, g1.ext x, g2.ext x, g3.ext x, x.ext_get g4, x.ext_get g5⟩
  have invL : ∀ {j : Nat} {W W' : World}, Inv j W → Upd (fun k => k = w9.heap.size + 1) W W' → (∀ o, W.heap[w9.heap.size + 1]? = some o → ∃ lo, o = .loop lo) → Inv j W' := by
    rintro j W W' ⟨r1, r2, g1, g2, g3, g4, g5⟩ u hlo
    have nt : ∀ t, NoTy W (fun k => k = w9.heap.size + 1) t := by
      rintro t k rfl c fr hc
      obtain ⟨lo, hh⟩ := hlo _ hc
      cases hh
    refine ⟨r1, r2, g1.fresh u (fun k hk => .inr (by omega)) (fun x hx hk => ?_), g2.ty u (nt _), g3.ty u (nt _), u.get g4 (by omega), u.get g5 (by omega)⟩
    have hx9 : x.1 < w9.heap.size := by
      have : x.1 ∈ (Ls ⟨none, 0, 0⟩ ⟨none, 0, 0⟩).map (·.1) := List.mem_map.2 ⟨x, hx, rfl⟩ |> fun h => by simpa [Ls] using h
      obtain ⟨y, hy, he⟩ := List.mem_map.1 this
      rw [← he]; exact lt9 y hy
    omega
  subst hA
  refine all_range (p := p) (e := e) (lim := lim) (na := na) (O := O) (M := M) (b1 := ba) (fun s => rfl) Inv ?_ invE ?_ ?_ ?_
  · rintro j W ⟨r1, r2, g1, g2, g3, g4, g5⟩
    exact ⟨h.ext g1.upd, g4, g5⟩
  · intro W x hd _
    exact ⟨_, _, S9.ext x, SlOwn.nil _ _ _ _, SlOwn.nil _ _ _ _, x.ext_get hba, hd⟩
  ·
    rintro rc j l R W hj hl ⟨r1, r2, g1, g2, g3, g4, g5⟩ hlp hR
    have hok := ln_ok hl
    have ft := hok.ft; have tn := hok.tn; have nl := hok.nl
    have hjl : (lnAll (atoms (aOf e M)))[j]? = some l := by rw [lnAll_get hj, hl]; rfl
    have hjs : (sortsP (atoms (aOf e M)))[j]? = some (sortLn (atoms (aOf e M)) l) := by unfold sortsP; rw [List.getElem?_map, hjl]; rfl
    have l1 := SlOwn.lenR (cs := c100) g2 (by decide)
    rw [List.length_map, List.length_take] at l1
    have l2 := g3.len1
    rw [List.length_map, List.length_take] at l2
    refine g1.newO' fun b22 W1 T1 x1 hb22 => T1.aggSt 0 rfl rfl rfl rfl fun W2 T2 u2 => ?_
    have x2 : Ext W W2 := x1.step u2 fun k hk => by omega
    have lp2 := x2.ext_get hlp
    refine ⟨lp2, ?_⟩
    obtain ⟨u3, lp3⟩ := upd_putObj (o' := .loop (rc .busy none)) lp2
    generalize W2.putObj (w9.heap.size + 1) (.loop (rc .busy none)) = W3 at *
    let Ls' : Sl → Sl → List (Nat × Obj) := fun r1 r2 => (b22, .cells (Cells.vals c100 (lnT l)).toArray 100 (0, 0)) :: Ls r1 r2
    have hlW : w9.heap.size + 1 < W.heap.size := lt_of_heap hlp
    have nt3 : ∀ t, NoTy W2 (fun k => k = w9.heap.size + 1) t := by
      rintro t k rfl c fr hc
      rw [lp2] at hc; cases hc
    have T3 : St (fun _ => False) w W3 (Ls' r1 r2) := by
      refine St.fresh (ls := Ls' r1 r2) T2 u3 (fun k hk => .inr (by omega)) (fun x hx hk => ?_)
      rcases List.mem_cons.1 hx with rfl | hx
      · simp only at hk; omega
      · have : x.1 ∈ (Ls ⟨none, 0, 0⟩ ⟨none, 0, 0⟩).map (·.1) := List.mem_map.2 ⟨x, hx, rfl⟩ |> fun h => by simpa [Ls] using h
        obtain ⟨y, hy, he⟩ := List.mem_map.1 this
        have := lt9 y hy
        omega
    have o1 : SlOwn W3 w9.heap.size r1 100 4 (flat c100 (((lnAll (atoms (aOf e M))).take j).map lnT)) := (g2.ext x2).ty u3 (nt3 _)
    have o2 : SlOwn W3 w9.heap.size r2 3 1 (nv ((sortsP (atoms (aOf e M))).take j)) := (g3.ext x2).ty u3 (nt3 _)
    have d3 : W3.heap[w9.heap.size]? = some (.deferred (some [])) := u3.get (x2.ext_get g5) (by omega)
    have a3 : W3.heap[ba]? = some (.cells #[.pointer (some (at0 p))] 25 (0, 0)) := u3.get (x2.ext_get g4) (by omega)
    have lt1 : ∀ k, r1.blk k → k < W.heap.size := fun k hk => g2.in.blk_lt hk
    have lt2 : ∀ k, r2.blk k → k < W.heap.size := fun k hk => g3.in.blk_lt hk
    have s3 : W.heap.size ≤ W3.heap.size := by have := x2.size; have := u3.size; omega
    refine join_r (fun x W' => x = (((sortLn (atoms (aOf e M)) l : Nat) : Int), ()) ∧ Ext W3 W') ?_ ?_
    · refine T3.ld 5 rfl (x := some (at0 p)) rfl (T3.ld 0 rfl (x := (l.from_ : Int)) rfl (T3.ld 0 rfl (x := (l.to_ : Int)) rfl ?_))
      refine atoms_call (h.ext T3.upd) fun s W4 o4 x4 => ?_
      rw [sub_nat] at o4
      refine cells_call (off := 0) o4.in (by rw [List.length_take, List.length_drop]; omega) (by decide) fun s2 W5 o5 x5 _ => ?_
      unfold sortLn
      have hcl := cels_le (((atoms (aOf e M)).drop l.from_).take (l.to_ - l.from_)) 0
      rw [List.length_take, List.length_drop] at hcl
      generalize cels (((atoms (aOf e M)).drop l.from_).take (l.to_ - l.from_)) 0 = C at *
      have hCl := CelIn.lenC o5
      refine sloop_r (fun x W' => ∃ q : Nat, q ≤ C.length ∧ x = (0, (q : Int), ()) ∧ Ext W5 W' ∧ (C.take q).any (fun c => c.kind != 0) = false) (fun x _ => ((C.length : Int) - x.2.1).toNat) ⟨0, Nat.zero_le _, rfl, Ext.refl _, rfl⟩ ?_
      rintro _ W6 ⟨q, hq, rfl, x6, hno⟩
      refine sif_r (fun hc => ?_) (fun hc => ?_)
      · simp only [decide_eq_true_eq] at hc
        obtain ⟨c, hc'⟩ : ∃ c, C[q]? = some c := ⟨_, List.getElem?_eq_getElem (by omega)⟩
        refine ix_cel (o5.ext x6) hc' fun qq => (St.start W6).newO fun b34 W7 T7 x7 => T7.aggSt 0 rfl rfl rfl rfl fun W8 T8 u8 => T8.ld 0 rfl (x := (c.kind : Int)) rfl (sif_r (fun hk => ?_) (fun hk => ?_))
        · simp only [bne_iff_ne, ne_eq] at hk
          have hany : C.any (fun c => c.kind != 0) = true := by
            rw [List.any_eq_true]
            exact ⟨c, List.mem_of_getElem? hc', by rw [bne_iff_ne]; omega⟩
          exact ⟨by rw [if_pos hany]; rfl, (x4.trans x5).trans (x6.trans T8.upd)⟩
        · simp only [bne_eq_false_iff_eq] at hk
          have ew : IntKind.wrap .i64 ((q : Int) + 1) = ((q + 1 : Nat) : Int) := by rw [wrap64 (by omega) (by omega)]; omega
          rw [ew]
          refine ⟨⟨q + 1, by omega, rfl, x6.trans T8.upd, ?_⟩, by dsimp only; omega⟩
          rw [List.take_add_one, hc', List.any_append, hno]
          have : c.kind = 0 := by omega
          simp [this]
      · simp only [decide_eq_false_iff_not] at hc
        have : q = C.length := by omega
        subst this
        rw [List.take_length] at hno
        exact ⟨by rw [if_neg (by rw [hno]; decide)]; rfl, (x4.trans x5).trans x6⟩
    rintro _ W4 ⟨rfl, x4⟩
    generalize hso : sortLn (atoms (aOf e M)) l = so at *
    refine drew_r fun W5 x5 _ => ?_
    have x35 := x4.trans x5
    have T5 := T3.ext x35
    have st5 : W.heap.size ≤ W5.heap.size := Nat.le_trans s3 x35.size
    have stepL : ∀ {V : World} {r2' : Sl} {b : Nat} {J : Sl → World → Prop}, Ext W5 V → V.heap[b]? = some (.cells (Cells.vals c100 (lnT l)).toArray 100 (0, 0)) → St (fun _ => False) w V (Ls' r1 r2) →
        (∀ r1' V', SlOwn V' w9.heap.size r1' 100 4 (flat c100 (((lnAll (atoms (aOf e M))).take (j + 1)).map lnT)) → Upd r1.blk V V' → St (fun _ => False) w V' (Ls' r1 r2) → J r1' V') →
        rawT Tryz.prog (.one (.one .sl)) (Builtin.append_ #[95, 95] 95 #[.slice r1.a r1.len r1.cap, .slice (some (at0 b)) 1 1]) J V := by
      intro V _ b J xV hb SV hJ
      have hbox : SlX V ⟨some (at0 b), 1, 1⟩ 4 (flat c100 [lnT l]) := (SlIn.of_box hb (n := 1) (sz := 4) rfl).x
      refine append_rx eLines eLines.ts_ (x := ⟨some (at0 b), 1, 1⟩) ((o1.ext x35).ext xV) hbox (ln_one l) (by
        show (r1.len + 1 + (r1.len + 1) / 4 + 512) * 32 ≤ 2 ^ 48
        omega) (by have := xV.size; omega) fun r1' V' ov lv uv kv => hJ r1' V' ?_ uv ?_
      · have ee : flat c100 (((lnAll (atoms (aOf e M))).take j).map lnT) ++ flat c100 [lnT l] = flat c100 (((lnAll (atoms (aOf e M))).take (j + 1)).map lnT) := by
          rw [List.take_add_one, hjl, List.map_append, flat_append]; rfl
        rw [ee] at ov; exact ov
      · refine SV.fresh uv (fun k hk => .inr (by have := g2.blk_ge hk; omega)) (fun x hx hk => ?_)
        rcases List.mem_cons.1 hx with rfl | hx
        · have := lt1 _ hk; simp only at this; omega
        · have : x.1 ∈ (Ls ⟨none, 0, 0⟩ ⟨none, 0, 0⟩).map (·.1) := List.mem_map.2 ⟨x, hx, rfl⟩ |> fun h => by simpa [Ls] using h
          obtain ⟨y, hy, he⟩ := List.mem_map.1 this
          have h1 := lt9 y hy
          have h2 := g2.blk_ge hk
          omega
    have stepS : ∀ {V : World} {b : Nat} {J : Sl → World → Prop}, SlOwn V w9.heap.size r2 3 1 (nv ((sortsP (atoms (aOf e M))).take j)) → W.heap.size ≤ V.heap.size → V.heap[b]? = some (.cells #[.int .i64 (so : Int)] 3 (0, 0)) → St (fun _ => False) w V (Ls' r1 r2) →
        (∀ r2' V', SlOwn V' w9.heap.size r2' 3 1 (nv ((sortsP (atoms (aOf e M))).take (j + 1))) → Upd r2.blk V V' → St (fun _ => False) w V' (Ls' r1 r2) → J r2' V') →
        rawT Tryz.prog (.one (.one .sl)) (Builtin.append_ #[26, 26] 26 #[.slice r2.a r2.len r2.cap, .slice (some (at0 b)) 1 1]) J V := by
      intro V b J oV sV hb SV hJ
      refine append_rx eInts eInts.ts_ (x := ⟨some (at0 b), 1, 1⟩) oV (iv_box hb) (fun v hv => by rw [List.mem_singleton.1 hv]; rfl) (by
        show (r2.len + 1 + (r2.len + 1) / 4 + 512) * 8 ≤ 2 ^ 48
        omega) (by omega) fun r2' V' ov lv uv kv => hJ r2' V' ?_ uv ?_
      · have ee : nv ((sortsP (atoms (aOf e M))).take j) ++ [.int .i64 (so : Int)] = nv ((sortsP (atoms (aOf e M))).take (j + 1)) := by
          rw [List.take_add_one, hjs]; simp
        rw [ee] at ov; exact ov
      · refine SV.fresh uv (fun k hk => .inr (by have := g3.blk_ge hk; omega)) (fun x hx hk => ?_)
        rcases List.mem_cons.1 hx with rfl | hx
        · have := lt2 _ hk; simp only at this; omega
        · have : x.1 ∈ (Ls ⟨none, 0, 0⟩ ⟨none, 0, 0⟩).map (·.1) := List.mem_map.2 ⟨x, hx, rfl⟩ |> fun h => by simpa [Ls] using h
          obtain ⟨y, hy, he⟩ := List.mem_map.1 this
          have h1 := lt9 y hy
          have h2 := g3.blk_ge hk
          omega
    have finR : ∀ {V : World} {r1' r2' : Sl}, St (fun _ => False) w V (Ls' r1 r2) → SlOwn V w9.heap.size r1' 100 4 (flat c100 (((lnAll (atoms (aOf e M))).take (j + 1)).map lnT)) → SlOwn V w9.heap.size r2' 3 1 (nv ((sortsP (atoms (aOf e M))).take (j + 1))) →
        V.heap[w9.heap.size]? = some (.deferred (some [])) → V.heap[ba]? = some (.cells #[.pointer (some (at0 p))] 25 (0, 0)) → V.heap[w9.heap.size + 1]? = some (.loop (rc .busy none)) →
        stC (at0 b13) (.slice r1'.a r1'.len r1'.cap) (stC (at0 b14) (.slice r2'.a r2'.len r2'.cap) (endR (w9.heap.size + 1) rc none R)) V := by
      intro V r1' r2' SV q1 q2 q3 q4 q5
      refine SV.stC 2 rfl Nat.one_pos fun V1 SV1 uv1 => SV1.stC 1 rfl Nat.one_pos fun V2 SV2 uv2 => ?_
      have p1 := SlOwn.box (SlOwn.box q1 (SV.at_ 2 rfl) (by decide) uv1) (SV1.at_ 1 rfl) (by decide) uv2
      have p2 := SlOwn.box (SlOwn.box q2 (SV.at_ 2 rfl) (by decide) uv1) (SV1.at_ 1 rfl) (by decide) uv2
      have gg : ∀ {k : Nat} {o : Obj}, k ≠ b13 → k ≠ b14 → V.heap[k]? = some o → V2.heap[k]? = some o := fun h13 h14 ho => uv2.get (uv1.get ho h13) h14
      have p5 := gg (by omega) (by omega) q5
      refine ⟨⟨_, _, p5⟩, ?_⟩
      obtain ⟨uv3, lpv⟩ := upd_putObj (o' := .loop (rc .ready none)) p5
      refine hR _ (invL ⟨r1', r2', SV2.tail, p1, p2, gg (fun hc => by rw [hc] at q4; rw [SV.at_ 2 rfl] at q4; cases q4) (fun hc => by rw [hc] at q4; rw [SV.at_ 1 rfl] at q4; cases q4) q4, gg (by omega) (by omega) q3⟩ uv3 fun o ho => by rw [p5] at ho; cases ho; exact ⟨_, rfl⟩) lpv
    have d5 := x35.ext_get d3
    have a5 := x35.ext_get a3
    have lp5 := x35.ext_get lp3
    have keep1 : ∀ {V V' : World} {k : Nat} {o : Obj}, Upd r1.blk V V' → V.heap[k]? = some o → (∀ c fr, o ≠ .cells c 100 fr) → SlOwn V w9.heap.size r1 100 4 (flat c100 (((lnAll (atoms (aOf e M))).take j).map lnT)) → V'.heap[k]? = some o := by
      intro V V' k o u ho hc ov
      refine u.get ho fun hk => ?_
      obtain ⟨c, fr, hcc⟩ := ov.in.blk_cells hk
      rw [ho] at hcc
      exact hc c fr (Option.some.inj hcc)
    have keep2 : ∀ {V V' : World} {k : Nat} {o : Obj}, Upd r2.blk V V' → V.heap[k]? = some o → (∀ c fr, o ≠ .cells c 3 fr) → SlOwn V w9.heap.size r2 3 1 (nv ((sortsP (atoms (aOf e M))).take j)) → V'.heap[k]? = some o := by
      intro V V' k o u ho hc ov
      refine u.get ho fun hk => ?_
      obtain ⟨c, fr, hcc⟩ := ov.in.blk_cells hk
      rw [ho] at hcc
      exact hc c fr (Option.some.inj hcc)
    refine T5.ld 2 rfl (x := r1) rfl (T5.lds 0 (lnT l) rfl (T5.ld 1 rfl (x := r2) rfl ?_))
    have tail1 : ∀ {V' : World} {r1' : Sl} {b : Nat}, St (fun _ => False) w V' (Ls' r1 r2) → SlOwn V' w9.heap.size r1' 100 4 (flat c100 (((lnAll (atoms (aOf e M))).take (j + 1)).map lnT)) → V'.heap[b]? = some (.cells #[.int .i64 (so : Int)] 3 (0, 0)) → W.heap.size ≤ V'.heap.size →
        SlOwn V' w9.heap.size r2 3 1 (nv ((sortsP (atoms (aOf e M))).take j)) → V'.heap[w9.heap.size]? = some (.deferred (some [])) → V'.heap[ba]? = some (.cells #[.pointer (some (at0 p))] 25 (0, 0)) → V'.heap[w9.heap.size + 1]? = some (.loop (rc .busy none)) →
        rawT Tryz.prog (.one (.one .sl)) (Builtin.append_ #[26, 26] 26 #[.slice r2.a r2.len r2.cap, .slice (some (at0 b)) 1 1]) (fun x42 => stC (at0 b13) (.slice r1'.a r1'.len r1'.cap) (stC (at0 b14) (.slice x42.a x42.len x42.cap) (endR (w9.heap.size + 1) rc none R))) V' := by
      intro V' r1' b SV q1 hb sV q2 q3 q4 q5
      refine stepS q2 sV hb SV fun r2' V2 ov2 u2 SV2 => ?_
      exact finR SV2 (q1.ty u2 (fun k hk c fr hc => by
        obtain ⟨c', fr', hc'⟩ := q2.in.blk_cells hk
        rw [hc'] at hc; cases hc)) ov2 (keep2 u2 q3 (fun _ _ h => by cases h) q2) (keep2 u2 q4 (fun _ _ h => by cases h) q2) (keep2 u2 q5 (fun _ _ h => by cases h) q2)
    have after1 : ∀ {V V' : World}, Ext W5 V → Upd r1.blk V V' → SlOwn V' w9.heap.size r2 3 1 (nv ((sortsP (atoms (aOf e M))).take j)) ∧ V'.heap[w9.heap.size]? = some (.deferred (some [])) ∧ V'.heap[ba]? = some (.cells #[.pointer (some (at0 p))] 25 (0, 0)) ∧ V'.heap[w9.heap.size + 1]? = some (.loop (rc .busy none)) := by
      intro V V' xV uV
      have ov := (o1.ext x35).ext xV
      exact ⟨((o2.ext x35).ext xV).ty uV (fun k hk c fr hc => by
        obtain ⟨c', fr', hc'⟩ := ov.in.blk_cells hk
        rw [hc'] at hc; cases hc), keep1 uV (xV.ext_get d5) (fun _ _ h => by cases h) ov, keep1 uV (xV.ext_get a5) (fun _ _ h => by cases h) ov, keep1 uV (xV.ext_get lp5) (fun _ _ h => by cases h) ov⟩
    refine ⟨?_, ?_⟩
    ·
      refine T5.newO' fun b39 V1 SV1 xv1 hb39 => SV1.keep 2 rfl (v := .slice r2.a r2.len r2.cap) rfl (SV1.keeps 1 (x := lnT l) rfl (SV1.keep 3 rfl (v := .slice r1.a r1.len r1.cap) rfl ?_))
      refine SV1.newO fun b40 V2 SV2 xv2 => SV2.keep 3 rfl (v := .slice r2.a r2.len r2.cap) rfl (SV2.keep 4 rfl (v := .slice r1.a r1.len r1.cap) rfl ?_)
      have xv := xv1.trans xv2
      refine stepL (r2' := r2) xv (SV2.at_ 0 rfl) SV2.tail.tail fun r1' V3 ov3 u3 SV3 => SV3.keep 1 rfl (v := .slice r2.a r2.len r2.cap) rfl ?_
      obtain ⟨z1, z2, z3, z4⟩ := after1 xv u3
      exact tail1 SV3 ov3 (keep1 u3 (SV2.at_ 1 rfl) (fun _ _ h => by cases h) ((o1.ext x35).ext xv)) (by have := xv.size; have := u3.size; omega) z1 z2 z3 z4
    · refine T5.newO fun b43 V1 SV1 xv1 => SV1.keep 2 rfl (v := .slice r2.a r2.len r2.cap) rfl (SV1.keep 3 rfl (v := .slice r1.a r1.len r1.cap) rfl ⟨?_, ?_⟩)
      · refine SV1.newO' fun b44 V2 SV2 xv2 hb44 => SV2.keep 3 rfl (v := .slice r2.a r2.len r2.cap) rfl (SV2.keeps 2 (x := lnT l) rfl (SV2.keep 4 rfl (v := .slice r1.a r1.len r1.cap) rfl ?_))
        have xv := xv1.trans xv2
        refine stepL (r2' := r2) xv (SV2.at_ 1 rfl) SV2.tail.tail fun r1' V3 ov3 u3 SV3 => SV3.keep 1 rfl (v := .slice r2.a r2.len r2.cap) rfl ?_
        obtain ⟨z1, z2, z3, z4⟩ := after1 xv u3
        exact tail1 SV3 ov3 (keep1 u3 (SV2.at_ 0 rfl) (fun _ _ h => by cases h) ((o1.ext x35).ext xv)) (by have := xv.size; have := u3.size; omega) z1 z2 z3 z4
      · refine stepL (r2' := r2) xv1 (SV1.at_ 0 rfl) SV1.tail fun r1' V3 ov3 u3 SV3 => SV3.keep 1 rfl (v := .slice r2.a r2.len r2.cap) rfl ⟨?_, trivial⟩
        obtain ⟨z1, z2, z3, z4⟩ := after1 xv1 u3
        refine SV3.newO fun b48 V4 SV4 xv4 => SV4.keep 2 rfl (v := .slice r2.a r2.len r2.cap) rfl (SV4.keeps 1 (x := lnT l) rfl (SV4.keep 3 rfl (v := .slice r1.a r1.len r1.cap) rfl ?_))
        exact tail1 SV4.tail (ov3.ext xv4) (SV4.at_ 0 rfl) (by have := xv1.size; have := u3.size; have := xv4.size; omega) (z1.ext xv4) (xv4.ext_get z2) (xv4.ext_get z3) (xv4.ext_get z4)
  ·
    intro W W' hI hD uW hlo
    obtain ⟨r1, r2, g1, g2, g3, g4, g5⟩ := invL hI uW hlo
    rw [List.take_of_length_le (by omega)] at g2
    rw [List.take_of_length_le (by omega)] at g3
    have l1 := SlOwn.lenR (cs := c100) g2 (by decide)
    rw [List.length_map] at l1
    show (ld .sl (at0 b13) _) W'
    refine g1.ld 1 rfl (x := r1) rfl (g1.newO fun b70 V1 SV1 xv1 => SV1.aggSt 0 rfl rfl rfl rfl fun V2 SV2 uv2 => ?_)
    have q3 : SlIn V2 r2 3 1 (nv (sortsP (atoms (aOf e M)))) := SlIn.box (g3.in.ext xv1) (SV1.at_ 0 rfl) (by decide) uv2
    have q2 : SlIn V2 r1 100 4 (flat c100 ((lnAll (atoms (aOf e M))).map lnT)) := SlIn.box (g2.in.ext xv1) (SV1.at_ 0 rfl) (by decide) uv2
    have d2 : V2.heap[w9.heap.size]? = some (.deferred (some [])) := uv2.get (xv1.ext_get g5) fun hc => by
      have := SV1.at_ 0 rfl
      rw [← hc, xv1.ext_get g5] at this
      cases this
    have el : ((r1.len : Nat) : Int) = (((sortsP (atoms (aOf e M))).length : Nat) : Int) := by omega
    rw [el] at SV2
    have hf : SortX V2 (.func (.func 60) #[] #[.pointer (some (at0 b14))]) (sortsP (atoms (aOf e M))) := sortX_paras q3 (SV2.at_ 1 rfl)
    let F : Value := .func (.func 60) #[] #[.pointer (some (at0 b14))]
    let R : Value := .agg (Cells.vals c89 (rowT (sortsP (atoms (aOf e M))).length F)).toArray
    refine SV2.lds 0 (rowT (sortsP (atoms (aOf e M))).length F) rfl ?_
    refine join_r (fun x W => x = ((if kind = 70 then (.func (.func 54) #[R] #[] : Value) else .func (.func 53) #[R] #[]), ()) ∧ V2 = W) ?_ ?_
    · refine SV2.ld 4 rfl (x := kind) rfl (sif_r (fun h => ?_) (fun h => ?_))
      · simp only [beq_iff_eq] at h
        rw [if_pos h]
        exact SV2.lds 0 (rowT (sortsP (atoms (aOf e M))).length F) rfl ⟨rfl, rfl⟩
      · simp only [beq_eq_false_iff_ne, ne_eq] at h
        rw [if_neg h]
        exact ⟨rfl, rfl⟩
    rintro _ _ ⟨rfl, rfl⟩
    refine SV2.lds 4 (mvT kind count arg) rfl (times_call hcn fun V3 xv3 => ?_)
    have SV3 := SV2.ext xv3
    have tp := times_pos count
    have tl := times_lt hcn
    have hil : i < (sortsP (atoms (aOf e M))).length := by omega
    have hll : (sortsP (atoms (aOf e M))).length < 2 ^ 60 := by omega
    have fin2 : ∀ V, Ext V3 V → (fun (x78 : Int × Int × Bool × Unit) => sif (!x78.2.2.1) (aggSt (at0 b3) (.agg #[.int .i64 0, .int .i64 0, .int .i64 0]) 3 (endM w9.heap.size (lds c34 (at0 b3) fun x79 => K (x79, 90, ()))))
        (drew (ld .sl (at0 b13) fun x80 => ix x80.a x80.len x78.1 fun p81 => ld (.int .i64) (p81.add (scaled (Int.toNat x78.1) 4)) fun x82 => ld .sl (at0 b13) fun x83 => ix x83.a x83.len (IntKind.wrap .i64 (x78.2.1 - 1)) fun p84 => ld (.int .i64) ((p84.add (scaled (Int.toNat (IntKind.wrap .i64 (x78.2.1 - 1))) 4)).add 2) fun x85 =>
          aggSt (at0 b3) (.agg #[.int .i64 x82, .int .i64 x85, .int .i64 1]) 3 (endM w9.heap.size (lds c34 (at0 b3) fun x86 => K (x86, 0, ())))))) (pickV (pickP (decide (kind = 70)) (sortsP (atoms (aOf e M))) i (times count))) V := by
      intro V xV
      have SV := SV3.ext xV
      have last : ∀ {V : World} {s : Int × Int × Int} {n : Int}, St (fun _ => False) w V [(b70, .cells (Cells.vals c89 (rowT (sortsP (atoms (aOf e M))).length F)).toArray 89 (0, 0)), (b14, B14 r2), (b13, B13 r1), (b3, Z), (b2, Mv), (b1, Pt)] → V.heap[w9.heap.size]? = some (.deferred (some [])) → (∀ w', Ext w w' → K (spT s, n, ()) w') →
          aggSt (at0 b3) (.agg #[.int .i64 s.1, .int .i64 s.2.1, .int .i64 s.2.2]) 3 (endM w9.heap.size (lds c34 (at0 b3) fun x => K (x, n, ()))) V := by
        intro V s n SV hD hk
        refine SV.aggSt 3 rfl rfl rfl rfl fun V1 SV1 uv1 => ?_
        have b3lt := lt9 (b3, Z) (by simp [Ls])
        have hD1 : V1.heap[w9.heap.size]? = some (.deferred (some [])) := uv1.get hD (by simp only at b3lt; omega)
        refine ⟨hD1, ?_⟩
        obtain ⟨uv2, _⟩ := upd_putObj (o' := .deferred none) hD1
        have SV2 := SV1.fresh uv2 (fun k hk => .inr (by omega)) (fun x hx hk => by
          have := (SV1.loc x hx).1
          rw [hk, hD1] at this
          have h2 := Option.some.inj this
          simp only [List.set_cons_succ, List.set_cons_zero, List.mem_cons, List.not_mem_nil, or_false] at hx
          rcases hx with rfl | rfl | rfl | rfl | rfl | rfl <;> cases h2)
        exact SV2.lds 3 (spT s) rfl (hk _ SV2.upd)
      have dV : V.heap[w9.heap.size]? = some (.deferred (some [])) := (xv3.trans xV).ext_get d2
      cases hp : pickP (decide (kind = 70)) (sortsP (atoms (aOf e M))) i (times count) with
      | none =>
        rw [hp] at hK
        exact sif_true (last (s := (0, 0, 0)) SV dV hK)
      | some ft =>
        obtain ⟨f, t⟩ := ft
        rw [hp] at hK
        have hb : f ≤ i ∧ i < t ∧ t ≤ (sortsP (atoms (aOf e M))).length := by
          unfold pickP at hp
          split at hp
          · exact aroundP_le hp
          · exact innerP_le hp
        obtain ⟨c, hc⟩ : ∃ c, (lnAll (atoms (aOf e M)))[f]? = some c := ⟨_, List.getElem?_eq_getElem (by omega)⟩
        obtain ⟨d, hd⟩ : ∃ d, (lnAll (atoms (aOf e M)))[t - 1]? = some d := ⟨_, List.getElem?_eq_getElem (by omega)⟩
        dsimp only at hK
        rw [hc, hd] at hK
        simp only [Option.map_some, Option.getD_some] at hK
        have ew : IntKind.wrap .i64 ((t : Int) - 1) = ((t - 1 : Nat) : Int) := by rw [wrap64 (by omega) (by omega)]; omega
        refine sif_false (SV.drew fun V4 SV4 xv4 _ => ?_)
        have q4 := q2.ext ((xv3.trans xV).trans xv4)
        dsimp only [pickV]
        rw [ew]
        refine SV4.ld 2 rfl (x := r1) rfl (ix_ldf0 (cs := c100) (c := .int .i64) q4 (by omega) (x := lnT c) (y := (c.from_ : Int)) (by rw [Int.toNat_natCast, List.getElem?_map, hc]; rfl) rfl fun q1 => SV4.ld 2 rfl (x := r1) rfl (ix_ldf (cs := c100) (c := .int .i64) (j := 2) q4 (by omega) (x := lnT d) (y := (d.next : Int)) (by rw [Int.toNat_natCast, List.getElem?_map, hd]; rfl) rfl fun q2 => ?_))
        exact last (s := (c.from_, d.next, 1)) SV4 (xv4.ext_get dV) hK
    by_cases hk : kind = 70
    · rw [if_pos hk]
      have fin' := fin2
      rw [decide_eq_true hk] at fin'
      exact func_m (a := R) (by kernel_rfl) (around_call (hf.ext xv3) rfl hil hll tp tl fin')
    · rw [if_neg hk]
      have fin' := fin2
      rw [decide_eq_false hk] at fin'
      exact func_m (a := R) (by kernel_rfl) (inner_call (hf.ext xv3) rfl hil hll tp tl fin')
theorem take_call {at_ kind count arg : Int} (h : Txt w p e lim na O M) (hcn : count < 2 ^ 63) {K : Cells.T c34 × Int × Unit → World → Prop} (hK : ∀ w', Ext w w' → K (spT (takeP (atoms (aOf e M)) at_ kind count arg).1, (takeP (atoms (aOf e M)) at_ kind count arg).2, ()) w') :
    callT Tryz.prog 20 #[.pointer (some (at0 p)), .int .i64 at_, .agg (Cells.vals c39 (mvT kind count arg)).toArray] (.tup [(.agg c34), (.one (.int .i64))]) K w := by
  refine F20_calls (a2 := mvT kind count arg) ?_
  unfold F20
  unfold takeP at hK
  let Mv : Obj := .cells (Cells.vals c39 (mvT kind count arg)).toArray 39 (0, 0)
  let Z : Obj := .cells #[.int .i64 0, .int .i64 0, .int .i64 0] 34 (0, 0)
  refine (St.start w).newO fun b1 w1 S1 e1 => S1.newO fun b2 w2 S2 e2 => ?_
  have S2 : St (fun _ => False) w w2 [(b2, Z), (b1, Mv)] := S2
  have h2 := h.ext S2.upd
  have fin : ∀ {W : World} {s : Int × Int × Int} {n : Int}, Ext w2 W → (∀ w', Ext w w' → K (spT s, n, ()) w') → aggSt (at0 b2) (.agg #[.int .i64 s.1, .int .i64 s.2.1, .int .i64 s.2.2]) 3 (lds c34 (at0 b2) fun x => K (x, n, ())) W := fun {W s n} x hk =>
    (S2.ext x).aggSt 0 rfl rfl rfl rfl fun w1 S1 _ => S1.lds 0 (spT s) rfl (hk w1 S1.upd)
  refine S2.ld 1 rfl (x := kind) rfl (sif_r (fun h64 => ?_) (fun h64 => ?_))
  · simp only [decide_eq_true_eq] at h64
    rw [if_pos h64] at hK
    exact S2.lds 1 (mvT kind count arg) rfl (words_call h2 hcn fun w3 x3 => fin x3 hK)
  simp only [decide_eq_false_iff_not] at h64
  rw [if_neg h64] at hK
  refine S2.ld 1 rfl (x := kind) rfl (sif_r (fun h66 => ?_) (fun h66 => ?_))
  · simp only [decide_eq_true_eq] at h66
    rw [if_pos h66] at hK
    exact S2.lds 1 (mvT kind count arg) rfl (quotes_call h2 hcn fun w3 x3 => fin x3 hK)
  simp only [decide_eq_false_iff_not] at h66
  rw [if_neg h66] at hK
  refine S2.ld 1 rfl (x := kind) rfl (sif_r (fun h68 => ?_) (fun h68 => ?_))
  · simp only [decide_eq_true_eq] at h68
    rw [if_pos h68] at hK
    exact S2.lds 1 (mvT kind count arg) rfl (blocks_call h2 hcn fun w3 x3 => fin x3 hK)
  · simp only [decide_eq_false_iff_not] at h68
    rw [if_neg h68] at hK
    exact S2.lds 1 (mvT kind count arg) rfl (paras_call h2 hcn fun w3 x3 => fin x3 hK)
end
end Go.Proofs.YtabcpghhfeplaaaGreat
set_option linter.unusedSimpArgs false
set_option linter.unusedVariables false
set_option maxRecDepth 100000
namespace Go.Proofs.YtabcpghhfeplaaaGreat
open Go Go.Vx Go.ChangeShapes Go.WideShapes Go.RowKit Cdc
theorem Tryz.own : ownKnob Tryz.prog.godebug = none := by kernel_rfl
theorem Tryz.laidOut : laidOutB Tryz.prog = true := by kernel_rfl
theorem ui : Tryz.prog.underlying 3 = some (.int .i64) := i3_ok.und
theorem ub : Tryz.prog.underlying 5 = some (.int .u8) := i5_ok.und
theorem u4 : Tryz.prog.underlying 4 = some .bool := i4_ok.und
theorem uBytes : Tryz.prog.underlying 22 = some (.slice 5) := i22_ok.und
theorem ci : Tryz.prog.cellsOf 3 = 1 := by kernel_rfl
theorem cby : Tryz.prog.cellsOf 5 = 1 := by kernel_rfl
theorem bby : Tryz.prog.bytesOf 5 = 1 := by kernel_rfl
theorem cbs : Tryz.prog.cellsOf 22 = 1 := by kernel_rfl
theorem cstart : Tryz.prog.cellsOf 24 = 2 := by kernel_rfl
theorem sStart : ∃ fs : Array Field, Tryz.prog.underlying 24 = some (.struct fs) ∧ fs.toList.map (fun f => (f.type, f.offset)) = [(3, 0), (22, 1)] := ⟨_, i24_ok.und, rfl⟩
theorem rows_of2 {cs : List Cell} {β : Type} {Q : Cells.T cs → β → Prop} : ∀ (rows : List (List Value)), (∀ r ∈ rows, ∃ x y, r = Cells.vals cs x ∧ Q x y) → ∃ (xs : List (Cells.T cs)) (ys : List β), rows.flatten = flat cs xs ∧ xs.length = rows.length ∧ xs.length = ys.length ∧ ∀ (i : Nat) x y, xs[i]? = some x → ys[i]? = some y → Q x y
  | [], _ => ⟨[], [], rfl, rfl, rfl, fun i x y hx => by simp at hx⟩
  | r :: rs, h => by
    obtain ⟨x, y, hx, hq⟩ := h r List.mem_cons_self
    obtain ⟨xs, ys, h1, h2, h3, h4⟩ := rows_of2 rs fun r' hr' => h r' (List.mem_cons_of_mem _ hr')
    refine ⟨x :: xs, y :: ys, ?_, by simp [h2], by simp [h3], fun i x' y' hx' hy' => ?_⟩
    · rw [List.flatten_cons, h1, hx]; rfl
    · match i with
      | 0 => cases hx'; cases hy'; exact hq
      | i + 1 => exact h4 i x' y' (by simpa using hx') (by simpa using hy')
structure LOp where
  who : Int
  kind : Int
  at_ : Int
  move : Int
  count : Int
  arg : Int
  put : List Int
structure LOp.In (w : World) (y : Cells.T c43) (o : LOp) : Prop where
  who : y.1 = o.who
  kind : y.2.1 = o.kind
  at_ : y.2.2.1 = o.at_
  move : y.2.2.2.1 = o.move
  count : y.2.2.2.2.1 = o.count
  arg : y.2.2.2.2.2.1 = o.arg
  put : SlX w y.2.2.2.2.2.2.1 1 (iv o.put)
  i1 : In64 o.who ∧ In64 o.kind ∧ In64 o.at_ ∧ In64 o.move ∧ In64 o.count ∧ In64 o.arg
  i2 : ∀ n ∈ o.put, In64 n
  len : o.put.length ≤ 2 ^ 44
  lt : ∀ k, y.2.2.2.2.2.2.1.blk k → y.2.2.2.2.2.2.1.len = 0 ∨ k < w.heap.size
structure LOp.All (w : World) (s : Sl) (ys : List (Cells.T c43)) (os : List LOp) : Prop where
  row : SlX w s 7 (flat c43 ys)
  len : ys.length = os.length
  few : os.length ≤ 2 ^ 42
  each : ∀ (i : Nat) y o, ys[i]? = some y → os[i]? = some o → o.In w y
theorem wf64 {n : Int} (h : (Lit.int .i64 n).wf = true) : In64 n := by
  have h1 : IntKind.min .i64 = -9223372036854775808 := rfl
  have h2 : IntKind.max .i64 = 9223372036854775807 := rfl
  simp [Lit.wf, h1, h2] at h
  unfold In64
  omega
section
variable {H : Type} {enc : TypeId × Value → H} {W : World} {base fuel : Nat} {held : Bool}
theorem open_fields {t : TypeId} {fs : Array Field} {L : List (TypeId × Nat)} {cs : List Value} {x : DataW H × List MemPlace} (hu : Tryz.prog.underlying t = some (.struct fs)) (hfs : fs.toList.map (fun f => (f.type, f.offset)) = L)
    (h : DataW.trod enc Tryz.prog W base (fun _ => true) held fuel t cs = some x) (hw : ∀ n ∈ x.1.weights Tryz.prog t, n ≤ reachBytes) :
    ∃ n, ∀ (i : Nat) (t' o : Nat), L[i]? = some (t', o) → ∃ y, DataW.trod enc Tryz.prog W base (fun _ => true) held n t' ((cs.drop o).take (Tryz.prog.cellsOf t')) = some y ∧ ∀ k ∈ y.1.weights Tryz.prog t', k ≤ reachBytes := by
  obtain ⟨xs, n, _, rfl, _, hxl, hall⟩ := DataW.trod_struct hu h
  refine ⟨n, fun i t' o hi => ?_⟩
  rw [← hfs, List.getElem?_map] at hi
  obtain ⟨f, hf, he⟩ := Option.map_eq_some_iff.1 hi
  cases he
  have hf' : fs[i]? = some f := by simpa using hf
  have h1 := hall i f hf'
  have hil : i < xs.length := by rw [hxl]; exact (Array.getElem?_eq_some_iff.1 hf').1
  rw [List.getElem?_eq_getElem hil] at h1
  refine ⟨xs[i], h1, fun k hk => hw k ?_⟩
  simp only [DataW.weights, hu]
  exact DataW.weights_mem_each (j := i) (t := f.type) (d := xs[i].1) (by rw [List.getElem?_map, hf]; rfl) (by rw [List.getElem?_map, List.getElem?_eq_getElem hil]; rfl) k hk
theorem open_u8 {cs : List Value} {x : DataW H × List MemPlace} (h : DataW.trod enc Tryz.prog W base (fun _ => true) held fuel 5 cs = some x) : ∃ b : UInt8, cs = [.int .u8 (b.toNat : Int)] := by
  have : ∃ n, cs = [.int .u8 n] ∧ (Lit.int .u8 n).wf = true := by
    cases fuel with
    | zero => simp [DataW.trod] at h
    | succ m =>
      unfold DataW.trod at h
      rw [ub] at h
      split at h <;> simp_all
  obtain ⟨n, rfl, hn⟩ := this
  have hr : 0 ≤ n ∧ n < 256 := by
    have h1 : IntKind.min .u8 = 0 := rfl
    have h2 : IntKind.max .u8 = 255 := rfl
    simp [Lit.wf, h1, h2] at hn
    omega
  refine ⟨UInt8.ofNat n.toNat, ?_⟩
  have : (UInt8.ofNat n.toNat).toNat = n.toNat := by
    rw [UInt8.toNat_ofNat']
    exact Nat.mod_eq_of_lt (by omega)
  rw [this]
  congr 2
  omega
theorem open_bytes {cs : List Value} {x : DataW H × List MemPlace} (h : DataW.trod enc Tryz.prog W base (fun _ => true) held fuel 22 cs = some x) (hw : ∀ n ∈ x.1.weights Tryz.prog 22, n ≤ reachBytes) :
    ∃ (s : Sl) (l : List UInt8), cs = [.slice s.a s.len s.cap] ∧ SlX W s 1 (bv l) ∧ l.length ≤ 2 ^ 47 := by
  obtain ⟨s, rows, rfl, hs, hl, hby, hr⟩ := open_rows uBytes cby (by decide) h hw
  obtain ⟨xs, ls, h1, h2, h3, h4⟩ := rows_of2 (cs := [.int .u8]) (β := UInt8) (Q := fun x y => x.1 = (y.toNat : Int)) rows (fun r hr' => by
    obtain ⟨_, n, y, hy, _⟩ := hr r hr'
    obtain ⟨b, rfl⟩ := open_u8 hy
    exact ⟨((b.toNat : Int), ()), b, rfl, rfl⟩)
  refine ⟨s, ls, rfl, ?_, ?_⟩
  · rw [h1] at hs
    have e : flat [.int .u8] xs = bv ls := by
      clear h1 h2 hs
      induction xs generalizing ls with
      | nil =>
        cases ls with
        | nil => rfl
        | cons y r => simp at h3
      | cons x r ih =>
        cases ls with
        | nil => simp at h3
        | cons y q =>
          have h0 := h4 0 x y rfl rfl
          have := ih q (by simpa using h3) fun i x' y' hx hy => h4 (i + 1) x' y' (by simpa using hx) (by simpa using hy)
          simp only [flat, List.flatMap_cons] at this ⊢
          rw [this]
          obtain ⟨n, ⟨⟩⟩ := x
          dsimp only at h0
          subst h0
          rfl
    rw [e] at hs; exact hs
  · rw [← h3, h2, hl]
    rw [bby] at hby
    unfold reachBytes at hby
    omega
theorem open_start {cs : List Value} {x : DataW H × List MemPlace} (hl : cs.length = 2) (h : DataW.trod enc Tryz.prog W base (fun _ => true) held fuel 24 cs = some x) (hw : ∀ n ∈ x.1.weights Tryz.prog 24, n ≤ reachBytes) :
    ∃ (c : Int) (s : Sl) (l : List UInt8), cs = Cells.vals c24 (stT c s) ∧ SlX W s 1 (bv l) ∧ l.length ≤ 2 ^ 47 := by
  obtain ⟨fs, hu, hfs⟩ := sStart
  obtain ⟨n, hall⟩ := open_fields hu hfs h hw
  obtain ⟨v0, v1, rfl⟩ : ∃ v0 v1, cs = [v0, v1] := by
    match cs, hl with
    | [v0, v1], _ => exact ⟨v0, v1, rfl⟩
  obtain ⟨y0, h0, _⟩ := hall 0 _ _ rfl
  obtain ⟨y1, h1, hw1⟩ := hall 1 _ _ rfl
  rw [ci] at h0
  rw [cbs] at h1
  obtain ⟨n0, e0, _⟩ := open_i64 ui h0
  obtain ⟨s, l, e1, g1, g2⟩ := open_bytes h1 hw1
  simp at e0 e1
  subst e0 e1
  exact ⟨n0, s, l, rfl, g1, g2⟩
theorem SlX.lt {w : World} {s : Sl} {sz : Nat} {us : List Value} (h : SlX w s sz us) : ∀ k, s.blk k → s.len = 0 ∨ k < w.heap.size := by
  intro k hk
  rcases h.at_ with ⟨h, _⟩ | ⟨t, h⟩
  · exact .inl h
  · exact .inr (h.blk_lt hk)
end
theorem trodAll_get {H : Type} {enc : TypeId × Value → H} {P : Program} {w : World} {base : Nat} {spare : Nat → Bool} {held : Bool} : ∀ {ts : List TypeId} {vs : List Value} {ds : List (DataW H)} {ps : List MemPlace}, DataW.TrodAll enc P w base spare held ts vs ds ps →
    vs.length = ts.length ∧ ds.length = ts.length ∧ ∀ (j : Nat) t v d, ts[j]? = some t → vs[j]? = some v → ds[j]? = some d → ∃ p, DataW.Trod enc P w base spare held t v d p
  | [], [], [], _, _ => ⟨rfl, rfl, fun j t v d h => by simp at h⟩
  | t :: ts, v :: vs, d :: ds, ps, ⟨p, q, h1, h2, e⟩ => by
    obtain ⟨a, b, c⟩ := trodAll_get h2
    refine ⟨by simp [a], by simp [b], fun j t' v' d' ht hv hd => ?_⟩
    match j with
    | 0 => cases ht; cases hv; cases hd; exact ⟨p, h1⟩
    | j + 1 => exact c j t' v' d' (by simpa using ht) (by simpa using hv) (by simpa using hd)
  | [], _ :: _, _, _, h => h.elim
  | [], [], _ :: _, _, h => h.elim
  | _ :: _, [], _, _, h => h.elim
  | _ :: _, _ :: _, [], _, h => h.elim
theorem list_3 {α : Type} (l : List α) (h : l.length = 3) : ∃ v0 v1 v2, l = [v0, v1, v2] := by
  match l, h with
  | [v0, v1, v2], _ => exact ⟨v0, v1, v2, rfl⟩
theorem weigh {H : Type} {ts : List TypeId} {ds : List (DataW H)} (h : (DataW.weightsEach Tryz.prog ts ds).all (· ≤ reachBytes) = true) (j : Nat) {t : TypeId} {d : DataW H} (ht : ts[j]? = some t) (hd : ds[j]? = some d) : ∀ n ∈ d.weights Tryz.prog t, n ≤ reachBytes := by
  intro n hn
  have := List.all_eq_true.1 h _ (DataW.weights_mem_each ht hd n hn)
  simpa using this
section
variable {H : Type} {enc : TypeId × Value → H} {W : World} {base : Nat}
theorem arg_int {v : Value} {d : DataW H} {p : List MemPlace} (hv : Value.okWide Tryz.prog W .any base 3 v) (h : DataW.Trod enc Tryz.prog W 0 (fun _ => true) true 3 v d p) (hw : ∀ n ∈ d.weights Tryz.prog 3, n ≤ reachBytes) : ∃ n, v = .int .i64 n ∧ In64 n := by
  obtain ⟨n, rfl⟩ := okWide_int ui hv
  obtain ⟨f, hf⟩ := h
  obtain ⟨m, e, hm⟩ := open_i64 ui hf
  have : n = m := by simpa [Value.cells] using e
  subst this
  exact ⟨n, rfl, wf64 hm⟩
theorem arg_start {v : Value} {d : DataW H} {p : List MemPlace} (hv : Value.okWide Tryz.prog W .any base 24 v) (h : DataW.Trod enc Tryz.prog W 0 (fun _ => true) true 24 v d p) (hw : ∀ n ∈ d.weights Tryz.prog 24, n ≤ reachBytes) :
    ∃ (c : Int) (s : Sl) (l : List UInt8), v = .agg (Cells.vals c24 (stT c s)).toArray ∧ SlX W s 1 (bv l) ∧ l.length ≤ 2 ^ 47 := by
  obtain ⟨fs, hu, _⟩ := sStart
  obtain ⟨cs, rfl, hsz⟩ := okWide_struct hu hv
  obtain ⟨n, hn⟩ := h
  rw [cstart] at hsz
  obtain ⟨c, s, l, e, h1, h2⟩ := open_start (cs := cs.toList) (by simpa using hsz) (by simpa [Value.cells] using hn) hw
  exact ⟨c, s, l, by rw [← e], h1, h2⟩
end
theorem tsize : 200 ≤ Tryz.prog.types.size := of_decide_eq_true (by kernel_rfl)
theorem recInt : Tryz.prog.readableRec 3 = true := by kernel_rfl
theorem recInts : Tryz.prog.readableRec 26 = true := by kernel_rfl
theorem recOps : Tryz.prog.readableRec 41 = true := by kernel_rfl
theorem recStart : Tryz.prog.readableRec 24 = true := by kernel_rfl
theorem recs {t : TypeId} (h : t = 3 ∨ t = 26 ∨ t = 41 ∨ t = 24) : Tryz.prog.readableRec t = true ∧ t < Tryz.prog.types.size := by
  have := tsize
  rcases h with rfl | rfl | rfl | rfl
  · exact ⟨recInt, Nat.lt_of_lt_of_le (by decide) this⟩
  · exact ⟨recInts, Nat.lt_of_lt_of_le (by decide) this⟩
  · exact ⟨recOps, Nat.lt_of_lt_of_le (by decide) this⟩
  · exact ⟨recStart, Nat.lt_of_lt_of_le (by decide) this⟩
end Go.Proofs.YtabcpghhfeplaaaGreat
set_option linter.unusedSimpArgs false
set_option linter.unusedVariables false
set_option maxRecDepth 100000
namespace Go.Proofs.YtabcpghhfeplaaaGreat
open Go Go.Vx Cdc Trx Gly Clu Lns Obx
section
variable {w w' : World} {S : Nat → Prop} {p : Nat} {e : Enc} {lim na : Nat} {O : Nat → Prop} {M : Parts}
theorem copied_call {A : List Int} {s : Sl} {t : TypeId} (hs : SlIn w s t 1 (iv A)) (hl : A.length < 2 ^ 40) {K : Sl → World → Prop} (hK : ∀ s' w', SlOwn w' w.heap.size s' 3 1 (iv A) → Ext w w' → K s' w') :
    callT Tryz.prog 46 #[.slice s.a s.len s.cap] (.one (.one .sl)) K w := by
  refine F46_calls ?_
  unfold F46
  have hlen : A.length = s.len := by have := hs.len1; rwa [List.length_map] at this
  refine join_r (fun x W => SlOwn W w.heap.size x.1 3 1 (iv A) ∧ Ext w W) ?_ (fun x W h => hK _ _ h.1 h.2)
  refine sloop_r (fun x W => ∃ i : Nat, i ≤ A.length ∧ x.2 = ((i : Int), ()) ∧ SlOwn W w.heap.size x.1 3 1 (iv (A.take i)) ∧ Ext w W) (fun x _ => ((A.length : Int) - x.2.1).toNat) ⟨0, Nat.zero_le _, rfl, SlOwn.nil _ _ _ _, Ext.refl w⟩ ?_
  rintro ⟨r, _⟩ W ⟨i, hi, rfl, hr, eW⟩
  dsimp only at hr ⊢
  have hrl := hr.len1
  rw [List.length_map, List.length_take] at hrl
  refine sif_r (fun hc => ?_) (fun hc => ?_)
  · simp only [decide_eq_true_eq] at hc
    obtain ⟨a, ha⟩ : ∃ a, A[i]? = some a := ⟨_, List.getElem?_eq_getElem (by omega)⟩
    have ew : IntKind.wrap .i64 ((i : Int) + 1) = ((i + 1 : Nat) : Int) := by rw [wrap64 (by omega) (by omega)]; omega
    rw [ew]
    refine ix_ld (c := .int .i64) (xs := A) (hs.ext eW) (by omega) (x := a) (by rw [Int.toNat_natCast]; exact ha) fun q => newO_r fun b7 w4 e4 n4 hb4 _ => ?_
    refine append_rx eInts eInts.ts_ (x := ⟨some (at0 b7), 1, 1⟩) (hr.ext e4) (iv_box n4) (fun v hv => by rw [List.mem_singleton.1 hv]; rfl) (by
      show (r.len + 1 + (r.len + 1) / 4 + 512) * 8 ≤ 2 ^ 48
      omega) (by have := eW.size; have := e4.size; omega) fun r' w5 o5 l5 u5 k5 => ?_
    have e5 : iv (A.take i) ++ [.int .i64 a] = iv (A.take (i + 1)) := by rw [List.take_add_one, ha]; simp
    rw [e5] at o5
    exact ⟨⟨i + 1, by omega, rfl, o5, (eW.trans e4).step u5 fun k hk => hr.blk_ge hk⟩, by omega⟩
  · simp only [decide_eq_false_iff_not] at hc
    have e5 : A.take i = A := List.take_of_length_le (by omega)
    rw [e5] at hr
    exact ⟨hr, eW⟩
abbrev bothO (p : Nat) (s : Sl) : Obj := .cells #[.pointer (some (at0 p)), .slice s.a s.len s.cap] 28 (0, 0)
abbrev spanO (s : Int × Int × Int) : Obj := .cells #[.int .i64 s.1, .int .i64 s.2.1, .int .i64 s.2.2] 34 (0, 0)
theorem good_call {A : List Int} {s : Sl} {b : Nat} {sp : Int × Int × Int} (hb : w.heap[b]? = some (bothO p s)) (hs : SlIn w s 3 1 (iv A)) (hl : A.length < 2 ^ 40) (hg : Obx.Good A sp) {K : Bool → World → Prop} (hK : ∀ w', Ext w w' → K true w') :
    callT Tryz.prog 21 #[.pointer (some (at0 b)), .agg (Cells.vals c34 (spT sp)).toArray] (.one (.one .bool)) K w := by
  refine F21_calls (a1 := spT sp) ?_
  unfold F21
  have hlen : A.length = s.len := by have := hs.len1; rwa [List.length_map] at this
  obtain ⟨g1, g2, g3, g4, g5⟩ := hg
  have tr : ∀ {W : World} {b : Bool} {X Y : World → Prop}, b = true → X W → sif b X Y W := fun hb hx => by subst hb; exact sif_true hx
  refine (St.start w).newO fun b1 w1 S1 e1 => S1.drew fun w2 S2 e2 _ => ?_
  simp only [nn_eq, addr_add]
  have h2 := S2.upd.ext_get hb
  refine S2.ld 0 rfl (x := sp.1) rfl (tr (decide_eq_true g1) (S2.ld 0 rfl (x := sp.1) rfl (S2.ld 0 rfl (x := sp.2.1) rfl (tr (decide_eq_true g2) ?_))))
  refine S2.ld 0 rfl (x := sp.2.1) rfl (ld_r h2 (x := s) rfl (tr (decide_eq_true (by rw [← hlen]; exact g3)) ?_))
  refine ld_r h2 (x := s) rfl (S2.ld 0 rfl (x := sp.1) rfl ?_)
  refine copied_call (hs.ext S2.upd) hl fun s' w3 o3 e3 => ?_
  have S3 := S2.ext e3
  refine S3.keep 0 rfl (v := .int .i64 sp.1) rfl ?_
  refine isbreak_call o3.in hl fun w4 e4 => ?_
  have S4 := S3.ext e4
  have h4 := S4.upd.ext_get hb
  refine tr (by rw [g4, Bool.and_true, decide_eq_true_eq]; exact ⟨g1, Int.le_trans g2 g3⟩) (ld_r h4 (x := s) rfl (S4.ld 0 rfl (x := sp.2.1) rfl ?_))
  refine copied_call (hs.ext S4.upd) hl fun s5 w5 o5 e5 => ?_
  have S5 := S4.ext e5
  refine S5.keep 0 rfl (v := .int .i64 sp.2.1) rfl ?_
  refine isbreak_call o5.in hl fun w6 e6 => ?_
  have := hK w6 (S5.ext e6).upd
  rwa [g5, Bool.and_true, decide_eq_true (show 0 ≤ sp.2.1 ∧ sp.2.1 ≤ (A.length : Int) from ⟨Int.le_trans g1 g2, g3⟩)]
theorem spans_call {sp : Int × Int × Int} {K : Bool → World → Prop} (hK : ∀ w', Ext w w' → K true w') :
    callT Tryz.prog 30 #[.agg (Cells.vals c34 (spT sp)).toArray, .int .i64 0, .int .i64 sp.1, .int .i64 sp.2.1, .int .i64 sp.2.2] (.one (.one .bool)) K w := by
  refine F30_calls (a0 := spT sp) ?_
  unfold F30
  have tr : ∀ {W : World} {b : Bool} {X Y : World → Prop}, b = true → X W → sif b X Y W := fun hb hx => by subst hb; exact sif_true hx
  refine (St.start w).newO fun b1 w1 S1 e1 => sif_true ?_
  refine S1.ld 0 rfl (x := sp.1) rfl (tr (by rw [beq_iff_eq]) (S1.ld 0 rfl (x := sp.2.1) rfl (tr (by rw [beq_iff_eq]) (S1.ld 0 rfl (x := sp.2.2) rfl ?_))))
  have := hK w1 S1.upd
  rwa [show (sp.2.2 == sp.2.2) = true by rw [beq_iff_eq]]
theorem taken_call {at_ k : Int} {s : Sl} {b : Nat} {sp : Int × Int × Int} (h : Txt w p e lim na O M) (hb : w.heap[b]? = some (bothO p s)) (ht : takeP (atoms (aOf e M)) at_ k 0 0 = (sp, 0)) {K : Bool → World → Prop} (hK : ∀ w', Ext w w' → K true w') :
    callT Tryz.prog 24 #[.pointer (some (at0 b)), .int .i64 at_, .int .i64 k, .agg (Cells.vals c34 (spT sp)).toArray] (.one (.one .bool)) K w := by
  refine F24_calls (a3 := spT sp) ?_
  unfold F24
  refine (St.start w).newO fun b1 w1 S1 e1 => ?_
  have S1 : St (fun _ => False) w w1 [(b1, spanO sp)] := S1
  simp only [nn_eq]
  refine ld_r (S1.upd.ext_get hb) (x := some (at0 p)) rfl ?_
  refine take_call (kind := k) (count := 0) (arg := 0) (h.ext S1.upd) (by decide) fun w2 e2 => ?_
  rw [ht]
  refine (S1.ext e2).newO fun b5 w3 S3 e3 => S3.aggSt 0 rfl rfl rfl rfl fun w4 S4 u4 => S4.lds 0 (spT sp) rfl ?_
  have S4 : St (fun _ => False) w w4 [(b5, spanO sp), (b1, spanO sp)] := S4
  refine S4.ld 1 rfl (x := sp.1) rfl (S4.ld 1 rfl (x := sp.2.1) rfl (S4.ld 1 rfl (x := sp.2.2) rfl ?_))
  exact spans_call fun w5 e5 => hK w5 (S4.ext e5).upd
theorem ex_words : wordsP exA 2 61 0 = ((2, 3, 0), 0) := by kernel_rfl
theorem ex_paras : parasP exA 2 69 0 = ((0, 5, 1), 0) := by kernel_rfl
end
end Go.Proofs.YtabcpghhfeplaaaGreat
set_option linter.unusedSimpArgs false
set_option linter.unusedVariables false
set_option maxRecDepth 100000
namespace Go.Proofs.YtabcpghhfeplaaaGreat
open Go Go.Vx Cdc Trx Gly Clu Lns Obx
section
variable {w w' : World} {S : Nat → Prop} {p : Nat} {e : Enc} {lim na : Nat} {O : Nat → Prop} {M : Parts}
theorem fixed_start {n : Int} {K : Bool → World → Prop}
    (hK : ∀ p M O w1 b4 b5 s w2, Txt w1 p .u8 65536 0 O M → atoms (aOf .u8 M) = exA → Ext w w1 → St (fun _ => False) w1 w2 [(b5, spanO (0, 0, 0)), (b4, bothO p s)] →
      (join (S := Int × Unit) (fun J6 =>
      sif (n == (1 : Int)) (
        ld (.ptr) (at0 b4) fun (x8 : Option Addr) =>
        callT Tryz.prog 29 #[(.pointer x8), (.int .i64 (2 : Int)), (.agg #[(.int .i64 (61 : Int)), (.int .i64 (0 : Int)), (.int .i64 (0 : Int))])] (.tup [(.agg c34), (.one (.int .i64))]) fun (x9 : ((Int × Int × Int × Unit) × Int × Unit)) =>
        aggSt (at0 b5) (.agg (Cells.vals c34 x9.1).toArray) 3 <|
        J6 (x9.2.1, ())) (
        sif (n == (2 : Int)) (
          ld (.ptr) (at0 b4) fun (x10 : Option Addr) =>
          callT Tryz.prog 31 #[(.pointer x10), (.int .i64 (2 : Int)), (.agg #[(.int .i64 (65 : Int)), (.int .i64 (0 : Int)), (.int .i64 (34 : Int))])] (.tup [(.agg c34), (.one (.int .i64))]) fun (x11 : ((Int × Int × Int × Unit) × Int × Unit)) =>
          aggSt (at0 b5) (.agg (Cells.vals c34 x11.1).toArray) 3 <|
          J6 (x11.2.1, ())) (
          sif (n == (3 : Int)) (
            ld (.ptr) (at0 b4) fun (x12 : Option Addr) =>
            callT Tryz.prog 19 #[(.pointer x12), (.int .i64 (2 : Int)), (.agg #[(.int .i64 (67 : Int)), (.int .i64 (0 : Int)), (.int .i64 (40 : Int))])] (.tup [(.agg c34), (.one (.int .i64))]) fun (x13 : ((Int × Int × Int × Unit) × Int × Unit)) =>
            aggSt (at0 b5) (.agg (Cells.vals c34 x13.1).toArray) 3 <|
            sif (x13.2.1 == (0 : Int)) (
              ld (.int .i64) (at0 b5) fun (x14 : Int) =>
              sif (x14 == (1 : Int)) (
                ld (.int .i64) (⟨b5, 1, none⟩ : Addr) fun (x15 : Int) =>
                K (x15 == (4 : Int))) (
                K false)) (
              K false)) (
            sif (n == (4 : Int)) (
              ld (.ptr) (at0 b4) fun (x16 : Option Addr) =>
              callT Tryz.prog 33 #[(.pointer x16), (.int .i64 (2 : Int)), (.agg #[(.int .i64 (69 : Int)), (.int .i64 (0 : Int)), (.int .i64 (0 : Int))])] (.tup [(.agg c34), (.one (.int .i64))]) fun (x17 : ((Int × Int × Int × Unit) × Int × Unit)) =>
              aggSt (at0 b5) (.agg (Cells.vals c34 x17.1).toArray) 3 <|
              sif (x17.2.1 == (0 : Int)) (
                ld (.int .i64) (⟨b5, 2, none⟩ : Addr) fun (x18 : Int) =>
                sif (x18 == (1 : Int)) (
                  ld (.int .i64) (⟨b5, 1, none⟩ : Addr) fun (x19 : Int) =>
                  K (x19 == (5 : Int))) (
                  K false)) (
                K false)) (
              sif (n == (5 : Int)) (
                ld (.ptr) (at0 b4) fun (x20 : Option Addr) =>
                callT Tryz.prog 20 #[(.pointer x20), (.int .i64 (2 : Int)), (.agg #[(.int .i64 (61 : Int)), (.int .i64 (0 : Int)), (.int .i64 (0 : Int))])] (.tup [(.agg c34), (.one (.int .i64))]) fun (x21 : ((Int × Int × Int × Unit) × Int × Unit)) =>
                aggSt (at0 b5) (.agg (Cells.vals c34 x21.1).toArray) 3 <|
                J6 (x21.2.1, ())) (
                J6 ((0 : Int), ()))))))) fun (s7 : Int × Unit) =>
      sif (s7.1 == (0 : Int)) (
        ld (.int .i64) (at0 b5) fun (x22 : Int) =>
        sif (x22 == (2 : Int)) (
          ld (.int .i64) (⟨b5, 1, none⟩ : Addr) fun (x23 : Int) =>
          sif (x23 == (3 : Int)) (
            ld (.int .i64) (⟨b5, 2, none⟩ : Addr) fun (x24 : Int) =>
            K (x24 == (0 : Int))) (
            K false)) (
          K false)) (
        K false)) w2) : callT Tryz.prog 17 #[.int .i64 n] (.one (.one .bool)) K w := by
  refine F17_calls ?_
  unfold F17
  refine newO_r fun b1 w1 e1 n1 hb1 _ => litBytes (l := exB) n1 rfl rfl fun w2 hs u2 => ?_
  have e2 : Ext w w2 := e1.step u2 fun k hk => by omega
  refine opened_call (enc := 0) hs (by decide) fun p e O M s w3 hB e3 hM he => ?_
  have hen : e = .u8 := by
    have : (1 : Int) = e.num := he
    cases e <;> first | rfl | (exact absurd this (by decide))
  subst hen
  have hA : atoms (aOf .u8 M) = exA := by rw [hM (by decide), ats_ex]
  refine (St.start w3).newO' fun b4 w4 S4 e4 hb4 => S4.aggSt 0 rfl rfl rfl rfl fun w5 S5 u5 => ?_
  exact sif_false (S5.newO fun b5 w6 S6 e6 => hK p M O w3 b4 b5 s w6 hB.txt hA (e2.trans e3) S6)
theorem fixed1_call {K : Bool → World → Prop} (hK : ∀ w', Ext w w' → K true w') : callT Tryz.prog 17 #[.int .i64 1] (.one (.one .bool)) K w := by
  refine fixed_start fun p M O w1 b4 b5 s w2 tx hA e1 S2 => ?_
  refine join_r (fun x W => x = (0, ()) ∧ St (fun _ => False) w1 W [(b5, spanO (2, 3, 0)), (b4, bothO p s)]) ?_ ?_
  · refine sif_true (S2.ld 1 rfl (x := some (at0 p)) rfl ?_)
    refine words_call (kind := 61) (count := 0) (arg := 0) (tx.ext S2.upd) (by decide) fun w3 e3 => ?_
    rw [hA, ex_words]
    exact (S2.ext e3).aggSt 0 rfl rfl rfl rfl fun w4 S4 u4 => ⟨rfl, S4⟩
  · rintro _ W ⟨rfl, SW⟩
    exact sif_true (SW.ld 0 rfl (x := (2 : Int)) rfl (sif_true (SW.ld 0 rfl (x := (3 : Int)) rfl (sif_true (SW.ld 0 rfl (x := (0 : Int)) rfl (hK W (e1.trans SW.upd)))))))
theorem fixed4_call {K : Bool → World → Prop} (hK : ∀ w', Ext w w' → K true w') : callT Tryz.prog 17 #[.int .i64 4] (.one (.one .bool)) K w := by
  refine fixed_start fun p M O w1 b4 b5 s w2 tx hA e1 S2 => ?_
  refine join_r (fun _ _ => False) ?_ (fun _ _ h => h.elim)
  refine sif_false (sif_false (sif_false (sif_true (S2.ld 1 rfl (x := some (at0 p)) rfl ?_))))
  refine paras_call (kind := 69) (count := 0) (arg := 0) (tx.ext S2.upd) (by decide) fun w3 e3 => ?_
  rw [hA, ex_paras]
  refine (S2.ext e3).aggSt 0 rfl rfl rfl rfl fun w4 S4 u4 => ?_
  exact sif_true (S4.ld 0 rfl (x := (1 : Int)) rfl (sif_true (S4.ld 0 rfl (x := (5 : Int)) rfl (hK w4 (e1.trans S4.upd)))))
theorem same_walk {enc at_ k : Int} {s : Sl} {l : Bs} (hs : SlX w s 1 (bv l)) (hl : l.length < 2 ^ 60) (h1 : In64 at_) (h2 : In64 k) {K : Bool → World → Prop} (hK : ∀ w', Ext w w' → K true w') :
    callT Tryz.prog 5 #[.agg (Cells.vals c24 (stT enc s)).toArray, .int .i64 at_, .int .i64 k] (.one (.one .bool)) K w := by
  refine F5_calls (a0 := stT enc s) ?_
  unfold F5
  have tr : ∀ {W : World} {b : Bool} {X Y : World → Prop}, b = true → X W → sif b X Y W := fun hb hx => by subst hb; exact sif_true hx
  refine (St.start w).newO fun b1 w1 S1 e1 => S1.lds 0 (stT enc s) rfl (opened_call (hs.ext e1) hl fun p e O M sa w2 hB e2 _ _ => ?_)
  have e02 := e1.trans e2
  have h0 := hB.txt; have lims := h0.lims; have few := h0.few
  have hal := hal e M
  have lst := hB.lst
  obtain ⟨A, hA⟩ : ∃ A, A = atoms (aOf e M) := ⟨_, rfl⟩
  have hsl : A.length = sa.len := by have := lst.len1; rw [List.length_map] at this; rw [hA]; exact this
  rw [← hA] at hal
  rw [← hA] at lst
  have hAl : A.length < 2 ^ 40 := by omega
  refine (St.start w2).newO fun b4 w3 S3 e3 => S3.aggSt 0 rfl rfl rfl rfl fun w4 S4 u4 => ?_
  have S4 : St (fun _ => False) w2 w4 [(b4, bothO p sa)] := S4
  refine join_r (fun x W => x = (false, ()) ∧ St (fun _ => False) w2 W [(b4, bothO p sa)]) (sif_false (fixed1_call fun w5 e5 => sif_false (fixed4_call fun w6 e6 => ⟨rfl, (S4.ext e5).ext e6⟩))) ?_
  rintro _ w5 ⟨rfl, S5⟩
  refine sif_false (S5.ld 0 rfl (x := sa) rfl ?_)
  rw [← hsl]
  refine within_call (n := A.length) h1 (by omega) ?_
  have hwa := within_le at_ A.length
  generalize within at_ A.length = ap at *
  refine join_r (fun x W => (x = (63, ()) ∨ x = (61, ())) ∧ w5 = W) (chk_r (by decide) (sif_r (fun _ => ⟨.inl rfl, rfl⟩) (fun _ => ⟨.inr rfl, rfl⟩))) ?_
  rintro x12 _ ⟨h12, rfl⟩
  refine join_r (fun x W => (∃ k : Int, x = (k, ()) ∧ (k = 61 ∨ k = 63 ∨ k = 69)) ∧ w5 = W) (chk_r (by decide) (sif_r (fun _ => ⟨⟨69, rfl, .inr (.inr rfl)⟩, rfl⟩) (fun _ => ⟨⟨x12.1, rfl, by rcases h12 with rfl | rfl <;> simp⟩, rfl⟩))) ?_
  rintro _ _ ⟨⟨kd, rfl, hkd⟩, rfl⟩
  refine S5.ld 0 rfl (x := some (at0 p)) rfl ?_
  refine take_call (kind := kd) (count := 0) (arg := 0) (h0.ext S5.upd) (by decide) fun w6 e6 => ?_
  have hgood := take_good A (ap : Int) kd 0 0
  have h90 := take_90 (A := A) (at_ := (ap : Int)) hkd (by omega) (by omega)
  have hsame := fun q => take_same (A := A) (at_ := (ap : Int)) (p := q) hkd
  rw [← hA]
  generalize takeP A (ap : Int) kd 0 0 = T at *
  obtain ⟨⟨f, t, ln⟩, er⟩ := T
  dsimp only at hgood h90 hsame ⊢
  refine (S5.ext e6).newO fun b17 w7 S7 e7 => S7.aggSt 0 rfl rfl rfl rfl fun w8 S8 u8 => ?_
  have S8 : St (fun _ => False) w2 w8 [(b17, spanO (f, t, ln)), (b4, bothO p sa)] := S8
  refine sif_r (fun hz => ?_) (fun hz => ?_)
  · simp only [bne_iff_ne, ne_eq] at hz
    have := hK w8 (e02.trans S8.upd)
    rw [show er = 90 by omega]
    exact this
  simp only [bne_eq_false_iff_eq] at hz
  subst hz
  have hg1 := hgood.lo; have hg2 := hgood.le; have hg3 := hgood.hi
  dsimp only at hg1 hg2 hg3
  refine S8.lds 0 (spT (f, t, ln)) rfl ?_
  refine good_call (p := p) (s := sa) (sp := (f, t, ln)) (S8.at_ 1 rfl) (lst.ext S8.upd).in hAl hgood fun w9 e9 => sif_false ?_
  have S9 := S8.ext e9
  refine S9.ld 0 rfl (x := t) rfl (S9.ld 0 rfl (x := f) rfl (chk_r (by decide) ?_))
  obtain ⟨q, hq⟩ : ∃ q : Int, q = (t - f) / 60 := ⟨_, rfl⟩
  have est : IntKind.wrap .i64 ((1 : Int) + IntKind.wrap .i64 (Int.tdiv (IntKind.wrap .i64 (t - f)) 60)) = 1 + q := by
    rw [wrap64 (a := t - f) (by omega) (by omega), Int.tdiv_eq_ediv_of_nonneg (by omega), ← hq, wrap64 (a := q) (by omega) (by omega), wrap64 (by omega) (by omega)]
  rw [est]
  have tk : ∀ {W : World} {n : Int} {K : Bool → World → Prop}, St (fun _ => False) w2 W [(b17, spanO (f, t, ln)), (b4, bothO p sa)] → f ≤ n → n < t → (∀ w', St (fun _ => False) w2 w' [(b17, spanO (f, t, ln)), (b4, bothO p sa)] → K true w') → callT Tryz.prog 24 #[.pointer (some (at0 b4)), .int .i64 n, .int .i64 kd, .agg (Cells.vals c34 (spT (f, t, ln))).toArray] (.one (.one .bool)) K W := by
    intro W n K SW hn1 hn2 hk
    exact taken_call (p := p) (s := sa) (sp := (f, t, ln)) (h0.ext SW.upd) (SW.at_ 1 rfl) (by rw [← hA]; exact hsame n rfl hn1 hn2) fun w' e' => hk w' (SW.ext e')
  refine join_r (fun _ W => St (fun _ => False) w2 W [(b17, spanO (f, t, ln)), (b4, bothO p sa)]) ?_ ?_
  · refine S9.ld 0 rfl (x := f) rfl ?_
    refine sloop_r (fun x W => ∃ n : Int, x = (n, ()) ∧ f ≤ n ∧ n ≤ t + (1 + q) ∧ St (fun _ => False) w2 W [(b17, spanO (f, t, ln)), (b4, bothO p sa)]) (fun x _ => (t - x.1).toNat) ⟨f, rfl, Int.le_refl _, by omega, S9⟩ ?_
    rintro _ W ⟨n, rfl, hn1, hn2, SW⟩
    refine SW.ld 0 rfl (x := t) rfl (sif_r (fun hc => ?_) (fun _ => SW))
    simp only [decide_eq_true_eq] at hc
    have ew : IntKind.wrap .i64 (n + (1 + q)) = n + (1 + q) := wrap64 (by omega) (by omega)
    refine SW.lds 0 (spT (f, t, ln)) rfl (tk SW hn1 hc fun w' SW' => sif_false ?_)
    dsimp only
    rw [ew]
    exact ⟨⟨n + (1 + q), rfl, by omega, by omega, SW'⟩, by omega⟩
  · rintro _ W SW
    refine SW.ld 0 rfl (x := f) rfl (SW.ld 0 rfl (x := t) rfl (sif_r (fun _ => hK W (e02.trans SW.upd)) (fun hne => ?_)))
    simp only [beq_eq_false_iff_ne, ne_eq] at hne
    refine SW.ld 0 rfl (x := t) rfl (SW.lds 0 (spT (f, t, ln)) rfl ?_)
    rw [wrap64 (a := t - 1) (by omega) (by omega)]
    exact tk SW (by omega) (by omega) fun w' SW' => hK w' (e02.trans SW'.upd)
end
end Go.Proofs.YtabcpghhfeplaaaGreat
set_option linter.unusedSimpArgs false
set_option linter.unusedVariables false
namespace Go.Proofs.YtabcpghhfeplaaaGreat
open Go Go.Vx Go.ChangeShapes Go.WideShapes Go.RowKit
set_option maxRecDepth 100000 in
theorem objectSame_lifted (os : Os) (started : os.Started) (H : Type) (enc : TypeId × Value → H) :
    ReturnsInHanded {} Tryz.checked os 5 .any (Rows.objectSameSpec.pre6 enc Tryz.prog Tryz.f5 Rows.objectSameRow.domain false) (Rows.objectSameSpec.post enc Tryz.prog Tryz.f5 false true false false) := by
  refine returnsInHanded_of_change_sized (C := Tryz.checked) Tryz.own started (by kernel_rfl) Tryz.func5
    (ChangeSpec.witness6 (enc := enc) (C := Tryz.checked) false ⟨#[], #[.agg #[.int .i64 0, .slice none 0 0], .int .i64 0, .int .i64 0], []⟩ 8 (by kernel_rfl) (by kernel_rfl) (by kernel_rfl) (by kernel_rfl)) ?_
  intro W base args ds gs before hval0 hW _ hwt0 _
  have hval : ∀ (j : Nat) t v, Tryz.f5.params[j]? = some t → args[j]? = some v → Value.okWide Tryz.prog W .any base t v := hval0
  have hwt : (DataW.weightsEach Tryz.prog (Tryz.f5.params.toList ++ []) (ds ++ gs)).all (· ≤ reachBytes) = true := hwt0
  have hW' := hW
  obtain ⟨p, q, hA0, hV, rfl, hfz, hnd⟩ := hW
  have hA : DataW.TrodAll enc Tryz.prog W 0 (fun _ => true) true Tryz.f5.params.toList args.toList ds p := hA0
  clear hA0 hval0 hwt0
  rw [Tryz.params5] at hA hval hwt
  obtain ⟨rfl, rfl⟩ := trodVars_none hV
  obtain ⟨hn1, hn2, hT⟩ := trodAll_get hA
  obtain ⟨v0, v1, v2, hv⟩ := list_3 args.toList hn1
  obtain rfl : args = #[v0, v1, v2] := by cases args; simp_all
  obtain ⟨d0, d1, d2, rfl⟩ := list_3 ds hn2
  obtain ⟨p0, q0⟩ := hT 0 24 v0 d0 rfl rfl rfl
  obtain ⟨c0, s0, l0, rfl, h0, n0⟩ := arg_start (hval 0 24 v0 rfl rfl) q0 (weigh hwt 0 rfl rfl)
  obtain ⟨p1, q1⟩ := hT 1 3 v1 d1 rfl rfl rfl
  obtain ⟨a1, rfl, i1⟩ := arg_int (hval 1 3 v1 rfl rfl) q1 (weigh hwt 1 rfl rfl)
  obtain ⟨p2, q2⟩ := hT 2 3 v2 d2 rfl rfl rfl
  obtain ⟨a2, rfl, i2⟩ := arg_int (hval 2 3 v2 rfl rfl) q2 (weigh hwt 2 rfl rfl)
  have walk := same_walk (enc := c0) h0 (by omega) i1 i2 (K := fun r w' => r = true ∧ Ext W w') fun w' e => ⟨rfl, e⟩
  refine walk.mono fun e W' ⟨x, he, hx, hext⟩ => ⟨.bool true, ?_, ?_⟩
  · subst hx; exact he
  · exact post_same hW' rfl rfl u4 rfl Tryz.laidOut (fun t ht => by
      rw [Tryz.params5] at ht
      have ht : t ∈ [24, 3, 3] := ht
      simp only [List.mem_cons, List.not_mem_nil, or_false] at ht
      rcases ht with rfl | rfl | rfl <;> exact recs (by simp)) hext
theorem objectSame_holds : Rows.ObjectSameSaid :=
  OpenClaim.holds_of_wide 5 Tryz.f5 rfl rfl rfl rfl rfl rfl rfl ⟨rfl, rfl, rfl, rfl, rfl⟩ rfl rfl rfl rfl rfl (by kernel_rfl) Tryz.func5 (by kernel_rfl)
    (of_decide_eq_true (by kernel_rfl)) (by unfold Func.isWrapper; rw [if_neg (by decide +kernel)]; exact ⟨rfl, rfl⟩)
    (fun os started H enc _ => objectSame_lifted os started H enc)
end Go.Proofs.YtabcpghhfeplaaaGreat
