/- The law holds for every input: it returns true, and each argument reads behind the call as it did. Conditions: those of the form alone. -/
import Derived.Test.YtabcpghhfeplaaaGreatOPa5
set_option linter.unusedVariables false
set_option linter.unusedSimpArgs false
set_option linter.unusedSectionVars false
set_option maxRecDepth 100000
namespace Go.Proofs.YtabcpghhfeplaaaGreat
open Go Go.Vx Go.ChangeShapes Go.WideShapes Go.RowKit Cdc
theorem Tryz.own : ownKnob Tryz.prog.godebug = none := by kernel_rfl
theorem Tryz.laidOut : laidOutB Tryz.prog = true := by kernel_rfl
theorem ui : Tryz.prog.underlying 3 = some (.int .i64) := i3_ok.und
theorem ub : Tryz.prog.underlying 5 = some (.int .u8) := i5_ok.und
theorem u4 : Tryz.prog.underlying 4 = some .bool := i4_ok.und
theorem uInts : Tryz.prog.underlying 26 = some (.slice 3) := i26_ok.und
theorem uBytes : Tryz.prog.underlying 22 = some (.slice 5) := i22_ok.und
theorem uOps : Tryz.prog.underlying 41 = some (.slice 43) := by kernel_rfl
theorem ci : Tryz.prog.cellsOf 3 = 1 := by kernel_rfl
theorem bi : Tryz.prog.bytesOf 3 = 8 := by kernel_rfl
theorem cby : Tryz.prog.cellsOf 5 = 1 := by kernel_rfl
theorem bby : Tryz.prog.bytesOf 5 = 1 := by kernel_rfl
theorem cbs : Tryz.prog.cellsOf 22 = 1 := by kernel_rfl
theorem cis : Tryz.prog.cellsOf 26 = 1 := by kernel_rfl
theorem cstart : Tryz.prog.cellsOf 24 = 2 := by kernel_rfl
theorem cop : Tryz.prog.cellsOf 43 = 7 := by kernel_rfl
theorem bop : Tryz.prog.bytesOf 43 = 72 := by kernel_rfl
theorem sStart : ∃ fs : Array Field, Tryz.prog.underlying 24 = some (.struct fs) ∧ fs.toList.map (fun f => (f.type, f.offset)) = [(3, 0), (22, 1)] := ⟨_, i24_ok.und, rfl⟩
theorem sOp : ∃ fs : Array Field, Tryz.prog.underlying 43 = some (.struct fs) ∧ fs.toList.map (fun f => (f.type, f.offset)) = [(3, 0), (3, 1), (3, 2), (3, 3), (3, 4), (3, 5), (26, 6)] := ⟨_, i43_ok.und, rfl⟩
theorem rows_of2 {cs : List Cell} {β : Type} {Q : Cells.T cs → β → Prop} : ∀ (rows : List (List Value)), (∀ r ∈ rows, ∃ x y, r = Cells.vals cs x ∧ Q x y) → ∃ (xs : List (Cells.T cs)) (ys : List β), rows.flatten = flat cs xs ∧ xs.length = rows.length ∧ xs.length = ys.length ∧ ∀ (i : Nat) x y, xs[i]? = some x → ys[i]? = some y → Q x y
 | [], _ => ⟨[], [], rfl, rfl, rfl, fun i x y hx => by simp at hx⟩
 | r :: rs, h => by
  obtain ⟨x, y, hx, hq⟩ := h r List.mem_cons_self
  obtain ⟨xs, ys, h1, h2, h3, h4⟩ := rows_of2 rs fun r' hr' => h r' (List.mem_cons_of_mem _ hr')
  refine ⟨x :: xs, y :: ys, ?_, by simp [h2], by simp [h3], fun i x' y' hx' hy' => ?_⟩
  ·rw [List.flatten_cons, h1, hx]; rfl
  ·match i with
   | 0 => cases hx'; cases hy'; exact hq
   | i + 1 => exact h4 i x' y' (by simpa using hx') (by simpa using hy')
structure LOp where
 who : Int
 kind : Int
 at_ : Int
 move : Int
 count : Int
 arg : Int
 put : List Int
structure LOp.In (w : World) (y : Cells.T c43) (o : LOp) : Prop where
 who : y.1 = o.who
 kind : y.2.1 = o.kind
 at_ : y.2.2.1 = o.at_
 move : y.2.2.2.1 = o.move
 count : y.2.2.2.2.1 = o.count
 arg : y.2.2.2.2.2.1 = o.arg
 put : SlX w y.2.2.2.2.2.2.1 1 (iv o.put)
 i1 : In64 o.who ∧ In64 o.kind ∧ In64 o.at_ ∧ In64 o.move ∧ In64 o.count ∧ In64 o.arg
 i2 : ∀ n ∈ o.put, In64 n
 len : o.put.length ≤ 2 ^ 44
 lt : ∀ k, y.2.2.2.2.2.2.1.blk k → y.2.2.2.2.2.2.1.len = 0 ∨ k < w.heap.size
structure LOp.All (w : World) (s : Sl) (ys : List (Cells.T c43)) (os : List LOp) : Prop where
 row : SlX w s 7 (flat c43 ys)
 len : ys.length = os.length
 few : os.length ≤ 2 ^ 42
 each : ∀ (i : Nat) y o, ys[i]? = some y → os[i]? = some o → o.In w y
theorem wf64 {n : Int} (h : (Lit.int .i64 n).wf = true) : In64 n := by
 have h1 : IntKind.min .i64 = -9223372036854775808 := rfl
 have h2 : IntKind.max .i64 = 9223372036854775807 := rfl
 simp [Lit.wf, h1, h2] at h
 unfold In64
 omega
section
variable {H : Type} {enc : TypeId × Value → H} {W : World} {base fuel : Nat} {held : Bool}
theorem open_fields {t : TypeId} {fs : Array Field} {L : List (TypeId × Nat)} {cs : List Value} {x : DataW H × List MemPlace} (hu : Tryz.prog.underlying t = some (.struct fs)) (hfs : fs.toList.map (fun f => (f.type, f.offset)) = L)
  (h : DataW.trod enc Tryz.prog W base (fun _ => true) held fuel t cs = some x) (hw : ∀ n ∈ x.1.weights Tryz.prog t, n ≤ reachBytes) :
  ∃ n, ∀ (i : Nat) (t' o : Nat), L[i]? = some (t', o) → ∃ y, DataW.trod enc Tryz.prog W base (fun _ => true) held n t' ((cs.drop o).take (Tryz.prog.cellsOf t')) = some y ∧ ∀ k ∈ y.1.weights Tryz.prog t', k ≤ reachBytes := by
 obtain ⟨xs, n, _, rfl, _, hxl, hall⟩ := DataW.trod_struct hu h
 refine ⟨n, fun i t' o hi => ?_⟩
 rw [← hfs, List.getElem?_map] at hi
 obtain ⟨f, hf, he⟩ := Option.map_eq_some_iff.1 hi
 cases he
 have hf' : fs[i]? = some f := by simpa using hf
 have h1 := hall i f hf'
 have hil : i < xs.length := by rw [hxl]; exact (Array.getElem?_eq_some_iff.1 hf').1
 rw [List.getElem?_eq_getElem hil] at h1
 refine ⟨xs[i], h1, fun k hk => hw k ?_⟩
 simp only [DataW.weights, hu]
 exact DataW.weights_mem_each (j := i) (t := f.type) (d := xs[i].1) (by rw [List.getElem?_map, hf]; rfl) (by rw [List.getElem?_map, List.getElem?_eq_getElem hil]; rfl) k hk
theorem open_u8 {cs : List Value} {x : DataW H × List MemPlace} (h : DataW.trod enc Tryz.prog W base (fun _ => true) held fuel 5 cs = some x) : ∃ b : UInt8, cs = [.int .u8 (b.toNat : Int)] := by
 have : ∃ n, cs = [.int .u8 n] ∧ (Lit.int .u8 n).wf = true := by
  cases fuel with
  | zero => simp [DataW.trod] at h
  | succ m =>
   unfold DataW.trod at h
   rw [ub] at h
   split at h <;> simp_all
 obtain ⟨n, rfl, hn⟩ := this
 have hr : 0 ≤ n ∧ n < 256 := by
  have h1 : IntKind.min .u8 = 0 := rfl
  have h2 : IntKind.max .u8 = 255 := rfl
  simp [Lit.wf, h1, h2] at hn
  omega
 refine ⟨UInt8.ofNat n.toNat, ?_⟩
 have : (UInt8.ofNat n.toNat).toNat = n.toNat := by
  rw [UInt8.toNat_ofNat']
  exact Nat.mod_eq_of_lt (by omega)
 rw [this]
 congr 2
 omega
theorem open_ints {cs : List Value} {x : DataW H × List MemPlace} (h : DataW.trod enc Tryz.prog W base (fun _ => true) held fuel 26 cs = some x) (hw : ∀ n ∈ x.1.weights Tryz.prog 26, n ≤ reachBytes) :
  ∃ (s : Sl) (l : List Int), cs = [.slice s.a s.len s.cap] ∧ SlX W s 1 (iv l) ∧ l.length ≤ 2 ^ 44 ∧ ∀ n ∈ l, In64 n := by
 obtain ⟨s, l, h1, h2, h3, h4⟩ := open_text uInts ui ci bi h hw
 exact ⟨s, l, h1, h2, by omega, fun n hn => wf64 (h4 n hn)⟩
theorem open_bytes {cs : List Value} {x : DataW H × List MemPlace} (h : DataW.trod enc Tryz.prog W base (fun _ => true) held fuel 22 cs = some x) (hw : ∀ n ∈ x.1.weights Tryz.prog 22, n ≤ reachBytes) :
  ∃ (s : Sl) (l : List UInt8), cs = [.slice s.a s.len s.cap] ∧ SlX W s 1 (bv l) ∧ l.length ≤ 2 ^ 47 := by
 obtain ⟨s, rows, rfl, hs, hl, hby, hr⟩ := open_rows uBytes cby (by decide) h hw
 obtain ⟨xs, ls, h1, h2, h3, h4⟩ := rows_of2 (cs := [.int .u8]) (β := UInt8) (Q := fun x y => x.1 = (y.toNat : Int)) rows (fun r hr' => by
  obtain ⟨_, n, y, hy, _⟩ := hr r hr'
  obtain ⟨b, rfl⟩ := open_u8 hy
  exact ⟨((b.toNat : Int), ()), b, rfl, rfl⟩)
 refine ⟨s, ls, rfl, ?_, ?_⟩
 ·rw [h1] at hs
  have e : flat [.int .u8] xs = bv ls := by
   clear h1 h2 hs
   induction xs generalizing ls with
   | nil =>
    cases ls with
    | nil => rfl
    | cons y r => simp at h3
   | cons x r ih =>
    cases ls with
    | nil => simp at h3
    | cons y q =>
     have h0 := h4 0 x y rfl rfl
     have := ih q (by simpa using h3) fun i x' y' hx hy => h4 (i + 1) x' y' (by simpa using hx) (by simpa using hy)
     simp only [flat, List.flatMap_cons] at this ⊢
     rw [this]
     obtain ⟨n, ⟨⟩⟩ := x
     dsimp only at h0
     subst h0
     rfl
  rw [e] at hs; exact hs
 ·rw [← h3, h2, hl]
  rw [bby] at hby
  unfold reachBytes at hby
  omega
theorem open_start {cs : List Value} {x : DataW H × List MemPlace} (hl : cs.length = 2) (h : DataW.trod enc Tryz.prog W base (fun _ => true) held fuel 24 cs = some x) (hw : ∀ n ∈ x.1.weights Tryz.prog 24, n ≤ reachBytes) :
  ∃ (c : Int) (s : Sl) (l : List UInt8), cs = Cells.vals c24 (stT c s) ∧ SlX W s 1 (bv l) ∧ l.length ≤ 2 ^ 47 := by
 obtain ⟨fs, hu, hfs⟩ := sStart
 obtain ⟨n, hall⟩ := open_fields hu hfs h hw
 obtain ⟨v0, v1, rfl⟩ : ∃ v0 v1, cs = [v0, v1] := by
  match cs, hl with
  | [v0, v1], _ => exact ⟨v0, v1, rfl⟩
 obtain ⟨y0, h0, _⟩ := hall 0 _ _ rfl
 obtain ⟨y1, h1, hw1⟩ := hall 1 _ _ rfl
 rw [ci] at h0
 rw [cbs] at h1
 obtain ⟨n0, e0, _⟩ := open_i64 ui h0
 obtain ⟨s, l, e1, g1, g2⟩ := open_bytes h1 hw1
 simp at e0 e1
 subst e0 e1
 exact ⟨n0, s, l, rfl, g1, g2⟩
theorem SlX.lt {w : World} {s : Sl} {sz : Nat} {us : List Value} (h : SlX w s sz us) : ∀ k, s.blk k → s.len = 0 ∨ k < w.heap.size := by
 intro k hk
 rcases h.at_ with ⟨h, _⟩ | ⟨t, h⟩
 ·exact .inl h
 ·exact .inr (h.blk_lt hk)
theorem open_op {cs : List Value} {x : DataW H × List MemPlace} (hl : cs.length = 7) (h : DataW.trod enc Tryz.prog W base (fun _ => true) held fuel 43 cs = some x) (hw : ∀ n ∈ x.1.weights Tryz.prog 43, n ≤ reachBytes) :
  ∃ (y : Cells.T c43) (o : LOp), cs = Cells.vals c43 y ∧ o.In W y := by
 obtain ⟨fs, hu, hfs⟩ := sOp
 obtain ⟨n, hall⟩ := open_fields hu hfs h hw
 obtain ⟨v0, v1, v2, v3, v4, v5, v6, rfl⟩ : ∃ v0 v1 v2 v3 v4 v5 v6, cs = [v0, v1, v2, v3, v4, v5, v6] := by
  match cs, hl with
  | [v0, v1, v2, v3, v4, v5, v6], _ => exact ⟨v0, v1, v2, v3, v4, v5, v6, rfl⟩
 obtain ⟨y0, h0, _⟩ := hall 0 _ _ rfl
 obtain ⟨y1, h1, _⟩ := hall 1 _ _ rfl
 obtain ⟨y2, h2, _⟩ := hall 2 _ _ rfl
 obtain ⟨y3, h3, _⟩ := hall 3 _ _ rfl
 obtain ⟨y4, h4, _⟩ := hall 4 _ _ rfl
 obtain ⟨y5, h5, _⟩ := hall 5 _ _ rfl
 obtain ⟨y6, h6, hw6⟩ := hall 6 _ _ rfl
 rw [ci] at h0 h1 h2 h3 h4 h5
 rw [cis] at h6
 obtain ⟨n0, e0, i0⟩ := open_i64 ui h0
 obtain ⟨n1, e1, i1⟩ := open_i64 ui h1
 obtain ⟨n2, e2, i2⟩ := open_i64 ui h2
 obtain ⟨n3, e3, i3⟩ := open_i64 ui h3
 obtain ⟨n4, e4, i4⟩ := open_i64 ui h4
 obtain ⟨n5, e5, i5⟩ := open_i64 ui h5
 obtain ⟨s6, l6, e6, g6, k6, j6⟩ := open_ints h6 hw6
 simp at e0 e1 e2 e3 e4 e5 e6
 subst e0 e1 e2 e3 e4 e5 e6
 exact ⟨(n0, n1, n2, n3, n4, n5, s6, ()), ⟨n0, n1, n2, n3, n4, n5, l6⟩, rfl, ⟨rfl, rfl, rfl, rfl, rfl, rfl, g6, ⟨wf64 i0, wf64 i1, wf64 i2, wf64 i3, wf64 i4, wf64 i5⟩, j6, k6, SlX.lt g6⟩⟩
theorem open_ops {cs : List Value} {x : DataW H × List MemPlace} (h : DataW.trod enc Tryz.prog W base (fun _ => true) held fuel 41 cs = some x) (hw : ∀ n ∈ x.1.weights Tryz.prog 41, n ≤ reachBytes) :
  ∃ (s : Sl) (ys : List (Cells.T c43)) (os : List LOp), cs = [.slice s.a s.len s.cap] ∧ LOp.All W s ys os := by
 obtain ⟨s, rows, rfl, hs, hl, hby, hr⟩ := open_rows uOps cop (by decide) h hw
 obtain ⟨xs, ls, h1, h2, h3, h4⟩ := rows_of2 (cs := c43) (β := LOp) (Q := fun y o => o.In W y) rows (fun r hr' => by
  obtain ⟨hrl, n, y, hy, hwy⟩ := hr r hr'
  exact open_op hrl hy hwy)
 rw [h1] at hs
 refine ⟨s, xs, ls, rfl, ⟨hs, h3, ?_, h4⟩⟩
 rw [← h3, h2, hl]
 rw [bop] at hby
 unfold reachBytes at hby
 omega
end
theorem trodAll_get {H : Type} {enc : TypeId × Value → H} {P : Program} {w : World} {base : Nat} {spare : Nat → Bool} {held : Bool} : ∀ {ts : List TypeId} {vs : List Value} {ds : List (DataW H)} {ps : List MemPlace}, DataW.TrodAll enc P w base spare held ts vs ds ps →
  vs.length = ts.length ∧ ds.length = ts.length ∧ ∀ (j : Nat) t v d, ts[j]? = some t → vs[j]? = some v → ds[j]? = some d → ∃ p, DataW.Trod enc P w base spare held t v d p
 | [], [], [], _, _ => ⟨rfl, rfl, fun j t v d h => by simp at h⟩
 | t :: ts, v :: vs, d :: ds, ps, ⟨p, q, h1, h2, e⟩ => by
  obtain ⟨a, b, c⟩ := trodAll_get h2
  refine ⟨by simp [a], by simp [b], fun j t' v' d' ht hv hd => ?_⟩
  match j with
  | 0 => cases ht; cases hv; cases hd; exact ⟨p, h1⟩
  | j + 1 => exact c j t' v' d' (by simpa using ht) (by simpa using hv) (by simpa using hd)
 | [], _ :: _, _, _, h => h.elim
 | [], [], _ :: _, _, h => h.elim
 | _ :: _, [], _, _, h => h.elim
 | _ :: _, _ :: _, [], _, h => h.elim
theorem list_3 {α : Type} (l : List α) (h : l.length = 3) : ∃ v0 v1 v2, l = [v0, v1, v2] := by
 match l, h with
 | [v0, v1, v2], _ => exact ⟨v0, v1, v2, rfl⟩
theorem weigh {H : Type} {ts : List TypeId} {ds : List (DataW H)} (h : (DataW.weightsEach Tryz.prog ts ds).all (· ≤ reachBytes) = true) (j : Nat) {t : TypeId} {d : DataW H} (ht : ts[j]? = some t) (hd : ds[j]? = some d) : ∀ n ∈ d.weights Tryz.prog t, n ≤ reachBytes := by
 intro n hn
 have := List.all_eq_true.1 h _ (DataW.weights_mem_each ht hd n hn)
 simpa using this
section
variable {H : Type} {enc : TypeId × Value → H} {W : World} {base : Nat}
theorem arg_ops {v : Value} {d : DataW H} {p : List MemPlace} (hv : Value.okWide Tryz.prog W .any base 41 v) (h : DataW.Trod enc Tryz.prog W 0 (fun _ => true) true 41 v d p) (hw : ∀ n ∈ d.weights Tryz.prog 41, n ≤ reachBytes) :
  ∃ (s : Sl) (ys : List (Cells.T c43)) (os : List LOp), v = .slice s.a s.len s.cap ∧ LOp.All W s ys os := by
 obtain ⟨a, len, cap, rfl⟩ := okWide_slice uOps hv
 obtain ⟨n, hn⟩ := h
 obtain ⟨s, ys, os, e, h1⟩ := open_ops hn hw
 exact ⟨s, ys, os, by simpa [Value.cells] using e, h1⟩
theorem arg_start {v : Value} {d : DataW H} {p : List MemPlace} (hv : Value.okWide Tryz.prog W .any base 24 v) (h : DataW.Trod enc Tryz.prog W 0 (fun _ => true) true 24 v d p) (hw : ∀ n ∈ d.weights Tryz.prog 24, n ≤ reachBytes) :
  ∃ (c : Int) (s : Sl) (l : List UInt8), v = .agg (Cells.vals c24 (stT c s)).toArray ∧ SlX W s 1 (bv l) ∧ l.length ≤ 2 ^ 47 := by
 obtain ⟨fs, hu, _⟩ := sStart
 obtain ⟨cs, rfl, hsz⟩ := okWide_struct hu hv
 obtain ⟨n, hn⟩ := h
 rw [cstart] at hsz
 obtain ⟨c, s, l, e, h1, h2⟩ := open_start (cs := cs.toList) (by simpa using hsz) (by simpa [Value.cells] using hn) hw
 exact ⟨c, s, l, by rw [← e], h1, h2⟩
end
theorem tsize : 200 ≤ Tryz.prog.types.size := of_decide_eq_true (by kernel_rfl)
theorem recInt : Tryz.prog.readableRec 3 = true := by kernel_rfl
theorem recInts : Tryz.prog.readableRec 26 = true := by kernel_rfl
theorem recOps : Tryz.prog.readableRec 41 = true := by kernel_rfl
theorem recStart : Tryz.prog.readableRec 24 = true := by kernel_rfl
theorem recs {t : TypeId} (h : t = 3 ∨ t = 26 ∨ t = 41 ∨ t = 24) : Tryz.prog.readableRec t = true ∧ t < Tryz.prog.types.size := by
 have := tsize
 rcases h with rfl | rfl | rfl | rfl
 ·exact ⟨recInt, Nat.lt_of_lt_of_le (by decide) this⟩
 ·exact ⟨recInts, Nat.lt_of_lt_of_le (by decide) this⟩
 ·exact ⟨recOps, Nat.lt_of_lt_of_le (by decide) this⟩
 ·exact ⟨recStart, Nat.lt_of_lt_of_le (by decide) this⟩
end Go.Proofs.YtabcpghhfeplaaaGreat
namespace Go.Proofs.YtabcpghhfeplaaaGreat
open Go Go.Vx Cdc Trx Gly Clu Lns Obx
section
variable {w w' : World} {S : Nat → Prop} {p : Nat} {e : Enc} {lim na : Nat} {O : Nat → Prop} {M : Parts}
theorem copied_call {A : List Int} {s : Sl} {t : TypeId} (hs : SlIn w s t 1 (iv A)) (hl : A.length < 2 ^ 40) {K : Sl → World → Prop} (hK : ∀ s' w', SlOwn w' w.heap.size s' 3 1 (iv A) → Ext w w' → K s' w') :
  callT Tryz.prog 46 #[.slice s.a s.len s.cap] (.one (.one .sl)) K w := by
 refine F46_calls ?_
 unfold F46
 have hlen : A.length = s.len := by have := hs.len1; rwa [List.length_map] at this
 refine join_r (fun x W => SlOwn W w.heap.size x.1 3 1 (iv A) ∧ Ext w W) ?_ (fun x W h => hK _ _ h.1 h.2)
 refine sloop_r (fun x W => ∃ i : Nat, i ≤ A.length ∧ x.2 = ((i : Int), ()) ∧ SlOwn W w.heap.size x.1 3 1 (iv (A.take i)) ∧ Ext w W) (fun x _ => ((A.length : Int) - x.2.1).toNat) ⟨0, Nat.zero_le _, rfl, SlOwn.nil _ _ _ _, Ext.refl w⟩ ?_
 rintro ⟨r, _⟩ W ⟨i, hi, rfl, hr, eW⟩
 dsimp only at hr ⊢
 have hrl := hr.len1
 rw [List.length_map, List.length_take] at hrl
 refine sif_r (fun hc => ?_) (fun hc => ?_)
 ·simp only [decide_eq_true_eq] at hc
  obtain ⟨a, ha⟩ : ∃ a, A[i]? = some a := ⟨_, List.getElem?_eq_getElem (by omega)⟩
  have ew : IntKind.wrap .i64 ((i : Int) + 1) = ((i + 1 : Nat) : Int) := by rw [wrap64 (by omega) (by omega)]; omega
  rw [ew]
  refine ix_ld (c := .int .i64) (xs := A) (hs.ext eW) (by omega) (x := a) (by rw [Int.toNat_natCast]; exact ha) fun q => newO_r fun b7 w4 e4 n4 hb4 _ => ?_
  refine append_rx eInts eInts.ts_ (x := ⟨some (at0 b7), 1, 1⟩) (hr.ext e4) (iv_box n4) (fun v hv => by rw [List.mem_singleton.1 hv]; rfl) (by
   show (r.len + 1 + (r.len + 1) / 4 + 512) * 8 ≤ 2 ^ 48
   omega) (by have := eW.size; have := e4.size; omega) fun r' w5 o5 l5 u5 k5 => ?_
  have e5 : iv (A.take i) ++ [.int .i64 a] = iv (A.take (i + 1)) := by rw [List.take_add_one, ha]; simp
  rw [e5] at o5
  exact ⟨⟨i + 1, by omega, rfl, o5, (eW.trans e4).step u5 fun k hk => hr.blk_ge hk⟩, by omega⟩
 ·simp only [decide_eq_false_iff_not] at hc
  have e5 : A.take i = A := List.take_of_length_le (by omega)
  rw [e5] at hr
  exact ⟨hr, eW⟩
abbrev bothO (p : Nat) (s : Sl) : Obj := .cells #[.pointer (some (at0 p)), .slice s.a s.len s.cap] 28 (0, 0)
abbrev spanO (s : Int × Int × Int) : Obj := .cells #[.int .i64 s.1, .int .i64 s.2.1, .int .i64 s.2.2] 34 (0, 0)
theorem ex_paras : parasP exA 2 69 0 = ((0, 5, 1), 0) := by kernel_rfl
end
section
variable {w w' : World} {S : Nat → Prop} {p : Nat} {e : Enc} {lim na : Nat} {O : Nat → Prop} {M : Parts}
theorem fixed_start {n : Int} {K : Bool → World → Prop}
  (hK : ∀ p M O w1 b4 b5 s w2, Txt w1 p .u8 65536 0 O M → atoms (aOf .u8 M) = exA → Ext w w1 → St (fun _ => False) w1 w2 [(b5, spanO (0, 0, 0)), (b4, bothO p s)] →
   (join (S := Int × Unit) (fun J6 =>
   sif (n == (1 : Int)) (
    ld (.ptr) (at0 b4) fun (x8 : Option Addr) =>
    callT Tryz.prog 29 #[(.pointer x8), (.int .i64 (2 : Int)), (.agg #[(.int .i64 (61 : Int)), (.int .i64 (0 : Int)), (.int .i64 (0 : Int))])] (.tup [(.agg c34), (.one (.int .i64))]) fun (x9 : ((Int × Int × Int × Unit) × Int × Unit)) =>
    aggSt (at0 b5) (.agg (Cells.vals c34 x9.1).toArray) 3 <|
    J6 (x9.2.1, ())) (
    sif (n == (2 : Int)) (
     ld (.ptr) (at0 b4) fun (x10 : Option Addr) =>
     callT Tryz.prog 31 #[(.pointer x10), (.int .i64 (2 : Int)), (.agg #[(.int .i64 (65 : Int)), (.int .i64 (0 : Int)), (.int .i64 (34 : Int))])] (.tup [(.agg c34), (.one (.int .i64))]) fun (x11 : ((Int × Int × Int × Unit) × Int × Unit)) =>
     aggSt (at0 b5) (.agg (Cells.vals c34 x11.1).toArray) 3 <|
     J6 (x11.2.1, ())) (
     sif (n == (3 : Int)) (
      ld (.ptr) (at0 b4) fun (x12 : Option Addr) =>
      callT Tryz.prog 19 #[(.pointer x12), (.int .i64 (2 : Int)), (.agg #[(.int .i64 (67 : Int)), (.int .i64 (0 : Int)), (.int .i64 (40 : Int))])] (.tup [(.agg c34), (.one (.int .i64))]) fun (x13 : ((Int × Int × Int × Unit) × Int × Unit)) =>
      aggSt (at0 b5) (.agg (Cells.vals c34 x13.1).toArray) 3 <|
      sif (x13.2.1 == (0 : Int)) (
       ld (.int .i64) (at0 b5) fun (x14 : Int) =>
       sif (x14 == (1 : Int)) (
        ld (.int .i64) (⟨b5, 1, none⟩ : Addr) fun (x15 : Int) =>
        K (x15 == (4 : Int))) (
        K false)) (
       K false)) (
      sif (n == (4 : Int)) (
       ld (.ptr) (at0 b4) fun (x16 : Option Addr) =>
       callT Tryz.prog 33 #[(.pointer x16), (.int .i64 (2 : Int)), (.agg #[(.int .i64 (69 : Int)), (.int .i64 (0 : Int)), (.int .i64 (0 : Int))])] (.tup [(.agg c34), (.one (.int .i64))]) fun (x17 : ((Int × Int × Int × Unit) × Int × Unit)) =>
       aggSt (at0 b5) (.agg (Cells.vals c34 x17.1).toArray) 3 <|
       sif (x17.2.1 == (0 : Int)) (
        ld (.int .i64) (⟨b5, 2, none⟩ : Addr) fun (x18 : Int) =>
        sif (x18 == (1 : Int)) (
         ld (.int .i64) (⟨b5, 1, none⟩ : Addr) fun (x19 : Int) =>
         K (x19 == (5 : Int))) (
         K false)) (
        K false)) (
       sif (n == (5 : Int)) (
        ld (.ptr) (at0 b4) fun (x20 : Option Addr) =>
        callT Tryz.prog 20 #[(.pointer x20), (.int .i64 (2 : Int)), (.agg #[(.int .i64 (61 : Int)), (.int .i64 (0 : Int)), (.int .i64 (0 : Int))])] (.tup [(.agg c34), (.one (.int .i64))]) fun (x21 : ((Int × Int × Int × Unit) × Int × Unit)) =>
        aggSt (at0 b5) (.agg (Cells.vals c34 x21.1).toArray) 3 <|
        J6 (x21.2.1, ())) (
        J6 ((0 : Int), ()))))))) fun (s7 : Int × Unit) =>
   sif (s7.1 == (0 : Int)) (
    ld (.int .i64) (at0 b5) fun (x22 : Int) =>
    sif (x22 == (2 : Int)) (
     ld (.int .i64) (⟨b5, 1, none⟩ : Addr) fun (x23 : Int) =>
     sif (x23 == (3 : Int)) (
      ld (.int .i64) (⟨b5, 2, none⟩ : Addr) fun (x24 : Int) =>
      K (x24 == (0 : Int))) (
      K false)) (
     K false)) (
    K false)) w2) : callT Tryz.prog 17 #[.int .i64 n] (.one (.one .bool)) K w := by
 refine F17_calls ?_
 unfold F17
 refine newO_r fun b1 w1 e1 n1 hb1 _ => litBytes (l := exB) n1 rfl rfl fun w2 hs u2 => ?_
 have e2 : Ext w w2 := e1.step u2 fun k hk => by omega
 refine opened_call (enc := 0) hs (by decide) fun p e O M s w3 hB e3 hM he => ?_
 have hen : e = .u8 := by
  have : (1 : Int) = e.num := he
  cases e <;> first | rfl | (exact absurd this (by decide))
 subst hen
 have hA : atoms (aOf .u8 M) = exA := by rw [hM (by decide), ats_ex]
 refine (St.start w3).newO' fun b4 w4 S4 e4 hb4 => S4.aggSt 0 rfl rfl rfl rfl fun w5 S5 u5 => ?_
 exact sif_false (S5.newO fun b5 w6 S6 e6 => hK p M O w3 b4 b5 s w6 hB.txt hA (e2.trans e3) S6)
theorem fixed4_call {K : Bool → World → Prop} (hK : ∀ w', Ext w w' → K true w') : callT Tryz.prog 17 #[.int .i64 4] (.one (.one .bool)) K w := by
 refine fixed_start fun p M O w1 b4 b5 s w2 tx hA e1 S2 => ?_
 refine join_r (fun _ _ => False) ?_ (fun _ _ h => h.elim)
 refine sif_false (sif_false (sif_false (sif_true (S2.ld 1 rfl (x := some (at0 p)) rfl ?_))))
 refine paras_call (kind := 69) (count := 0) (arg := 0) (tx.ext S2.upd) (by decide) fun w3 e3 => ?_
 rw [hA, ex_paras]
 refine (S2.ext e3).aggSt 0 rfl rfl rfl rfl fun w4 S4 u4 => ?_
 exact sif_true (S4.ld 0 rfl (x := (1 : Int)) rfl (sif_true (S4.ld 0 rfl (x := (5 : Int)) rfl (hK w4 (e1.trans S4.upd)))))
end
section
variable {w w' : World} {S : Nat → Prop} {p : Nat} {e : Enc} {lim na : Nat} {O : Nat → Prop} {M : Parts}
abbrev opO (y : Cells.T c43) : Obj := .cells (Cells.vals c43 y).toArray 43 (0, 0)
end
end Go.Proofs.YtabcpghhfeplaaaGreat
namespace Go.Proofs.YtabcpghhfeplaaaGreat
open Go Go.Vx Cdc Trx
section
variable {w w' : World} {S : Nat → Prop} {p : Nat} {e : Enc} {lim na : Nat} {O : Nat → Prop} {M : Parts}
def bts (e : Enc) (l : List Int) : Bs := l.flatMap (pt e)
def prs (e : Enc) (l : List Int) : As := l.map fun a => (a, sz e a)
def Fit (e : Enc) (l : List Int) : Prop := ∀ a ∈ l, Scalar a ∧ sz e a ≠ 0
theorem ats_bts {e : Enc} : ∀ {l : List Int}, Fit e l → ats e (bts e l) = prs e l
 | [], _ => ats_nil e
 | a :: l, h => by
  have h1 := h a List.mem_cons_self
  show ats e (pt e a ++ bts e l) = _
  rw [ats_pt h1.1 h1.2, ats_bts fun x hx => h x (List.mem_cons_of_mem _ hx)]
  rfl
theorem atoms_prs (e : Enc) (l : List Int) : atoms (prs e l) = l := by
 unfold atoms prs
 rw [List.map_map]
 have : ((fun x : Int × Nat => x.1) ∘ fun a : Int => (a, sz e a)) = id := rfl
 show l.map _ = l
 rw [this, List.map_id]
theorem bts_len {e : Enc} {l : List Int} (h : Fit e l) : (bts e l).length = szs (prs e l) := by rw [← ats_bts h, szs_all]
theorem bts_app (e : Enc) (l m : List Int) : bts e (l ++ m) = bts e l ++ bts e m := by simp [bts]
theorem append_run3 (P : Program) {ts xt rt : TypeId} {e xe : TypeId} {i : TypeInfo} {z : Value} (hts : P.underlying ts = some (.slice e)) (hxt : P.underlying xt = some (.slice xe)) (hi : P.info? e = some i) (hz : i.zero = some z)
  {B : Nat} {s x : Sl} {vs us : List Value} (hs : SlOwn w B s e i.size vs) (hx : SlX w x i.size us) (h1 : ∀ v ∈ us, isOne v = true) (hzl : z.cells.size = i.size)
  (hroom : (s.len + x.len + (s.len + x.len) / 4 + 512) * i.bytes ≤ 2 ^ 48) (hb0 : 0 < i.bytes) (hB : B ≤ w.heap.size) :
  ∃ s' w', (Builtin.append_ #[ts, xt] rt #[.slice s.a s.len s.cap, .slice x.a x.len x.cap]).run P w = .ok (.slice s'.a s'.len s'.cap) w' ∧ SlOwn w' B s' e i.size (vs ++ us) ∧ s'.len = s.len + x.len ∧
   Upd (fun k => s.blk k) w w' ∧ ((Ext w w' ∧ ∀ k, s'.blk k → w.heap.size ≤ k) ∨ (s'.a = s.a ∧ ∃ b off c, s.a = some ⟨b, off, none⟩ ∧ w.heap[b]? = some (.cells c e (0, 0)) ∧ w'.heap[b]? = some (.cells (setRow c (off + s.len * i.size) us) e (0, 0)))) := by
 obtain ⟨s', w', hr, ho, hl, hu, hk, hex⟩ := append_run2 (rt := rt) P hts hxt hi hz hs hx h1 hzl hroom hb0 hB
 refine ⟨s', w', hr, ho, hl, hu, ?_⟩
 have hfx := run_firstCellsX P hx
 have hfs := run_firstCells P hs.in
 have hu1 := fun W => run_underlying hts W
 have hu2 := fun W => run_underlying hxt W
 have hsz : ∀ W, (sizeOf e).run P W = .ok i.size W := fun W => by simp [sizeOf, run_typeInfo W hi]
 have hlen := hs.len
 have hxlen := hx.len
 by_cases hneed : s.len + x.len ≤ s.cap
 ·rcases hs.at_ with ⟨ha, hc⟩ | ⟨b, off, c, ha, hB', hb, hcap, hv⟩
  ·have hl0 : x.len = 0 := by omega
   have hsl : s.len = 0 := by omega
   have hus : us = [] := by rw [hl0, Nat.zero_mul] at hxlen; exact List.length_eq_zero_iff.1 hxlen
   have hfx' : (Builtin.firstCells i.size 0 (.slice x.a 0 x.cap)).run P w = .ok #[] w := by rw [hl0, hus] at hfx; exact hfx
   simp [Builtin.append_, hu1, hu2, hsz, Builtin.lenOf, hl0, hsl, ha, hfx', hc] at hr
   obtain ⟨⟨h1, _⟩, rfl⟩ := hr
   refine .inl ⟨Ext.refl w, fun k hk => ?_⟩
   obtain ⟨q, hq, _⟩ := hk
   rw [← h1] at hq; cases hq
  ·have hfit : s.len * i.size + us.length ≤ s.cap * i.size := by
    rw [hxlen, ← Nat.add_mul]; exact Nat.mul_le_mul_right _ hneed
   obtain ⟨w1, hr1, hu1', hb1, _⟩ := run_storeRow P us b (off + s.len * i.size) 0 c e w h1 hb (by omega)
   simp [Builtin.append_, hu1, hu2, hsz, Builtin.lenOf, hneed, hfx, ha, addr_add, hr1] at hr
   obtain ⟨⟨h1, _⟩, rfl⟩ := hr
   exact .inr ⟨h1.symm.trans ha.symm, b, off, c, ha, hb, hb1⟩
 ·have hti : ∀ W, (typeInfo e).run P W = .ok i W := fun W => run_typeInfo W hi
  have hzv : ∀ W, (zeroValue e).run P W = .ok z W := fun W => by simp [zeroValue, run_typeInfo W hi, hz]
  have hle := Go.Vx.nextslicecap_le (need := s.len + x.len) (old := s.cap) (by omega)
  have hroom' : ¬ (Builtin.nextslicecap (s.len + x.len) s.cap * i.bytes > 2 ^ 48) := by
   have := Nat.mul_le_mul_right i.bytes hle
   omega
  have hfx' : (Builtin.firstCells i.size x.len (.slice x.a x.len x.cap)).run P w.drew = .ok us.toArray w.drew := run_firstCellsX P (hx.ext (Ext.drew w))
  have hfs' : (Builtin.firstCells i.size s.len (.slice s.a s.len s.cap)).run P w.drew = .ok vs.toArray w.drew := run_firstCells P (hs.in.ext (Ext.drew w))
  have hb0' : ¬ i.bytes = 0 := by omega
  simp [Builtin.append_, hu1, hu2, hsz, Builtin.lenOf, hneed, hti, hb0', hroom', run_askRoom, hfs', hfx', hzv, newRow, newObj, Sem.run, Question.forced] at hr
  obtain ⟨⟨h1, _⟩, rfl⟩ := hr
  refine .inl ⟨(Ext.drew w).trans (Ext.alloc w.drew _), fun k hk => ?_⟩
  obtain ⟨q, hq, rfl⟩ := hk
  rw [← h1] at hq; cases hq
  exact Nat.le_refl _
theorem app_by {B : Nat} {s x : Sl} {l m : Bs} {K : Sl → World → Prop} (hs : SlOwn w B s 5 1 (bv l)) (hx : SlX w x 1 (bv m)) (hroom : s.len + x.len + (s.len + x.len) / 4 + 512 ≤ 2 ^ 48) (hB : B ≤ w.heap.size)
  (h : ∀ s' w', SlOwn w' B s' 5 1 (bv (l ++ m)) → s'.len = s.len + x.len → Upd s.blk w w' → (∀ k, s'.blk k → s.blk k ∨ w.heap.size ≤ k) →
   (∀ y b, By w y b → (∀ k, y.blk k → s.blk k → top y ≤ top s) → By w' y b ∧ ∀ k, y.blk k → s'.blk k → top y ≤ top s') → K s' w') :
  rawT Tryz.prog (.one (.one .sl)) (Builtin.append_ #[22, 22] 22 #[.slice s.a s.len s.cap, .slice x.a x.len x.cap]) K w := by
 obtain ⟨i, z, hi, hsz, hby, hz, hzs⟩ := EBy.e_
 have hs' := hs
 rw [← hsz] at hs hx
 obtain ⟨s', w', hr, ho, hl, hu, hex⟩ := append_run3 (rt := 22) Tryz.prog EBy.ts_ EBy.ts_ hi hz hs hx (fun v hv => by
  obtain ⟨b, _, rfl⟩ := List.mem_map.1 hv; rfl) (by rw [hsz]; exact hzs) (by rw [hby]; omega) (by rw [hby]; decide) hB
 rw [hsz] at ho hex
 have eb : bv l ++ bv m = bv (l ++ m) := by simp [bv]
 rw [eb] at ho
 refine ⟨s', w', hr, h s' w' ho hl hu (fun k hk => ?_) fun y b hy hyt => ?_⟩
 ·rcases hex with ⟨_, h2⟩ | ⟨h1, _⟩
  ·exact .inr (h2 k hk)
  ·left
   obtain ⟨q, hq, rfl⟩ := hk
   exact ⟨q, h1 ▸ hq, rfl⟩
 ·rcases hex with ⟨h1, h2⟩ | ⟨h1, b0, off, c, ha, hb0, hb1⟩
  ·exact ⟨hy.ext h1, fun k hk hk' => by have := hy.blk_lt hk; have := h2 k hk'; omega⟩
  ·have hts : top s ≤ top s' := by unfold top; rw [h1, ha]; show off + s.len ≤ off + s'.len; omega
   have hsk : ∀ k, s'.blk k → s.blk k := fun k hk => by obtain ⟨q, hq, rfl⟩ := hk; exact ⟨q, h1 ▸ hq, rfl⟩
   refine ⟨⟨SlIn.len hy, hy.le, hy.at_.imp id fun ⟨b', off', c', fr', ha', hb', hcap, hv⟩ => ?_⟩, fun k hk hk' => Nat.le_trans (hyt k hk (hsk k hk')) hts⟩
   by_cases hbb : b' = b0
   ·subst hbb
    rw [hb0] at hb'
    cases hb'
    have ht := hyt b' ⟨_, ha', rfl⟩ ⟨_, ha, rfl⟩
    unfold top at ht
    rw [ha', ha] at ht
    dsimp only at ht
    have hyl := hy.len
    refine ⟨b', off', _, _, ha', hb1, by rw [Go.Vx.size_setRow]; exact hcap, fun i u hu => ?_⟩
    have hil := (List.getElem?_eq_some_iff.1 hu).1
    rw [List.length_map] at hil
    rw [Go.Vx.get_setRow_lt _ _ _ _ (by omega)]
    exact hv i u hu
   ·exact ⟨b', off', c', fr', ha', hu.get hb' (fun ⟨q, hq, hqb⟩ => by rw [ha] at hq; cases hq; exact hbb hqb.symm), hcap, hv⟩
theorem Its.by_ {e : Enc} : ∀ {l : List Pc} {M : Parts}, Its w e l M → ∀ x ∈ l, ∃ b, By w x.bytes b
 | [], _, _, x, hx => by cases hx
 | y :: l, z :: M, h, x, hx => by
  rcases List.mem_cons.1 hx with rfl | hx
  ·exact ⟨_, h.1.by_⟩
  ·exact Its.by_ h.2 x hx
theorem Its.ty {e : Enc} {l : List Pc} {M : Parts} (h : Its w e l M) (u : Upd S w w') (hS : NoTy w S 5) : Its w' e l M :=
 h.upd u fun x hx k hk hSk => by
  obtain ⟨b, hb⟩ := h.by_ x hx
  obtain ⟨c, fr, hc⟩ := hb.blk_cells hk
  exact hS k hSk c fr hc
theorem Its.to {e : Enc} : ∀ {l : List Pc} {M : Parts}, Its w e l M → (∀ x ∈ l, ∀ b, By w x.bytes b → By w' x.bytes b) → Its w' e l M
 | [], [], _, _ => trivial
 | x :: l, y :: M, h, hb => ⟨⟨hb x List.mem_cons_self _ h.1.by_, h.1.sm, h.1.tag, h.1.ne, h.1.lo, h.1.hi⟩, Its.to h.2 fun z hz => hb z (List.mem_cons_of_mem _ hz)⟩
def Old (w W : World) (a0 a : Sl) : Prop := ∀ y b, By w y b → (∀ k, y.blk k → a0.blk k → top y ≤ top a0) → By W y b ∧ ∀ k, y.blk k → a.blk k → top y ≤ top a
theorem Old.ty {W W' : World} {a0 a : Sl} (h : Old w W a0 a) (u : Upd S W W') (hS : NoTy W S 5) : Old w W' a0 a := fun y b hy ht => ⟨(h y b hy ht).1.ty u hS, (h y b hy ht).2⟩
theorem Old.refl (w : World) (a : Sl) : Old w w a a := fun y b hy ht => ⟨hy, ht⟩
theorem no_ext (W : World) (t : TypeId) : NoTy W (fun _ => False) t := fun _ h => h.elim
end
section
variable {w w' W W' : World} {S : Nat → Prop} {p : Nat} {e : Enc} {lim na : Nat} {O : Nat → Prop} {M : Parts}
theorem nn_eqT {a : Addr} {K : Addr → World → Prop} : nn (some a) K = K a := funext fun _ => propext nn_some_iff
abbrev txO (e : Enc) (lim : Nat) (tp : Option Addr) (a : Sl) : Obj := .cells #[.int .i64 e.num, .int .i64 (lim : Int), .pointer tp, .slice a.a a.len a.cap] 107 (0, 0)
abbrev frLs (p b1 b2 b6 b7 : Nat) (ps : Sl) (f n : Nat) : List (Nat × Obj) := [(b7, .cells #[.int .i64 (n : Int)] 3 (0, 0)), (b6, .cells #[.int .i64 (f : Int)] 3 (0, 0)), (b2, .cells #[.slice ps.a ps.len ps.cap] 108 (0, 0)), (b1, .cells #[.pointer (some (at0 p))] 25 (0, 0))]
structure FrI (w W : World) (p : Nat) (e : Enc) (lim : Nat) (tp : Option Addr) (a0 : Sl) (b1 b2 b6 b7 : Nat) (a ps : Sl) (ab cb : Bs) (pl : List Pc) (M' : Parts) (n : Nat) : Prop where
 st : St (fun k => k = p ∨ a0.blk k) w W (frLs p b1 b2 b6 b7 ps (ab.length - cb.length) n)
 tx : W.heap[p]? = some (txO e lim tp a)
 own : SlOwn W 0 a 5 1 (bv ab)
 suf : ∃ x, ab = x ++ cb
 row : SlOwn W w.heap.size ps 112 7 (flat c112 (pl.map pcT))
 its : Its W e pl M'
 tops : ∀ x ∈ pl, ∀ k, x.bytes.blk k → a.blk k → top x.bytes ≤ top a
 pblk : ∀ x ∈ pl, ∀ k, x.bytes.blk k → a0.blk k ∨ w.heap.size ≤ k
 ablk : ∀ k, a.blk k → a0.blk k ∨ w.heap.size ≤ k
 old : Old w W a0 a
 cnt : pl.length + cb.length ≤ ab.length
variable {tp : Option Addr} {a0 a ps : Sl} {b1 b2 b6 b7 n : Nat} {ab cb : Bs} {pl : List Pc} {M' : Parts}
theorem FrI.ext (h : FrI w W p e lim tp a0 b1 b2 b6 b7 a ps ab cb pl M' n) (x : Ext W W') : FrI w W' p e lim tp a0 b1 b2 b6 b7 a ps ab cb pl M' n :=
 ⟨h.st.ext x, x.ext_get h.tx, h.own.ext x, h.suf, h.row.ext x, h.its.ext x, h.tops, h.pblk, h.ablk, h.old.ty x (no_ext _ _), h.cnt⟩
set_option maxHeartbeats 1000000 in
theorem shut_x {K : Unit → World → Prop} (h : FrI w W p e lim tp a0 b1 b2 b6 b7 a ps ab cb pl M' n) (hab : ab.length < 2 ^ 40)
  (hK : ∀ ps' pl' M'' n' W', FrI w W' p e lim tp a0 b1 b2 b6 b7 a ps' ab [] pl' M'' n' → aOf e M'' = aOf e M' ++ ats e cb → n' ≤ n → W.heap.size ≤ W'.heap.size → K () W') :
  callX Tryz.prog (do let d ← Deferred.ofValue (.func (.func 141) #[] #[.pointer (some (at0 b1)), .pointer (some (at0 b6)), .pointer (some (at0 b2)), .pointer (some (at0 b7))]) #[]; invoke d.target d.args : Sem Next) (.tup []) K W := by
 refine func_x (caps := #[.pointer (some (at0 b1)), .pointer (some (at0 b6)), .pointer (some (at0 b2)), .pointer (some (at0 b7))]) (by kernel_rfl) ?_
 refine F141_calls ?_
 unfold F141
 have hlen : ab.length = a.len := by have := h.own.len1; rwa [List.length_map] at this
 have hcl : cb.length ≤ ab.length := by obtain ⟨x, hx⟩ := h.suf; rw [hx]; simp
 have S0 := h.st
 refine S0.ld 3 rfl (x := some (at0 p)) rfl ?_
 simp only [nn_eqT, addr_add]
 refine ld_r h.tx (x := a) rfl (S0.ld 1 rfl (x := ((ab.length - cb.length : Nat) : Int)) rfl (sif_r (fun hc => ?_) (fun hc => ?_)))
 ·simp only [decide_eq_true_eq, gt_iff_lt] at hc
  have hcb : 0 < cb.length := by omega
  refine S0.drew fun W1 S1 e1 _ => ?_
  have h1 := h.ext e1
  refine S1.ld 2 rfl (x := ps) rfl (S1.ld 3 rfl (x := some (at0 p)) rfl ?_)
  simp only [nn_eqT, addr_add]
  refine ld_r h1.tx (x := e.num) rfl (S1.ld 3 rfl (x := some (at0 p)) rfl ?_)
  simp only [nn_eqT, addr_add]
  refine ld_r h1.tx (x := a) rfl (S1.ld 1 rfl (x := ((ab.length - cb.length : Nat) : Int)) rfl ?_)
  have hcap := h.own.in.le
  refine chk_r (by omega) ?_
  have hB1 : By W1 a ab := h1.own.in
  have c1 := hB1.cut (l := ((ab.length - cb.length : Nat) : Int)) (h := (a.len : Int)) (m := (a.len : Int)) (by omega) (by omega) (by omega) (by omega) (by omega)
  have d1 : (ab.drop ((ab.length - cb.length : Nat) : Int).toNat).take ((a.len : Int).toNat - ((ab.length - cb.length : Nat) : Int).toNat) = cb := by
   obtain ⟨x, hx⟩ := h.suf
   rw [Int.toNat_natCast, Int.toNat_natCast, List.take_of_length_le (by rw [List.length_drop]; omega)]
   have : ab.length - cb.length = x.length := by rw [hx]; simp
   rw [this, hx, List.drop_left]
  rw [d1] at c1
  have ct := cut_top hB1 (l := ((ab.length - cb.length : Nat) : Int)) (h := (a.len : Int)) (m := (a.len : Int)) (by omega) (by omega) (by omega)
  have cbk := fun k => cut_blk (s := a) (l := ((ab.length - cb.length : Nat) : Int)) (h := (a.len : Int)) (m := (a.len : Int)) (k := k)
  generalize Sl.cut a.a ((ab.length - cb.length : Nat) : Int) (a.len : Int) (a.len : Int) 1 = y at *
  refine newpart_call c1 (by omega) fun W2 e2 => ?_
  have h2 := h1.ext e2
  have S2 := h2.st
  refine S2.keep 2 rfl (v := .slice ps.a ps.len ps.cap) rfl ?_
  refine newO_r fun b15 W3 e3 n3 hb15 hz3 => ?_
  have h3 := h2.ext e3
  have S3 := h3.st
  refine S3.keep 2 rfl (v := .slice ps.a ps.len ps.cap) rfl ?_
  have hbox : SlX W3 ⟨some (at0 b15), 1, 1⟩ 7 (flat c112 [pcT (mkPc e y (-1) cb)]) := (SlIn.of_box n3 (n := 1) (sz := 7) rfl).x
  have hrl := SlOwn.lenR (cs := c112) h3.row (by decide)
  rw [List.length_map] at hrl
  have hcnt := h.cnt
  refine append_rx eParts eParts.ts_ (x := ⟨some (at0 b15), 1, 1⟩) h3.row hbox (Pc_one _) (by
   show (ps.len + 1 + (ps.len + 1) / 4 + 512) * 64 ≤ 2 ^ 48
   omega) (by have := S3.upd.size; omega) fun ps' W4 o4 l4 u4 k4 => ?_
  have nb4 : NoTy W3 ps.blk 5 := NoTy.blk h3.row.in (by decide)
  have nt4 : NoTy W3 ps.blk 107 := NoTy.blk h3.row.in (by decide)
  have e4 : flat c112 (pl.map pcT) ++ flat c112 [pcT (mkPc e y (-1) cb)] = flat c112 ((pl ++ [mkPc e y (-1) cb]).map pcT) := by rw [List.map_append, flat_append]; rfl
  rw [e4] at o4
  have tx4 : W4.heap[p]? = some (txO e lim tp a) := u4.get h3.tx fun hk => nt4 _ hk _ _ h3.tx
  have own4 := h3.own.ty u4 nb4
  have st4 : St (fun k => k = p ∨ a0.blk k) w W4 (frLs p b1 b2 b6 b7 ps (ab.length - cb.length) n) := S3.fresh u4 (fun k hk => .inr (h3.row.blk_ge hk)) (fun x hx hk => by
   obtain ⟨c, fr, hc'⟩ := h3.row.in.blk_cells hk
   have hl := (S3.loc x hx).1
   rw [hc'] at hl
   simp only [frLs, List.mem_cons, List.not_mem_nil, or_false] at hx
   rcases hx with rfl | rfl | rfl | rfl <;> cases hl)
  have its4 : Its W4 e (pl ++ [mkPc e y (-1) cb]) (M' ++ [(-1, cb)]) := by
   refine Its.app (h3.its.ty u4 nb4) ⟨⟨?_, rfl, rfl, ?_, Int.le_refl _, ?_⟩, trivial⟩
   ·exact ((c1.ext e2).ext e3).ty u4 nb4
   ·intro hn
    replace hn : cb = [] := hn
    rw [hn] at hcb; simp at hcb
   ·show (-1 : Int) + (cb.length : Int) ≤ 2 ^ 40; omega
  have old4 := h3.old.ty u4 nb4
  refine st4.stC 2 rfl (by show 0 < 1; decide) fun W5 S5 u5 => S5.stC 1 rfl (by show 0 < 1; decide) fun W6 S6 u6 => S6.stC 0 rfl (by show 0 < 1; decide) fun W7 S7 u7 => ?_
  have g2 : W4.heap[b2]? = some (.cells #[.slice ps.a ps.len ps.cap] 108 (0, 0)) := st4.at_ 2 rfl
  have g6 : W5.heap[b6]? = some (.cells #[.int .i64 ((ab.length - cb.length : Nat) : Int)] 3 (0, 0)) := S5.at_ 1 rfl
  have g7 : W6.heap[b7]? = some (.cells #[.int .i64 (n : Int)] 3 (0, 0)) := S6.at_ 0 rfl
  have tx5 : W5.heap[p]? = some (txO e lim tp a) := u5.get tx4 (fun hk => NoTy.box g2 (by decide) _ hk _ _ tx4)
  have tx6 : W6.heap[p]? = some (txO e lim tp a) := u6.get tx5 (fun hk => NoTy.box g6 (by decide) _ hk _ _ tx5)
  have tx7 : W7.heap[p]? = some (txO e lim tp a) := u7.get tx6 (fun hk => NoTy.box g7 (by decide) _ hk _ _ tx6)
  have hts : ∀ x ∈ pl ++ [mkPc e y (-1) cb], ∀ k, x.bytes.blk k → a.blk k → top x.bytes ≤ top a := by
   intro x hx
   rcases List.mem_append.1 hx with hx | hx
   ·exact h.tops x hx
   ·rw [List.mem_singleton.1 hx]; intro k _ _; exact ct
  have hpb : ∀ x ∈ pl ++ [mkPc e y (-1) cb], ∀ k, x.bytes.blk k → a0.blk k ∨ w.heap.size ≤ k := by
   intro x hx
   rcases List.mem_append.1 hx with hx | hx
   ·exact h.pblk x hx
   ·rw [List.mem_singleton.1 hx]; intro k hk; exact h.ablk k (cbk k hk)
  refine hK ps' (pl ++ [mkPc e y (-1) cb]) (M' ++ [(-1, cb)]) 0 W7 ⟨?_, tx7, ?_, ⟨ab, by simp⟩, ?_, ?_, hts, hpb, h.ablk, ?_, ?_⟩ ?_ (Nat.zero_le _) ?_
  ·have e0 : ((a.len : Nat) : Int) = ((ab.length - ([] : Bs).length : Nat) : Int) := by simp; omega
   rw [e0] at S7
   exact S7
  ·exact ((own4.box g2 (by decide) u5).box g6 (by decide) u6).box g7 (by decide) u7
  ·exact ((o4.box g2 (by decide) u5).box g6 (by decide) u6).box g7 (by decide) u7
  ·exact ((its4.ty u5 (NoTy.box g2 (by decide))).ty u6 (NoTy.box g6 (by decide))).ty u7 (NoTy.box g7 (by decide))
  ·exact ((old4.ty u5 (NoTy.box g2 (by decide))).ty u6 (NoTy.box g6 (by decide))).ty u7 (NoTy.box g7 (by decide))
  ·simp; omega
  ·rw [aOf_app]; simp [aOf]
  ·have := e1.size; have := e2.size; have := e3.size; have := u4.size; have := u5.size; have := u6.size; have := u7.size; omega
 ·simp only [decide_eq_false_iff_not, gt_iff_lt] at hc
  have hcb : cb = [] := List.length_eq_zero_iff.1 (by omega)
  subst hcb
  exact hK ps pl M' n W h (by rw [ats_nil, List.append_nil]) (Nat.le_refl _) (Nat.le_refl _)
theorem Old.trans {w W W' : World} {a0 a a' : Sl} (h : Old w W a0 a) (h' : Old W W' a a') : Old w W' a0 a' := fun y b hy ht => h' y b (h y b hy ht).1 (h y b hy ht).2
set_option maxHeartbeats 1000000 in
theorem fresh_call {s : Sl} {t : TypeId} {put : List Int} (hs : SlIn w s t 1 (iv put)) (hsep : ∀ k, s.blk k → k ≠ p ∧ ¬ a0.blk k) (hfit : Fit e put) (tx : w.heap[p]? = some (txO e lim tp a0)) (own : SlOwn w 0 a0 5 1 (bv ab)) (hab : ab.length + (bts e put).length < 2 ^ 40) (hput : put.length < 2 ^ 40) {K : Sl → World → Prop}
  (hK : ∀ ps a pl M' W, W.heap[p]? = some (txO e lim tp a) → SlOwn W 0 a 5 1 (bv (ab ++ bts e put)) → SlOwn W w.heap.size ps 112 7 (flat c112 (pl.map pcT)) → Its W e pl M' → aOf e M' = prs e put → (∀ x ∈ pl, ∀ k, x.bytes.blk k → a.blk k → top x.bytes ≤ top a) →
   (∀ x ∈ pl, ∀ k, x.bytes.blk k → a0.blk k ∨ w.heap.size ≤ k) → (∀ k, a.blk k → a0.blk k ∨ w.heap.size ≤ k) → Old w W a0 a → Upd (fun k => k = p ∨ a0.blk k) w W → pl.length ≤ ab.length + (bts e put).length → K ps W) :
  callT Tryz.prog 113 #[.pointer (some (at0 p)), .slice s.a s.len s.cap] (.one (.one .sl)) K w := by
 refine F113_calls ?_
 unfold F113
 have hlen : put.length = s.len := by have := hs.len1; rwa [List.length_map] at this
 have hal : ab.length = a0.len := by have := own.len1; rwa [List.length_map] at this
 have hpw := lt_of_heap tx
 refine (St.startM (fun k => k = p ∨ a0.blk k) w (fun k hk => hk.elim (fun h => h ▸ hpw) fun h => own.in.blk_lt h)).newO fun b1 w1 S1 e1 => S1.newO fun b2 w2 S2 e2 => S2.ld 1 rfl (x := some (at0 p)) rfl ?_
 simp only [nn_eqT, addr_add]
 have x2 := e1.trans e2
 refine ld_r (x2.ext_get tx) (x := a0) rfl (S2.newO fun b6 w3 S3 e3 => S3.stC 0 rfl (by show 0 < 1; decide) fun w4 S4 u4 => S4.newO fun b7 w5 S5 e5 => S5.stC 0 rfl (by show 0 < 1; decide) fun w6 S6 u6 => ?_)
 have g6 : w3.heap[b6]? = some (.cells #[.int .i64 0] 3 (0, 0)) := S3.at_ 0 rfl
 have g7 : w5.heap[b7]? = some (.cells #[.int .i64 0] 3 (0, 0)) := S5.at_ 0 rfl
 have x3 := x2.trans e3
 have F0 : FrI w w6 p e lim tp a0 b1 b2 b6 b7 a0 ⟨none, 0, 0⟩ ab [] [] [] 0 := by
  refine ⟨?_, ?_, ?_, ⟨ab, by simp⟩, SlOwn.nil _ _ _ _, trivial, (fun x hx => by cases hx), (fun x hx => by cases hx), fun k hk => .inl hk, ?_, by simp⟩
  ·have e0 : ((a0.len : Nat) : Int) = ((ab.length - ([] : Bs).length : Nat) : Int) := by simp; omega
   rw [e0] at S6
   exact S6
  ·have t3 := x3.ext_get tx
   have t4 : w4.heap[p]? = some (txO e lim tp a0) := u4.get t3 (fun hk => NoTy.box g6 (by decide) _ hk _ _ t3)
   have t5 := e5.ext_get t4
   exact u6.get t5 (fun hk => NoTy.box g7 (by decide) _ hk _ _ t5)
  ·exact (((own.ext x3).box g6 (by decide) u4).ext e5).box g7 (by decide) u6
  ·exact ((((Old.refl w a0).ty x3 (no_ext _ _)).ty u4 (NoTy.box g6 (by decide))).ty e5 (no_ext _ _)).ty u6 (NoTy.box g7 (by decide))
 clear S1 S2 S3 S4 S5 S6
 have tkl : ∀ i j : Nat, j ≤ i → (bts e ((put.take i).drop j)).length ≤ (bts e put).length := by
  intro i j _
  have : put = put.take i ++ put.drop i := (List.take_append_drop i put).symm
  have h2 : put.take i = (put.take i).take j ++ (put.take i).drop j := (List.take_append_drop j _).symm
  have h3 : (bts e put).length = (bts e (put.take i)).length + (bts e (put.drop i)).length := by conv => lhs; rw [this]; rw [bts_app, List.length_append]
  have h4 : (bts e (put.take i)).length = (bts e ((put.take i).take j)).length + (bts e ((put.take i).drop j)).length := by conv => lhs; rw [h2]; rw [bts_app, List.length_append]
  omega
 have abl : ∀ i, (ab ++ bts e (put.take i)).length < 2 ^ 40 := fun i => by have := tkl i 0 (Nat.zero_le _); rw [List.length_append]; simp only [List.drop_zero] at this; omega
 have fit2 : ∀ i j, Fit e ((put.take i).drop j) := fun i j x hx => hfit x (List.mem_of_mem_take (List.mem_of_mem_drop hx))
 have glue : ∀ i j, prs e ((put.take i).take j) ++ ats e (bts e ((put.take i).drop j)) = prs e (put.take i) := fun i j => by
  rw [ats_bts (fit2 i j)]; unfold prs; rw [← List.map_append, List.take_append_drop]
 have shut : ∀ {a ps i j pl M' n} {W : World} {K : Unit → World → Prop}, j ≤ i → FrI w W p e lim tp a0 b1 b2 b6 b7 a ps (ab ++ bts e (put.take i)) (bts e ((put.take i).drop j)) pl M' n → aOf e M' = prs e ((put.take i).take j) → (∀ ps' pl' M'' n' W', FrI w W' p e lim tp a0 b1 b2 b6 b7 a ps' (ab ++ bts e (put.take i)) [] pl' M'' n' → aOf e M'' = prs e (put.take i) → n' ≤ n → K () W') →
   callX Tryz.prog (do let d ← Deferred.ofValue (.func (.func 141) #[] #[.pointer (some (at0 b1)), .pointer (some (at0 b6)), .pointer (some (at0 b2)), .pointer (some (at0 b7))]) #[]; invoke d.target d.args : Sem Next) (.tup []) K W := by
  intro a ps i j pl M' n W K hj F hM hK
  exact shut_x F (abl i) fun ps' pl' M'' n' W' F' hM' hn _ => hK ps' pl' M'' n' W' F' (by rw [hM', hM, glue]) hn
 refine join_r (fun _ W => ∃ a ps pl M' n j, j ≤ put.length ∧ FrI w W p e lim tp a0 b1 b2 b6 b7 a ps (ab ++ bts e (put.take put.length)) (bts e ((put.take put.length).drop j)) pl M' n ∧ aOf e M' = prs e ((put.take put.length).take j)) ?_ ?_
 ·refine sloop_r (fun x W => ∃ a ps pl M' n i j, x = (((i : Nat) : Int), ()) ∧ i ≤ put.length ∧ j ≤ i ∧ n ≤ i ∧ FrI w W p e lim tp a0 b1 b2 b6 b7 a ps (ab ++ bts e (put.take i)) (bts e ((put.take i).drop j)) pl M' n ∧ aOf e M' = prs e ((put.take i).take j)) (fun x _ => ((put.length : Int) - x.1).toNat) ⟨a0, ⟨none, 0, 0⟩, [], [], 0, 0, 0, rfl, Nat.zero_le _, Nat.le_refl _, Nat.le_refl _, by simpa [bts] using F0, by simp [aOf, prs]⟩ ?_
  rintro _ W ⟨a, ps, pl, M', n, i, j, rfl, hi, hj, hn, F, hM⟩
  refine sif_r (fun hc => ?_) (fun hc => ?_)
  ·simp only [decide_eq_true_eq] at hc
   obtain ⟨v, hv⟩ : ∃ v, put[i]? = some v := ⟨_, List.getElem?_eq_getElem (by omega)⟩
   have hf := hfit v (List.mem_of_getElem? hv)
   have ew : IntKind.wrap .i64 ((i : Int) + 1) = ((i + 1 : Nat) : Int) := by rw [wrap64 (by omega) (by omega)]; omega
   dsimp only
   rw [ew]
   refine join_r (fun _ W => ∃ a ps pl M' n j, j ≤ i ∧ n ≤ i + 1 ∧ FrI w W p e lim tp a0 b1 b2 b6 b7 a ps (ab ++ bts e (put.take (i + 1))) (bts e ((put.take (i + 1)).drop j)) pl M' n ∧ aOf e M' = prs e ((put.take (i + 1)).take j)) ?_ ?_
   ·have hsW : SlIn W s t 1 (iv put) := hs.upd F.st.upd fun k hk hSk => by
     have := hsep k hk
     rcases hSk with h | h
     ·exact this.1 h
     ·exact this.2 h
    refine ix_ld (c := .int .i64) (xs := put) hsW (by omega) (x := v) (by rw [Int.toNat_natCast]; exact hv) fun q => ?_
    refine join_r (fun x W' => x = (true, ()) ∧ W = W') ?_ ?_
    ·refine sif_r (fun h1 => sif_r (fun h2 => ⟨rfl, rfl⟩) (fun h2 => ⟨tupb ?_, rfl⟩)) (fun h1 => ?_)
     ·simp only [decide_eq_true_eq, decide_eq_false_iff_not, gt_iff_lt, ge_iff_le, iff_true] at *
      rcases hf.1 with h | h <;> omega
     ·simp only [decide_eq_false_iff_not, ge_iff_le] at h1
      rcases hf.1 with h | h <;> omega
    rintro _ _ ⟨rfl, rfl⟩
    refine join_r (fun _ W => ∃ ps pl M' n j, j ≤ i ∧ n ≤ i ∧ FrI w W p e lim tp a0 b1 b2 b6 b7 a ps (ab ++ bts e (put.take i)) (bts e ((put.take i).drop j)) pl M' n ∧ aOf e M' = prs e ((put.take i).take j)) ?_ ?_
    ·refine join_r (fun x W' => x = (decide (n = 128), ()) ∧ W = W') ?_ ?_
     ·refine sif_false (F.st.ld 0 rfl (x := (n : Int)) rfl ⟨tupb ?_, rfl⟩)
      simp only [beq_iff_eq, decide_eq_true_eq]; omega
     rintro _ _ ⟨rfl, rfl⟩
     refine sif_r (fun _ => shut hj F hM fun ps' pl' M'' n' W' F' hM' hn' => ⟨ps', pl', M'', n', i, Nat.le_refl _, by omega, ?_, ?_⟩) (fun _ => ⟨ps, pl, M', n, j, hj, hn, F, hM⟩)
     ·rw [List.drop_eq_nil_of_le (by rw [List.length_take]; omega)]; exact F'
     ·rw [hM', List.take_take, Nat.min_self]
    clear F hM hn hj ps pl M' n j
    rintro _ W1 ⟨ps, pl, M', n, j, hj, hn, F, hM⟩
    refine F.st.ld 3 rfl (x := some (at0 p)) rfl ?_
    simp only [nn_eqT, addr_add]
    refine ld_r F.tx (x := e.num) rfl (newO_r fun b27 W2 e2' n2 hb27 _ => ?_)
    have F2 := F.ext e2'
    have hbox : SlIn W2 ⟨some (at0 b27), 1, 1⟩ 3 1 [.int .i64 v] := SlIn.of_box n2 (n := 1) (sz := 1) rfl
    refine enc1_call (s := ⟨some (at0 b27), 1, 1⟩) (t := 3) (e := e) (a := v) hf.2 hbox fun s28 W3 o28 e3' => ?_
    have F3 := F2.ext e3'
    have S3 := F3.st
    show drew _ W3
    refine S3.drew fun W4 S4 e4' _ => ?_
    have F4 := F3.ext e4'
    have o28 := o28.ext e4'
    refine F4.st.ld 3 rfl (x := some (at0 p)) rfl (F4.st.ld 3 rfl (x := some (at0 p)) rfl ?_)
    simp only [nn_eqT, addr_add]
    have tkv : put.take (i + 1) = put.take i ++ [v] := by rw [List.take_add_one, hv]; rfl
    have ptl : (bts e (put.take i)).length + (pt e v).length ≤ (bts e put).length := by
     have := tkl (i + 1) 0 (Nat.zero_le _)
     rw [List.drop_zero, tkv, bts_app, List.length_append] at this
     simpa [bts] using this
    have s28l : (pt e v).length = s28.len := by have := o28.len1; rwa [List.length_map] at this
    have al4 : (ab ++ bts e (put.take i)).length = a.len := by have := F4.own.len1; rwa [List.length_map] at this
    have al4' := al4
    rw [List.length_append] at al4'
    refine ld_r F4.tx (x := a) rfl (app_by F4.own o28.in.x (by omega) (Nat.zero_le _) fun a' W5 o5 l5 u5 k5 old5 => ?_)
    have nb5 : ∀ t, t ≠ 5 → NoTy W4 a.blk t := fun t ht => NoTy.blk F4.own.in (fun h => ht h.symm)
    have tx5 : W5.heap[p]? = some (txO e lim tp a) := u5.get F4.tx fun hk => nb5 107 (by decide) _ hk _ _ F4.tx
    have st5 : St (fun k => k = p ∨ a0.blk k) w W5 (frLs p b1 b2 b6 b7 ps ((ab ++ bts e (put.take i)).length - (bts e ((put.take i).drop j)).length) n) := F4.st.fresh u5 (fun k hk => (F4.ablk k hk).imp .inr id) (fun x hx hk => by
     obtain ⟨c, fr, hc'⟩ := F4.own.in.blk_cells hk
     have hl := (F4.st.loc x hx).1
     rw [hc'] at hl
     simp only [frLs, List.mem_cons, List.not_mem_nil, or_false] at hx
     rcases hx with rfl | rfl | rfl | rfl <;> cases hl)
    have row5 := F4.row.ty u5 (nb5 112 (by decide))
    have its5 : Its W5 e pl M' := F4.its.to fun x hx b hb => (old5 x.bytes b hb (F4.tops x hx)).1
    have tops5 : ∀ x ∈ pl, ∀ k, x.bytes.blk k → a'.blk k → top x.bytes ≤ top a' := fun x hx => by
     obtain ⟨b, hb⟩ := F4.its.by_ x hx
     exact (old5 x.bytes b hb (F4.tops x hx)).2
    have oldT : Old w W5 a0 a' := F4.old.trans old5
    refine st5.keep 3 rfl (v := .pointer (some (at0 p))) rfl ?_
    refine stC_r tx5 (by show 3 < 4; decide) fun W6 u6 n6 _ => ?_
    have n6 : W6.heap[p]? = some (txO e lim tp a') := n6
    have nt6 : ∀ t, t ≠ 107 → NoTy W5 (fun k => k = p) t := fun t ht => NoTy.box tx5 (fun h => ht h.symm)
    have st6 : St (fun k => k = p ∨ a0.blk k) w W6 (frLs p b1 b2 b6 b7 ps ((ab ++ bts e (put.take i)).length - (bts e ((put.take i).drop j)).length) n) := st5.step u6 fun k hk => .inl hk
    refine st6.ld 0 rfl (x := (n : Int)) rfl (st6.stC 0 rfl (by show 0 < 1; decide) fun W7 S7 u7 => ?_)
    have g7' : W6.heap[b7]? = some (.cells #[.int .i64 (n : Int)] 3 (0, 0)) := st6.at_ 0 rfl
    have ewn : IntKind.wrap .i64 ((n : Int) + 1) = ((n + 1 : Nat) : Int) := by rw [wrap64 (by omega) (by omega)]; omega
    rw [ewn] at S7
    have cbe : bts e ((put.take (i + 1)).drop j) = bts e ((put.take i).drop j) ++ pt e v := by
     rw [tkv, List.drop_append_of_le_length (by rw [List.length_take]; omega), bts_app]; simp [bts]
    have abe : ab ++ bts e (put.take (i + 1)) = ab ++ bts e (put.take i) ++ pt e v := by rw [tkv, bts_app, List.append_assoc]; simp [bts]
    have F7 : FrI w W7 p e lim tp a0 b1 b2 b6 b7 a' ps (ab ++ bts e (put.take (i + 1))) (bts e ((put.take (i + 1)).drop j)) pl M' (n + 1) := by
     rw [cbe, abe]
     refine ⟨?_, ?_, ?_, ?_, ?_, ?_, tops5, F4.pblk, ?_, ?_, ?_⟩
     ·rw [@List.length_append _ (ab ++ bts e (put.take i)), @List.length_append _ (bts e ((put.take i).drop j)), Nat.add_sub_add_right]
      exact S7
     ·exact u7.get n6 (fun hk => NoTy.box g7' (by decide) _ hk _ _ n6)
     ·exact (o5.ty u6 (nt6 _ (by decide))).box g7' (by decide) u7
     ·obtain ⟨x, hx⟩ := F4.suf
      exact ⟨x, by rw [hx, List.append_assoc]⟩
     ·exact (row5.ty u6 (nt6 _ (by decide))).box g7' (by decide) u7
     ·exact (its5.ty u6 (nt6 _ (by decide))).ty u7 (NoTy.box g7' (by decide))
     ·intro k hk
      rcases k5 k hk with h | h
      ·exact F4.ablk k h
      ·have := F4.st.upd.size; exact .inr (by omega)
     ·exact (oldT.ty u6 (nt6 _ (by decide))).ty u7 (NoTy.box g7' (by decide))
     ·have := F4.cnt
      rw [@List.length_append _ (ab ++ bts e (put.take i)), @List.length_append _ (bts e ((put.take i).drop j))]
      omega
    refine sif_false ⟨a', ps, pl, M', n + 1, j, hj, by omega, F7, ?_⟩
    rw [hM, tkv, List.take_append_of_le_length (by rw [List.length_take]; omega)]
   ·rintro _ W' ⟨a, ps, pl, M', n, j, hj, hn, F, hM⟩
    exact ⟨⟨a, ps, pl, M', n, i + 1, j, rfl, by omega, by omega, hn, F, hM⟩, by omega⟩
  ·simp only [decide_eq_false_iff_not] at hc
   have : i = put.length := by omega
   subst this
   exact ⟨a, ps, pl, M', n, j, hj, F, hM⟩
 ·rintro _ W ⟨a, ps, pl, M', n, j, hj, F, hM⟩
  refine shut hj F hM fun ps' pl' M'' n' W' F' hM' _ => ?_
  have hcnt := F'.cnt
  rw [List.take_length] at F' hM' hcnt
  refine F'.st.ld 2 rfl (x := ps') rfl (hK ps' a pl' M'' W' F'.tx F'.own F'.row F'.its hM' F'.tops F'.pblk F'.ablk F'.old F'.st.upd ?_)
  rw [List.length_append] at hcnt
  simpa using hcnt
end
section
variable {w w' W W' : World} {S : Nat → Prop} {p : Nat} {e : Enc} {lim na : Nat} {O : Nat → Prop} {M : Parts} {tp : Option Addr} {a0 a : Sl}
def hdA (e : Enc) (M : Parts) (i n : Nat) : As := match M[i]? with | some x => (ats e x.2).take n | none => []
def tlA (e : Enc) (M : Parts) (i n : Nat) : As := match M[i]? with | some x => (ats e x.2).drop n | none => []
theorem hdA_some {e : Enc} {M : Parts} {i n : Nat} {x : Int × Bs} (h : M[i]? = some x) : hdA e M i n = (ats e x.2).take n := by unfold hdA; rw [h]
theorem tlA_some {e : Enc} {M : Parts} {i n : Nat} {x : Int × Bs} (h : M[i]? = some x) : tlA e M i n = (ats e x.2).drop n := by unfold tlA; rw [h]
theorem hdA_none {e : Enc} {M : Parts} {i n : Nat} (h : M[i]? = none) : hdA e M i n = [] := by unfold hdA; rw [h]
theorem tlA_none {e : Enc} {M : Parts} {i n : Nat} (h : M[i]? = none) : tlA e M i n = [] := by unfold tlA; rw [h]
theorem hd_spot {e : Enc} {M : Parts} {at_ i n : Nat} (h : Spot e M at_ i n) : (aOf e M).take at_ = aOf e (M.take i) ++ hdA e M i n := by rw [take_spot h]; unfold hdA; cases M[i]? <;> rfl
theorem drop_spot {e : Enc} {M : Parts} {at_ i n : Nat} (h : Spot e M at_ i n) : (aOf e M).drop at_ = tlA e M i n ++ aOf e (M.drop (i + 1)) := by
 rcases h with ⟨rfl, rfl, rfl⟩ | ⟨x, hx, h1, h2, rfl⟩
 ·cases M with
  | nil => simp [aOf, tlA]
  | cons x M => simp [aOf, tlA]
 ·rw [tlA_some hx]
  have hil := (List.getElem?_eq_some_iff.1 hx).1
  have hd : M = M.take i ++ x :: M.drop (i + 1) := by
   have := List.drop_eq_getElem_cons hil
   have hx' : M[i] = x := by rw [List.getElem?_eq_getElem hil] at hx; exact Option.some.inj hx
   rw [hx'] at this
   rw [← this, List.take_append_drop]
  have : aOf e M = aOf e (M.take i) ++ (ats e x.2 ++ aOf e (M.drop (i + 1))) := by
   conv => lhs; rw [hd]
   rw [aOf_app, aOf_cons]
  rw [this, List.drop_length_add_append, List.drop_append_of_le_length h2]
theorem spot_le {e : Enc} {M : Parts} {f t i n j m : Nat} (h1 : Spot e M f i n) (h2 : Spot e M t j m) (hft : f ≤ t) : i ≤ j := by
 have mono : ∀ a b : Nat, a ≤ b → (aOf e (M.take a)).length ≤ (aOf e (M.take b)).length := by
  intro a b hab
  have : M.take b = M.take a ++ (M.take b).drop a := by
   conv => lhs; rw [← List.take_append_drop a (M.take b)]
   rw [List.take_take, Nat.min_eq_left hab]
  rw [this, aOf_app, List.length_append]; omega
 rcases h1 with ⟨_, rfl, _⟩ | ⟨x, hx, g1, g2, g3⟩
 ·exact Nat.zero_le _
 rcases Nat.lt_or_ge j i with hlt | hge
 ·exfalso
  rcases h2 with ⟨h, _, _⟩ | ⟨y, hy, k1, k2, k3⟩
  ·omega
  ·have hjl := (List.getElem?_eq_some_iff.1 hy).1
   have e1 : (aOf e (M.take (j + 1))).length = (aOf e (M.take j)).length + (ats e y.2).length := by
    have hy' : M[j] = y := by rw [List.getElem?_eq_getElem hjl] at hy; exact Option.some.inj hy
    rw [List.take_add_one, hy, Option.toList_some, aOf_app, List.length_append]
    simp [aOf]
   have := mono (j + 1) i (by omega)
   omega
 ·exact hge
theorem szs_ge_take {l : As} (h : Posd l) {n : Nat} (hn : n ≤ l.length) : n ≤ szs (l.take n) := by
 have := szs_ge (h.take n)
 rw [List.length_take] at this; omega
theorem head_in {x : Pc} {y : Int × Bs} {n : Nat} (hp : PcIn w e x y) (h1 : 1 ≤ n) (hn : n ≤ (ats e y.2).length) : PcIn w e (headPc e x y.2 n) (y.1, y.2.take (cutAt e y.2 n)) := by
 have hcl := cutAt_le e y.2 n
 have hlen := hp.by_.len
 have hcap := SlIn.le hp.by_
 have c1 := hp.by_.cut (l := 0) (h := (cutAt e y.2 n : Int)) (m := (cutAt e y.2 n : Int)) (by omega) (by omega) (by omega) (by omega) (by omega)
 have d1 : (y.2.drop (0 : Int).toNat).take ((cutAt e y.2 n : Int).toNat - (0 : Int).toNat) = y.2.take (cutAt e y.2 n) := by simp
 rw [d1] at c1
 have hge : n ≤ cutAt e y.2 n := szs_ge_take (ats_posd e y.2) hn
 refine ⟨c1, rfl, hp.tag, fun hc => ?_, hp.lo, ?_⟩
 ·have := congrArg List.length hc
  rw [List.length_take, List.length_nil] at this
  omega
 ·have := hp.hi
  show y.1 + ((y.2.take _).length : Int) ≤ _
  rw [List.length_take]; omega
theorem rest_in {x : Pc} {y : Int × Bs} {n : Nat} (hp : PcIn w e x y) (hn : n < (ats e y.2).length) : PcIn w e (restPc e x y.2 n) (restTag y.1 (cutAt e y.2 n), y.2.drop (cutAt e y.2 n)) := by
 have hcl := cutAt_le e y.2 n
 have hlen := hp.by_.len
 have hcap := SlIn.le hp.by_
 have c2 := hp.by_.cut (l := (cutAt e y.2 n : Int)) (h := (x.bytes.len : Int)) (m := (x.bytes.cap : Int)) (by omega) (by omega) (by omega) (by omega) (by omega)
 have d2 : (y.2.drop (cutAt e y.2 n : Int).toNat).take ((x.bytes.len : Int).toNat - (cutAt e y.2 n : Int).toNat) = y.2.drop (cutAt e y.2 n) := by
  rw [Int.toNat_natCast, Int.toNat_natCast]
  exact List.take_of_length_le (by rw [List.length_drop]; omega)
 rw [d2] at c2
 have hlt : cutAt e y.2 n < y.2.length := by
  have h1 := szs_append ((ats e y.2).take n) ((ats e y.2).drop n)
  rw [List.take_append_drop, szs_all] at h1
  have h2 := szs_ge ((ats_posd e y.2).drop n)
  rw [List.length_drop] at h2
  unfold cutAt; omega
 have hlo := hp.lo; have hhi := hp.hi
 refine ⟨c2, rfl, by show restTag x.tag _ = restTag y.1 _; rw [hp.tag], fun hc => ?_, ?_, ?_⟩
 ·have := congrArg List.length hc
  rw [List.length_drop, List.length_nil] at this
  omega
 ·show -1 ≤ restTag y.1 _
  unfold restTag; split <;> omega
 ·show restTag y.1 _ + ((y.2.drop _).length : Int) ≤ _
  rw [List.length_drop]
  unfold restTag; split <;> omega
theorem Pcs_one (l : List Pc) : ∀ v ∈ flat c112 (l.map pcT), isOne v = true := by
 intro v hv
 unfold flat at hv
 obtain ⟨x, hx, hv⟩ := List.mem_flatMap.1 hv
 obtain ⟨y, _, rfl⟩ := List.mem_map.1 hx
 exact Pc_one y v (by rw [flat_one]; exact hv)
theorem rdTree (tx : W.heap[p]? = some (txO e lim tp a)) {K : Addr → Cells.T c105 → World → Prop} (hK : K (at0 p) (tp, ()) W) : nn (some (at0 p)) (fun q => lds c105 (q.add 2) (K q)) W := by
 refine nn_some ?_
 rw [addr_add]
 refine lds_r tx (x := (tp, ())) (fun i v hv => ?_) hK
 match i, hv with
 | 0, hv => exact hv
 | i + 1, hv => cases hv
abbrev Wr (w : World) (O : Nat → Prop) (k : Nat) : Prop := O k ∧ ∀ c fr, w.heap[k]? ≠ some (.cells c 144 fr)
set_option maxHeartbeats 2000000 in
theorem treplace_call {from_ to_ : Nat} {s : Sl} {t : TypeId} {put : List Int} (h : Txt w p e lim na O M) (hft : from_ ≤ to_) (hto : to_ ≤ (aOf e M).length) (hs : SlIn w s t 1 (iv put)) (hsep : ∀ k, s.blk k → ¬ O k) (hfit : Fit e put) (hna : na + (bts e put).length < 2 ^ 40) (hput : put.length < 2 ^ 40)
  (hroom : szs ((aOf e M).take from_ ++ prs e put ++ (aOf e M).drop to_) ≤ lim) {K : Unit → World → Prop}
  (hK : ∀ O' M' w', Txt w' p e lim (na + (bts e put).length) O' M' → aOf e M' = (aOf e M).take from_ ++ prs e put ++ (aOf e M).drop to_ → Upd (Wr w O) w w' → (∀ k, O k → O' k) → (∀ k, O' k → O k ∨ w.heap.size ≤ k) → K () w') :
  callT Tryz.prog 78 #[.pointer (some (at0 p)), .int .i64 (from_ : Int), .int .i64 (to_ : Int), .slice s.a s.len s.cap] (.tup []) K w := by
 refine F78_calls ?_
 unfold F78
 obtain ⟨tr, a0, ab, tx, ht, hi, own, tops, pO, aO, hla⟩ := h.ex
 have few := h.few; have lims := h.lims; have hsz := h.sz
 have il := hi.len
 have hf : Fine tr.items := hi.fine (by omega)
 have fl := hf.few
 have hal : ab.length = a0.len := by have := own.len1; rwa [List.length_map] at this
 refine tfind_call h (by omega) fun i n w1 hs1 hil1 e1 => ?_
 refine tfind_call (h.ext e1) (by omega) fun j m w2 hs2 hil2 e2 => ?_
 rw [Int.toNat_natCast] at hs1 hs2
 have x2 := e1.trans e2
 have hij := spot_le hs1 hs2 hft
 have pcs : ∀ {i : Nat} {x : Pc}, tr.items[i]? = some x → ∃ y, M[i]? = some y ∧ PcIn w e x y ∧ y.2.length ≤ lim := by
  intro i x hx
  obtain ⟨y, hy, hp⟩ := hi.get i hx
  refine ⟨y, hy, hp, ?_⟩
  have h2 : szs (aOf e M) = szs (aOf e (M.take i)) + (y.2.length + szs (aOf e (M.drop (i + 1)))) := by
   have hil := (List.getElem?_eq_some_iff.1 hy).1
   have hd := List.drop_eq_getElem_cons hil
   have hx' : M[i] = y := by rw [List.getElem?_eq_getElem hil] at hy; exact Option.some.inj hy
   rw [hx'] at hd
   conv => lhs; rw [← List.take_append_drop i M, hd]
   rw [aOf_app, aOf_cons, szs_append, szs_append, szs_all]
  omega
 have spn : ∀ {at_ i n : Nat} {y : Int × Bs}, at_ ≤ (aOf e M).length → Spot e M at_ i n → M[i]? = some y → n ≤ (ats e y.2).length ∧ n < 2 ^ 30 := by
  intro at_ i n y hle hs hy
  rcases hs with ⟨_, _, rfl⟩ | ⟨x, hx, h1, h2, h3⟩
  ·exact ⟨Nat.zero_le _, by decide⟩
  ·rw [hy] at hx; cases hx
   exact ⟨h2, by omega⟩
 refine join_r (fun x W => ∃ plL ML, SlOwn W w2.heap.size x.1 112 7 (flat c112 (plL.map pcT)) ∧ Its w e plL ML ∧ aOf e ML = hdA e M i n ∧ (∀ x ∈ plL, ∀ k, x.bytes.blk k → O k) ∧ (∀ x ∈ plL, ∀ k, x.bytes.blk k → a0.blk k → top x.bytes ≤ top a0) ∧ plL.length ≤ 1 ∧ Ext w2 W) ?_ ?_
 ·refine rdTree (x2.ext_get tx) (at_call (ht.ext x2) hf (by omega) fun w3 e3 => ?_)
  refine (St.start w3).newO fun b8 w4 S4 e4 => S4.aggSt 0 rfl rfl rfl rfl fun w5 S5 u5 => ?_
  cases hx : tr.items[i]? with
  | none =>
   have hM : M[i]? = none := List.getElem?_eq_none (by have := List.getElem?_eq_none_iff.1 hx; omega)
   have e0 : atI tr.items i = (Pc.zero, false) := by unfold atI; rw [hx]
   rw [e0, hdA_none hM]
   refine join_r (fun x W => x = (false, ()) ∧ w5 = W) (sif_false ⟨rfl, rfl⟩) ?_
   rintro _ _ ⟨rfl, rfl⟩
   exact sif_false ⟨[], [], SlOwn.nil _ _ _ _, trivial, rfl, (fun x hx => by cases hx), (fun x hx => by cases hx), Nat.zero_le _, e3.trans S5.upd⟩
  | some x =>
   have e0 : atI tr.items i = (x, true) := by unfold atI; rw [hx]
   rw [e0] at S5 ⊢
   obtain ⟨y, hy, hp, hyl⟩ := pcs hx
   have hn := spn (by omega) hs1 hy
   rw [hdA_some hy]
   refine join_r (fun x W => x = (decide (0 < n), ()) ∧ w5 = W) (sif_true ⟨tupb ?_, rfl⟩) ?_
   ·simp only [decide_eq_true_eq, gt_iff_lt]; omega
   rintro _ _ ⟨rfl, rfl⟩
   refine sif_r (fun hn0 => ?_) (fun hn0 => ?_)
   ·simp only [decide_eq_true_eq] at hn0
    have hlo := hp.lo; have hhi := hp.hi
    have hE : ∀ {V : World}, Ext w3 V → V.cell? (at0 p) = some (.int .i64 e.num) := fun x => cell_of (x.ext_get ((x2.trans e3).ext_get tx)) rfl
    have byB : By w3 x.bytes y.2 := hp.by_.ext (x2.trans e3)
    have S := S5
    refine join_r (fun s W => ∃ b, s.1 = at0 b ∧ W.heap[b]? = some (.cells (Cells.vals c112 (pcT (headPc e x y.2 n))).toArray 112 (0, 0)) ∧ Ext w3 W) ?_ ?_
    ·refine S.drew fun w9 S e9 _ => S.lds 0 (pcT x) rfl ?_
     simp only [nn_eqT]
     refine ld_r (S.upd.ext_get ((x2.trans e3).ext_get tx)) (x := e.num) rfl ?_
     exact ⟨S.newO fun b18 wx S ex => keep_r (hE S.upd) (S.keeps 1 rfl (⟨S.newO fun b19 wx S ex => keep_r (hE S.upd) (S.keeps 2 rfl (pcut_call (byB.ext S.upd) (by omega) (by rw [hp.tag]; omega) (by omega) fun wx ex => (fun S => S.aggSt 1 rfl rfl rfl rfl fun wx S ux => S.aggSt 0 rfl rfl rfl rfl fun wx S ux => ⟨b18, rfl, S.at_ 1 rfl, S.upd⟩) (S.ext ex))), pcut_call (byB.ext S.upd) (by omega) (by rw [hp.tag]; omega) (by omega) fun wx ex => (fun S => ⟨S.newO fun b22 wx S ex => keep_r (hE S.upd) (S.keeps 2 rfl (S.aggSt 1 rfl rfl rfl rfl fun wx S ux => S.aggSt 0 rfl rfl rfl rfl fun wx S ux => ⟨b18, rfl, S.at_ 1 rfl, S.upd⟩)), trivial⟩) (S.ext ex)⟩)), ⟨S.newO fun b23 wx S ex => keep_r (hE S.upd) (S.keeps 1 rfl (⟨S.newO fun b24 wx S ex => keep_r (hE S.upd) (S.keeps 2 rfl (pcut_call (byB.ext S.upd) (by omega) (by rw [hp.tag]; omega) (by omega) fun wx ex => (fun S => S.aggSt 0 rfl rfl rfl rfl fun wx S ux => S.aggSt 1 rfl rfl rfl rfl fun wx S ux => ⟨b24, rfl, S.at_ 0 rfl, S.upd⟩) (S.ext ex))), pcut_call (byB.ext S.upd) (by omega) (by rw [hp.tag]; omega) (by omega) fun wx ex => (fun S => ⟨S.newO fun b27 wx S ex => keep_r (hE S.upd) (S.keeps 2 rfl (S.aggSt 0 rfl rfl rfl rfl fun wx S ux => S.aggSt 1 rfl rfl rfl rfl fun wx S ux => ⟨b27, rfl, S.at_ 0 rfl, S.upd⟩)), trivial⟩) (S.ext ex)⟩)), pcut_call (byB.ext S.upd) (by omega) (by rw [hp.tag]; omega) (by omega) fun wx ex => (fun S => ⟨S.newO fun b29 wx S ex => keep_r (hE S.upd) (S.keeps 1 rfl (⟨S.newO fun b30 wx S ex => keep_r (hE S.upd) (S.keeps 2 rfl (S.aggSt 1 rfl rfl rfl rfl fun wx S ux => S.aggSt 0 rfl rfl rfl rfl fun wx S ux => ⟨b29, rfl, S.at_ 1 rfl, S.upd⟩)), trivial⟩)), ⟨S.newO fun b31 wx S ex => keep_r (hE S.upd) (S.keeps 1 rfl (⟨S.newO fun b32 wx S ex => keep_r (hE S.upd) (S.keeps 2 rfl (S.aggSt 0 rfl rfl rfl rfl fun wx S ux => S.aggSt 1 rfl rfl rfl rfl fun wx S ux => ⟨b32, rfl, S.at_ 0 rfl, S.upd⟩)), trivial⟩)), trivial⟩⟩) (S.ext ex)⟩⟩
    ·rintro ⟨_, _⟩ w9 ⟨b, rfl, hb, e9⟩
     dsimp only
     refine lds_r hb (x := pcT (headPc e x y.2 n)) (fun j v hv => by rw [Nat.zero_add, List.getElem?_toArray]; exact hv) (newO_r fun b32 w10 e10 n10 _ _ => ?_)
     have hbox : SlX w10 ⟨some (at0 b32), 1, 1⟩ 7 (flat c112 [pcT (headPc e x y.2 n)]) := (SlIn.of_box n10 (n := 1) (sz := 7) rfl).x
     have x10 := (e3.trans e9).trans e10
     refine append_rx eParts eParts.ts_ (s := ⟨none, 0, 0⟩) (x := ⟨some (at0 b32), 1, 1⟩) (SlOwn.nil w10 w2.heap.size _ _) hbox (Pc_one _) (by dsimp only; omega) (by have := x10.size; omega) fun ps' W4 o4 l4 u4 k4 => ?_
     refine ⟨[headPc e x y.2 n], [(y.1, y.2.take (cutAt e y.2 n))], o4, ⟨head_in hp hn0 hn.1, trivial⟩, ?_, ?_, ?_, Nat.le_refl _, x10.step u4 fun k hk => ?_⟩
     ·show ats e (y.2.take (cutAt e y.2 n)) ++ [] = _
      rw [List.append_nil]; unfold cutAt
      rw [(ats_cut e n y.2).1]
     ·intro z hz k hk
      rw [List.mem_singleton.1 hz] at hk
      exact pO x (List.mem_of_getElem? hx) k (cut_blk hk)
     ·intro z hz k hk hk'
      rw [List.mem_singleton.1 hz] at hk ⊢
      have hcl := cutAt_le e y.2 n
      have hlen := hp.by_.len
      exact Nat.le_trans (cut_top hp.by_ (l := 0) (h := (cutAt e y.2 n : Int)) (by omega) (by omega) (by omega)) (tops x (List.mem_of_getElem? hx) k (cut_blk hk) hk')
     ·obtain ⟨q, hq, _⟩ := hk; cases hq
   ·simp only [decide_eq_false_iff_not] at hn0
    obtain rfl : n = 0 := by omega
    exact ⟨[], [], SlOwn.nil _ _ _ _, trivial, rfl, (fun x hx => by cases hx), (fun x hx => by cases hx), Nat.zero_le _, e3.trans S5.upd⟩
 rintro ⟨psL, _⟩ w3 ⟨plL, ML, rowL, itsL, hML, oL, topL, lenL, e3⟩
 dsimp only at rowL ⊢
 have x3 := x2.trans e3
 have tk1 := hd_spot hs1
 rw [← hML] at tk1
 have tk2 := drop_spot hs2
 refine fresh_call (hs.ext x3) (fun k hk => ⟨fun hc => hsep k hk (hc ▸ h.op), fun hc => hsep k hk (aO k hc)⟩) hfit (x3.ext_get tx) (own.ext x3) (by omega) hput fun psF a plF MF w4 tx4 own4 rowF itsF hMF topF blkF blkA old4 u4 cntF => ?_
 have nt4 : ∀ t, t ≠ 107 → t ≠ 5 → NoTy w3 (fun k => k = p ∨ a0.blk k) t := by
  rintro t h1 h2 k (rfl | hk) c fr hc
  ·rw [x3.ext_get tx] at hc; cases hc; exact h1 rfl
  ·obtain ⟨c', fr', hc'⟩ := (own.ext x3).in.blk_cells hk
   rw [hc] at hc'; cases hc'; exact h2 rfl
 have rowL4 := rowL.ty u4 (nt4 _ (by decide) (by decide))
 have ht4 : tr.In w4 := (ht.ext x3).ty u4 (nt4 _ (by decide) (by decide))
 have o4 : Old w w4 a0 a := fun y b hy htp => old4 y b (hy.ext x3) htp
 have lL := SlOwn.lenR (cs := c112) rowL (by decide)
 have lF := SlOwn.lenR (cs := c112) rowF (by decide)
 rw [List.length_map] at lL lF
 have z2 := e3.size
 have z4 := u4.size
 refine append_rx eParts eParts.ts_ rowL4 rowF.in.x (Pcs_one _) (by
  show (psL.len + psF.len + (psL.len + psF.len) / 4 + 512) * 64 ≤ 2 ^ 48
  omega) (by omega) fun psA w5 rowA lA u5 kA => ?_
 rw [← flat_append, ← List.map_append] at rowA
 have nt5 : ∀ t, t ≠ 112 → NoTy w4 psL.blk t := fun t ht => NoTy.blk rowL4.in (fun h => ht h.symm)
 have tx5 : w5.heap[p]? = some (txO e lim tr.ptr a) := u5.get tx4 fun hk => nt5 107 (by decide) _ hk _ _ tx4
 have own5 := own4.ty u5 (nt5 _ (by decide))
 have itsF5 := itsF.ty u5 (nt5 _ (by decide))
 have ht5 : tr.In w5 := ht4.ty u5 (nt5 _ (by decide))
 have o5 := o4.ty u5 (nt5 _ (by decide))
 have z5 := u5.size
 refine join_r (fun x W => ∃ plR MR, SlOwn W w2.heap.size x.1 112 7 (flat c112 ((plL ++ plF ++ plR).map pcT)) ∧ Its w e plR MR ∧ aOf e MR = tlA e M j m ∧ (∀ x ∈ plR, ∀ k, x.bytes.blk k → O k) ∧ (∀ x ∈ plR, ∀ k, x.bytes.blk k → a0.blk k → top x.bytes ≤ top a0) ∧ Upd psA.blk w5 W) ?_ ?_
 ·refine rdTree tx5 (at_call ht5 hf (by omega) fun w6 e6 => ?_)
  refine (St.start w6).newO fun b41 w7 S7 e7 => S7.aggSt 0 rfl rfl rfl rfl fun w8 S8 u8 => ?_
  cases hx : tr.items[j]? with
  | none =>
   have hM : M[j]? = none := List.getElem?_eq_none (by have := List.getElem?_eq_none_iff.1 hx; omega)
   have e0 : atI tr.items j = (Pc.zero, false) := by unfold atI; rw [hx]
   rw [e0, tlA_none hM]
   refine sif_false ⟨[], [], ?_, trivial, rfl, (fun x hx => by cases hx), (fun x hx => by cases hx), Upd.of_ext (e6.trans S8.upd)⟩
   rw [List.append_nil]
   exact rowA.ext (e6.trans S8.upd)
  | some x =>
   have e0 : atI tr.items j = (x, true) := by unfold atI; rw [hx]
   rw [e0] at S8 ⊢
   obtain ⟨y, hy, hp, hyl⟩ := pcs hx
   have hn := spn hto hs2 hy
   rw [tlA_some hy]
   refine sif_true ?_
   have hlo := hp.lo; have hhi := hp.hi
   have tx6 := e6.ext_get tx5
   have hE : ∀ {V : World}, Ext w6 V → V.cell? (at0 p) = some (.int .i64 e.num) := fun x => cell_of (x.ext_get tx6) rfl
   have byB : By w6 x.bytes y.2 := ((o5 x.bytes y.2 hp.by_ (tops x (List.mem_of_getElem? hx))).1).ext e6
   have S := S8
   refine join_r (fun s W => ∃ b, s.1 = at0 b ∧ W.heap[b]? = some (.cells (Cells.vals c112 (pcT (restPc e x y.2 m))).toArray 112 (0, 0)) ∧ Ext w6 W) ?_ ?_
   ·refine S.drew fun w9 S e9 _ => S.lds 0 (pcT x) rfl ?_
    simp only [nn_eqT]
    refine ld_r (S.upd.ext_get tx6) (x := e.num) rfl ?_
    exact ⟨S.newO fun b18 wx S ex => keep_r (hE S.upd) (S.keeps 1 rfl (⟨S.newO fun b19 wx S ex => keep_r (hE S.upd) (S.keeps 2 rfl (pcut_call (byB.ext S.upd) (by omega) (by rw [hp.tag]; omega) (by omega) fun wx ex => (fun S => S.aggSt 1 rfl rfl rfl rfl fun wx S ux => S.aggSt 0 rfl rfl rfl rfl fun wx S ux => ⟨b19, rfl, S.at_ 0 rfl, S.upd⟩) (S.ext ex))), pcut_call (byB.ext S.upd) (by omega) (by rw [hp.tag]; omega) (by omega) fun wx ex => (fun S => ⟨S.newO fun b22 wx S ex => keep_r (hE S.upd) (S.keeps 2 rfl (S.aggSt 1 rfl rfl rfl rfl fun wx S ux => S.aggSt 0 rfl rfl rfl rfl fun wx S ux => ⟨b22, rfl, S.at_ 0 rfl, S.upd⟩)), trivial⟩) (S.ext ex)⟩)), ⟨S.newO fun b23 wx S ex => keep_r (hE S.upd) (S.keeps 1 rfl (⟨S.newO fun b24 wx S ex => keep_r (hE S.upd) (S.keeps 2 rfl (pcut_call (byB.ext S.upd) (by omega) (by rw [hp.tag]; omega) (by omega) fun wx ex => (fun S => S.aggSt 0 rfl rfl rfl rfl fun wx S ux => S.aggSt 1 rfl rfl rfl rfl fun wx S ux => ⟨b23, rfl, S.at_ 1 rfl, S.upd⟩) (S.ext ex))), pcut_call (byB.ext S.upd) (by omega) (by rw [hp.tag]; omega) (by omega) fun wx ex => (fun S => ⟨S.newO fun b27 wx S ex => keep_r (hE S.upd) (S.keeps 2 rfl (S.aggSt 0 rfl rfl rfl rfl fun wx S ux => S.aggSt 1 rfl rfl rfl rfl fun wx S ux => ⟨b23, rfl, S.at_ 1 rfl, S.upd⟩)), trivial⟩) (S.ext ex)⟩)), pcut_call (byB.ext S.upd) (by omega) (by rw [hp.tag]; omega) (by omega) fun wx ex => (fun S => ⟨S.newO fun b29 wx S ex => keep_r (hE S.upd) (S.keeps 1 rfl (⟨S.newO fun b30 wx S ex => keep_r (hE S.upd) (S.keeps 2 rfl (S.aggSt 1 rfl rfl rfl rfl fun wx S ux => S.aggSt 0 rfl rfl rfl rfl fun wx S ux => ⟨b30, rfl, S.at_ 0 rfl, S.upd⟩)), trivial⟩)), ⟨S.newO fun b31 wx S ex => keep_r (hE S.upd) (S.keeps 1 rfl (⟨S.newO fun b32 wx S ex => keep_r (hE S.upd) (S.keeps 2 rfl (S.aggSt 0 rfl rfl rfl rfl fun wx S ux => S.aggSt 1 rfl rfl rfl rfl fun wx S ux => ⟨b31, rfl, S.at_ 1 rfl, S.upd⟩)), trivial⟩)), trivial⟩⟩) (S.ext ex)⟩⟩
   ·rintro ⟨_, _⟩ w9 ⟨b, rfl, hb, e9⟩
    dsimp only
    simp only [addr_add]
    have hat : (restPc e x y.2 m).sm.atoms = (ats e y.2).length - m := by
     show (msr (ats e (y.2.drop (cutAt e y.2 m)))).atoms = _
     rw [msr_atoms (ats_posd e _)]
     unfold cutAt
     rw [(ats_cut e m y.2).2, List.length_drop]
    refine ld_r hb (x := (((restPc e x y.2 m).sm.atoms : Nat) : Int)) rfl (sif_r (fun h0 => ?_) (fun h0 => ?_))
    ·simp only [decide_eq_true_eq, gt_iff_lt] at h0
     refine lds_r hb (x := pcT (restPc e x y.2 m)) (fun j v hv => by rw [Nat.zero_add, List.getElem?_toArray]; exact hv) (newO_r fun b32 w10 e10 n10 _ _ => ?_)
     have hbox : SlX w10 ⟨some (at0 b32), 1, 1⟩ 7 (flat c112 [pcT (restPc e x y.2 m)]) := (SlIn.of_box n10 (n := 1) (sz := 7) rfl).x
     have x10 := (e6.trans e9).trans e10
     refine append_rx eParts eParts.ts_ (x := ⟨some (at0 b32), 1, 1⟩) (rowA.ext x10) hbox (Pc_one _) (by
      show (psA.len + 1 + (psA.len + 1) / 4 + 512) * 64 ≤ 2 ^ 48
      omega) (by have := x10.size; omega) fun ps' W4 o4' l4 u4' k4 => ?_
     have ef : flat c112 ((plL ++ plF).map pcT) ++ flat c112 [pcT (restPc e x y.2 m)] = flat c112 ((plL ++ plF ++ [restPc e x y.2 m]).map pcT) := by rw [List.map_append (l₁ := plL ++ plF), flat_append]; rfl
     rw [ef] at o4'
     refine ⟨[restPc e x y.2 m], [(restTag y.1 (cutAt e y.2 m), y.2.drop (cutAt e y.2 m))], o4', ⟨rest_in hp (by omega), trivial⟩, ?_, ?_, ?_, (Upd.of_ext x10).trans u4'⟩
     ·show ats e (y.2.drop (cutAt e y.2 m)) ++ [] = _
      rw [List.append_nil]; unfold cutAt
      rw [(ats_cut e m y.2).2]
     ·intro z hz k hk
      rw [List.mem_singleton.1 hz] at hk
      exact pO x (List.mem_of_getElem? hx) k (cut_blk hk)
     ·intro z hz k hk hk'
      rw [List.mem_singleton.1 hz] at hk ⊢
      have hcl := cutAt_le e y.2 m
      have hlen := hp.by_.len
      exact Nat.le_trans (cut_top hp.by_ (l := (cutAt e y.2 m : Int)) (h := (x.bytes.len : Int)) (by omega) (by omega) (by omega)) (tops x (List.mem_of_getElem? hx) k (cut_blk hk) hk')
    ·simp only [decide_eq_false_iff_not, gt_iff_lt] at h0
     refine ⟨[], [], ?_, trivial, ?_, (fun x hx => by cases hx), (fun x hx => by cases hx), Upd.of_ext (e6.trans e9)⟩
     ·rw [List.append_nil]; exact rowA.ext (e6.trans e9)
     ·show [] = (ats e y.2).drop m
      rw [List.drop_eq_nil_of_le (by omega)]
 rintro ⟨psR, _⟩ w6 ⟨plR, MR, rowR, itsR, hMR, oR, topR, u6⟩
 dsimp only at rowR ⊢
 rw [← hMR] at tk2
 have nt6 : ∀ t, t ≠ 112 → NoTy w5 psA.blk t := fun t ht => NoTy.blk rowA.in (fun h => ht h.symm)
 have tx6 : w6.heap[p]? = some (txO e lim tr.ptr a) := u6.get tx5 fun hk => nt6 107 (by decide) _ hk _ _ tx5
 have own6 := own5.ty u6 (nt6 _ (by decide))
 have itsF6 := itsF5.ty u6 (nt6 _ (by decide))
 have ht6 : tr.In w6 := ht5.ty u6 (nt6 _ (by decide))
 have o6 := o5.ty u6 (nt6 _ (by decide))
 refine drew_r fun w7 e7 _ => rdTree (e7.ext_get tx6) (rdTree (e7.ext_get tx6) (tsize_call (ht6.ext e7) fun w8 e8 => ?_))
 have x8 := e7.trans e8
 have tx8 := x8.ext_get tx6
 refine keep_r ?_ ?_
 ·rw [addr_add]
  refine cellsAt_of _ 0 fun q v hv => cell_of tx8 ?_
  match q, hv with
  | 0, hv => exact hv
  | q + 1, hv => cases hv
 have emin : (if ((tr.items.length : Nat) : Int) < IntKind.wrap .i64 ((j : Int) + 1) then ((tr.items.length : Nat) : Int) else IntKind.wrap .i64 ((j : Int) + 1)) = ((min (j + 1) tr.items.length : Nat) : Int) := by
  rw [wrap64 (by omega) (by omega)]
  split <;> omega
 rw [emin]
 have old_its : ∀ {l : List Pc} {N : Parts}, Its w e l N → (∀ x ∈ l, ∀ k, x.bytes.blk k → a0.blk k → top x.bytes ≤ top a0) → Its w6 e l N := fun hl htp => hl.to fun x hx b hb => (o6 x.bytes b hb (htp x hx)).1
 have its_all : Its w6 e (tr.items.take i ++ (plL ++ plF ++ plR) ++ tr.items.drop (min (j + 1) tr.items.length)) (M.take i ++ (ML ++ MF ++ MR) ++ M.drop (min (j + 1) tr.items.length)) :=
  Its.app (Its.app (old_its (hi.take i) fun x hx => tops x (List.mem_of_mem_take hx)) (Its.app (Its.app (old_its itsL topL) itsF6) (old_its itsR topR))) (old_its (hi.drop _) fun x hx => tops x (List.mem_of_mem_drop hx))
 have ed : M.drop (min (j + 1) tr.items.length) = M.drop (j + 1) := by
  by_cases hc : j + 1 ≤ tr.items.length
  ·rw [Nat.min_eq_left hc]
  ·rw [List.drop_eq_nil_of_le (by omega), List.drop_eq_nil_of_le (by omega)]
 have ea : aOf e (M.take i ++ (ML ++ MF ++ MR) ++ M.drop (min (j + 1) tr.items.length)) = (aOf e M).take from_ ++ prs e put ++ (aOf e M).drop to_ := by
  rw [ed, aOf_app, aOf_app, aOf_app, aOf_app, tk1, tk2, hMF]
  simp only [List.append_assoc]
 have hsA : szs (aOf e (M.take i ++ (ML ++ MF ++ MR) ++ M.drop (min (j + 1) tr.items.length))) < 2 ^ 59 := by rw [ea]; omega
 have hFine := its_all.fine hsA
 have hjl : min (j + 1) tr.items.length ≤ tr.items.length := Nat.min_le_right _ _
 have hi_le : i ≤ min (j + 1) tr.items.length := by
  rcases hs1 with ⟨_, rfl, _⟩ | ⟨x, hx, _⟩
  ·exact Nat.zero_le _
  ·have := (List.getElem?_eq_some_iff.1 hx).1; omega
 refine replace_call (t := tr) (n := i) (m := min (j + 1) tr.items.length) (l := plL ++ plF ++ plR) (ht6.ext x8) (rowR.in.ext x8) hf hFine.left.right hi_le hjl hFine fun t' w9 ht' hti e9 => ?_
 have x9 := x8.trans e9
 have tx9 := x9.ext_get tx6
 simp only [nn_eqT, addr_add]
 refine aggSt_r tx9 rfl rfl (by show 0 + 2 + 1 ≤ 4; decide) fun w10 u10 n10 _ => ?_
 have n10 : w10.heap[p]? = some (txO e lim t'.ptr a) := n10
 have nt10 : ∀ t, t ≠ 107 → NoTy w9 (fun k => k = p) t := fun t ht => NoTy.box tx9 (fun h => ht h.symm)
 have ht10 : t'.In w10 := ht'.ty u10 (nt10 _ (by decide))
 have o10 : Old w w10 a0 a := (o6.ty x9 (no_ext _ _)).ty u10 (nt10 _ (by decide))
 have uA : Upd (Wr w O) w w10 := by
  have hp' : Wr w O p := ⟨h.op, NoTy.box tx (by decide) p rfl⟩
  have v3 : Upd (Wr w O) w w3 := Upd.of_ext x3
  have v4 : Upd (Wr w O) w w4 := v3.trans (u4.mono fun k _ hk => hk.elim (fun h => h ▸ hp') fun h => ⟨aO k h, NoTy.blk own.in (by decide) k h⟩)
  have v5 : Upd (Wr w O) w w5 := v4.new u5 fun k hk hS => by have := rowL4.blk_ge hS; have := x2.size; omega
  have v6 : Upd (Wr w O) w w6 := v5.new u6 fun k hk hS => by have := rowA.blk_ge hS; have := x2.size; omega
  exact (v6.trans (Upd.of_ext x9)).trans (u10.mono fun k _ hk => hk ▸ hp')
 have hsz10 := uA.size
 have own10 := (own6.ext x9).ty u10 (nt10 _ (by decide))
 have hlA : (ab ++ bts e put).length = a.len := by have := own10.len1; rwa [List.length_map] at this
 rw [List.length_append] at hlA
 refine hK (fun k => O k ∨ (w.heap.size ≤ k ∧ k < w10.heap.size)) (M.take i ++ (ML ++ MF ++ MR) ++ M.drop (min (j + 1) tr.items.length)) w10 ⟨⟨t', a, ab ++ bts e put, n10, ht10, ?_, own10, ?_, ?_, ?_, by omega⟩, lims, by rw [ea]; exact hroom, .inl h.op, ?_⟩ ea uA (fun k hk => .inl hk) (fun k hk => hk.imp id fun h => h.1)
 ·rw [hti]
  exact (its_all.ext x9).ty u10 (nt10 _ (by decide))
 ·rw [hti]
  have oldT : ∀ x : Pc, (∃ b, By w x.bytes b) → (∀ k, x.bytes.blk k → a0.blk k → top x.bytes ≤ top a0) → ∀ k, x.bytes.blk k → a.blk k → top x.bytes ≤ top a := fun x ⟨b, hb⟩ htp => (o10 x.bytes b hb htp).2
  intro x hx
  rcases List.mem_append.1 hx with hx | hx
  ·rcases List.mem_append.1 hx with hx | hx
   ·exact oldT x (hi.by_ x (List.mem_of_mem_take hx)) (tops x (List.mem_of_mem_take hx))
   ·rcases List.mem_append.1 hx with hx | hx
    ·rcases List.mem_append.1 hx with hx | hx
     ·exact oldT x (itsL.by_ x hx) (topL x hx)
     ·exact topF x hx
    ·exact oldT x (itsR.by_ x hx) (topR x hx)
  ·exact oldT x (hi.by_ x (List.mem_of_mem_drop hx)) (tops x (List.mem_of_mem_drop hx))
 ·rw [hti]
  intro x hx k hk
  have new : w3.heap.size ≤ k → (∃ b, By w10 x.bytes b) → O k ∨ (w.heap.size ≤ k ∧ k < w10.heap.size) := fun h1 ⟨b, hb⟩ => .inr ⟨by have := x3.size; omega, hb.blk_lt hk⟩
  rcases List.mem_append.1 hx with hx | hx
  ·rcases List.mem_append.1 hx with hx | hx
   ·exact .inl (pO x (List.mem_of_mem_take hx) k hk)
   ·rcases List.mem_append.1 hx with hx | hx
    ·rcases List.mem_append.1 hx with hx | hx
     ·exact .inl (oL x hx k hk)
     ·rcases blkF x hx k hk with h1 | h1
      ·exact .inl (aO k h1)
      ·exact new h1 (((itsF6.ext x9).ty u10 (nt10 _ (by decide))).by_ x hx)
    ·exact .inl (oR x hx k hk)
  ·exact .inl (pO x (List.mem_of_mem_drop hx) k hk)
 ·intro k hk
  rcases blkA k hk with h1 | h1
  ·exact .inl (aO k h1)
  ·exact .inr ⟨by have := x3.size; omega, own10.in.blk_lt hk⟩
 ·intro k hk
  rcases hk with hk | hk
  ·have := h.own k hk; omega
  ·exact hk.2
end
section
variable {w w' W W' : World} {S : Nat → Prop} {p : Nat} {e : Enc} {lim na : Nat} {O : Nat → Prop} {M : Parts} {tp : Option Addr} {a0 a : Sl}
abbrev edT (f t : Nat) (s : Sl) : Cells.T c83 := ((f : Int), (t : Int), s, ())
theorem Txt.lim_ (h : Txt w p e lim na O M) : w.cell? ⟨p, 1, none⟩ = some (.int .i64 (lim : Int)) := by
 obtain ⟨t, a, ab, h1, _⟩ := h.ex
 exact cell_of h1 rfl
theorem szs_prs_take (e : Enc) (l : List Int) {i : Nat} {v : Int} (hv : l[i]? = some v) : szs (prs e (l.take (i + 1))) = szs (prs e (l.take i)) + sz e v := by
 rw [List.take_add_one, hv]
 simp [prs, szs_append, szs_cons, szs_nil]
theorem szs_prs_le (e : Enc) (l : List Int) (i : Nat) : szs (prs e (l.take i)) ≤ szs (prs e l) := by
 have : prs e l = prs e (l.take i) ++ prs e (l.drop i) := by unfold prs; rw [← List.map_append, List.take_append_drop]
 rw [this, szs_append]; omega
theorem refuse_call {f t : Nat} {s sp : Sl} {ty ty' : TypeId} {put : List Int} (h : Txt w p e lim na O M) (hft : f ≤ t) (hto : t ≤ (aOf e M).length) (hs : SlIn w s ty 3 (flat c83 [edT f t sp])) (hp : SlIn w sp ty' 1 (iv put)) (hfit : Fit e put) (hput : put.length < 2 ^ 40) (hb : (bts e put).length < 2 ^ 40)
  (hroom : szs ((aOf e M).take f ++ prs e put ++ (aOf e M).drop t) ≤ lim) {K : Int → World → Prop} (hK : ∀ w', Ext w w' → K 0 w') :
  callT Tryz.prog 77 #[.pointer (some (at0 p)), .slice s.a s.len s.cap] (.one (.one (.int .i64))) K w := by
 refine F77_calls ?_
 unfold F77
 have few := h.few; have lims := h.lims; have hsz := h.sz
 have hl1 : 1 = s.len := by have := SlIn.lenR (cs := c83) (xs := [edT f t sp]) hs (by decide); simpa using this
 have hpl : put.length = sp.len := by have := hp.len1; rwa [List.length_map] at this
 have ht13 : szs (aOf e M) = szs ((aOf e M).take t) + szs ((aOf e M).drop t) := by conv => lhs; rw [← List.take_append_drop t (aOf e M)]; rw [szs_append]
 have htf : szs ((aOf e M).take f) ≤ szs ((aOf e M).take t) := by
  have h2 : (aOf e M).take t = (aOf e M).take f ++ ((aOf e M).take t).drop f := by
   conv => lhs; rw [← List.take_append_drop f ((aOf e M).take t)]
   rw [List.take_take, Nat.min_eq_left hft]
  rw [h2, szs_append]; omega
 rw [szs_append, szs_append] at hroom
 have hbl := bts_len hfit
 refine sif_r (fun hc => ?_) (fun _ => ?_)
 ·simp only [decide_eq_true_eq, gt_iff_lt] at hc; omega
 have rdE : ∀ {V : World} {K : Addr → Cells.T c83 → World → Prop}, Ext w V → (∀ q, K q (edT f t sp) V) → ix s.a s.len ((0 : Nat) : Int) (fun q => lds c83 (q.add (scaled (Int.toNat ((0 : Nat) : Int)) 3)) (K q)) V := fun x hk => ix_lds (cs := c83) (xs := [edT f t sp]) (hs.ext x) (by decide) (by decide) rfl hk
 have ew1 : IntKind.wrap .i64 (((0 : Nat) : Int) + 1) = ((1 : Nat) : Int) := by decide
 refine len_call h fun w1 e1 => ?_
 refine join_r (fun _ W => Ext w W) ?_ ?_
 ·refine sloop_r (fun x W => ((x = (0, ((0 : Nat) : Int), ())) ∨ x.2.1 = ((1 : Nat) : Int)) ∧ Ext w W) (fun x _ => (1 - x.2.1).toNat) ⟨.inl rfl, e1⟩ ?_
  rintro x W ⟨rfl | hx, eW⟩
  ·refine sif_r (fun _ => ?_) (fun hc => ?_)
   ·refine rdE eW fun q => (St.start W).newO fun b8 w2 S2 e2 => S2.aggSt 0 rfl rfl rfl rfl fun w3 S3 u3 => ?_
    refine join_r (fun x W' => x = (false, ()) ∧ w3 = W') ?_ ?_
    ·refine S3.ld 0 rfl (x := (f : Int)) rfl (sif_r (fun hc => ?_) (fun _ => S3.ld 0 rfl (x := (t : Int)) rfl (S3.ld 0 rfl (x := (f : Int)) rfl (sif_r (fun hc => ?_) (fun _ => S3.ld 0 rfl (x := (t : Int)) rfl ⟨tupb ?_, rfl⟩)))))
     ·simp only [decide_eq_true_eq] at hc; omega
     ·simp only [decide_eq_true_eq] at hc; omega
     ·simp only [decide_eq_true_eq, gt_iff_lt, Bool.false_eq_true, iff_false]; omega
    rintro _ _ ⟨rfl, rfl⟩
    refine sif_false (S3.ld 0 rfl (x := (t : Int)) rfl ⟨⟨.inr ?_, eW.trans S3.upd⟩, ?_⟩)
    ·exact ew1
    ·show (1 - IntKind.wrap .i64 (((0 : Nat) : Int) + 1)).toNat < (1 - ((0 : Nat) : Int)).toNat
     rw [ew1]; decide
   ·exact eW
  ·refine sif_r (fun hc => ?_) (fun _ => eW)
   simp only [decide_eq_true_eq] at hc; omega
 rintro _ w2 e2
 refine sizeB_call (h.ext e2) fun w3 e3 => ?_
 have x3 := e2.trans e3
 obtain ⟨B0, hB0⟩ : ∃ B0, B0 = szs (aOf e M) := ⟨_, rfl⟩
 rw [← hB0]
 refine join_r (fun x W => x = (((B0 + (bts e put).length : Nat) : Int), ()) ∧ Ext w W) ?_ ?_
 ·refine sloop_r (fun x W => ((x = ((B0 : Int), ((0 : Nat) : Int), ())) ∨ x = (((B0 + (bts e put).length : Nat) : Int), ((1 : Nat) : Int), ())) ∧ Ext w W) (fun x _ => (1 - x.2.1).toNat) ⟨.inl rfl, x3⟩ ?_
  rintro _ W ⟨rfl | rfl, eW⟩
  ·refine sif_r (fun _ => ?_) (fun hc => ?_)
   ·refine join_r (fun x W => x = (((B0 + (bts e put).length : Nat) : Int), ()) ∧ Ext w W) ?_ ?_
    ·refine rdE eW fun q => (St.start W).newO fun b8 w4 S4 e4 => S4.aggSt 0 rfl rfl rfl rfl fun w5 S5 u5 => S5.ld 0 rfl (x := sp) rfl ?_
     refine sloop_r (fun x V => (∃ i : Nat, i ≤ put.length ∧ x = (((B0 + szs (prs e (put.take i)) : Nat) : Int), (i : Int), ())) ∧ Ext w V) (fun x _ => ((put.length : Int) - x.2.1).toNat) ⟨⟨0, Nat.zero_le _, by simp [prs, szs_nil]⟩, eW.trans S5.upd⟩ ?_
     rintro _ V ⟨⟨i, hi, rfl⟩, eV⟩
     refine sif_r (fun hc => ?_) (fun hc => ?_)
     ·simp only [decide_eq_true_eq] at hc
      obtain ⟨v, hv⟩ : ∃ v, put[i]? = some v := ⟨_, List.getElem?_eq_getElem (by omega)⟩
      have hf := hfit v (List.mem_of_getElem? hv)
      dsimp only
      refine ix_ld (c := .int .i64) (xs := put) (hp.ext eV) (by omega) (x := v) (by rw [Int.toNat_natCast]; exact hv) fun q2 => (h.ext eV).enc (size_call fun w6 e6 => ?_)
      refine sif_r (fun hc => ?_) (fun _ => ?_)
      ·simp only [beq_iff_eq] at hc; have := hf.2; omega
      have hstep := szs_prs_take e put hv
      have hle := szs_prs_le e put (i + 1)
      have ewi : IntKind.wrap .i64 ((i : Int) + 1) = ((i + 1 : Nat) : Int) := by rw [wrap64 (by omega) (by omega)]; omega
      have ewb : IntKind.wrap .i64 (((B0 + szs (prs e (put.take i)) : Nat) : Int) + ((sz e v : Nat) : Int)) = ((B0 + szs (prs e (put.take (i + 1))) : Nat) : Int) := by rw [wrap64 (by omega) (by omega)]; omega
      rw [ewi, ewb]
      exact ⟨⟨⟨i + 1, by omega, rfl⟩, eV.trans e6⟩, by omega⟩
     ·simp only [decide_eq_false_iff_not] at hc
      have : i = put.length := by omega
      subst this
      rw [List.take_length, ← hbl]
      exact ⟨rfl, eV⟩
    rintro _ V ⟨rfl, eV⟩
    refine ⟨⟨.inr ?_, eV⟩, ?_⟩
    ·rw [ew1]
    ·show (1 - IntKind.wrap .i64 (((0 : Nat) : Int) + 1)).toNat < (1 - ((0 : Nat) : Int)).toNat
     rw [ew1]; decide
   ·simp only [decide_eq_false_iff_not] at hc; omega
  ·refine sif_r (fun hc => ?_) (fun _ => ⟨rfl, eW⟩)
   simp only [decide_eq_true_eq] at hc; omega
 rintro _ w4 ⟨rfl, e4⟩
 obtain ⟨T, hT⟩ : ∃ T, T = szs ((aOf e M).take f) + (bts e put).length + szs ((aOf e M).drop t) := ⟨_, rfl⟩
 refine join_r (fun x W => x = ((T : Int), ()) ∧ Ext w W) ?_ ?_
 ·refine sloop_r (fun x W => ((x = (((B0 + (bts e put).length : Nat) : Int), ((0 : Nat) : Int), ())) ∨ x = ((T : Int), ((1 : Nat) : Int), ())) ∧ Ext w W) (fun x _ => (1 - x.2.1).toNat) ⟨.inl rfl, e4⟩ ?_
  rintro _ W ⟨rfl | rfl, eW⟩
  ·refine sif_r (fun _ => ?_) (fun hc => ?_)
   ·refine join_r (fun x W => x = ((T : Int), ()) ∧ Ext w W) ?_ ?_
    ·refine rdE eW fun q => (St.start W).newO fun b8 w5 S5 e5 => S5.aggSt 0 rfl rfl rfl rfl fun w6 S6 u6 => S6.ld 0 rfl (x := (t : Int)) rfl (S6.ld 0 rfl (x := (f : Int)) rfl ?_)
     refine sif_r (fun hc => ?_) (fun hc => ?_)
     ·refine S6.drew fun w7 S7 e7 _ => S7.ld 0 rfl (x := (t : Int)) rfl (S7.ld 0 rfl (x := (f : Int)) rfl ?_)
      refine ahead_call (h.ext (eW.trans S7.upd)) hto fun w8 e8 => ?_
      have S8 := S7.ext e8
      refine S8.keep 0 rfl (v := .int .i64 (f : Int)) rfl (ahead_call (h.ext (eW.trans S8.upd)) (by omega) fun w9 e9 => ?_)
      have q1 : (smT (msr ((aOf e M).take t))).2.1 = ((szs ((aOf e M).take t) : Nat) : Int) := by show (((msr _).bytes : Nat) : Int) = _; rw [msr_bytes ((aOf_posd e M).take t)]
      have q2 : (smT (msr ((aOf e M).take f))).2.1 = ((szs ((aOf e M).take f) : Nat) : Int) := by show (((msr _).bytes : Nat) : Int) = _; rw [msr_bytes ((aOf_posd e M).take f)]
      rw [q1, q2]
      refine ⟨?_, eW.trans (S8.ext e9).upd⟩
      dsimp only
      rw [wrap64 (a := ((szs ((aOf e M).take t) : Nat) : Int) - ((szs ((aOf e M).take f) : Nat) : Int)) (by omega) (by omega), wrap64 (by omega) (by omega)]
      congr 1; omega
     ·simp only [decide_eq_false_iff_not, gt_iff_lt] at hc
      have : f = t := by omega
      subst this
      refine ⟨?_, eW.trans S6.upd⟩
      dsimp only
      congr 1; omega
    rintro _ V ⟨rfl, eV⟩
    refine ⟨⟨.inr ?_, eV⟩, ?_⟩
    ·rw [ew1]
    ·show (1 - IntKind.wrap .i64 (((0 : Nat) : Int) + 1)).toNat < (1 - ((0 : Nat) : Int)).toNat
     rw [ew1]; decide
   ·simp only [decide_eq_false_iff_not] at hc; omega
  ·refine sif_r (fun hc => ?_) (fun _ => ⟨rfl, eW⟩)
   simp only [decide_eq_true_eq] at hc; omega
 rintro _ w5 ⟨rfl, e5⟩
 simp only [nn_eqT, addr_add]
 refine ld_of (x := (lim : Int)) (h.ext e5).lim_ (sif_r (fun hc => ?_) (fun _ => hK w5 e5))
 simp only [decide_eq_true_eq, gt_iff_lt] at hc; omega
theorem change_call {f t : Nat} {s sp : Sl} {ty ty' : TypeId} {put : List Int} (h : Txt w p e lim na O M) (hft : f ≤ t) (hto : t ≤ (aOf e M).length) (hs : SlIn w s ty 3 (flat c83 [edT f t sp])) (hsep : ∀ k, s.blk k → ¬ O k) (hp : SlIn w sp ty' 1 (iv put)) (hsp : ∀ k, sp.blk k → ¬ O k) (hfit : Fit e put) (hput : put.length < 2 ^ 40) (hna : na + (bts e put).length < 2 ^ 40)
  (hroom : szs ((aOf e M).take f ++ prs e put ++ (aOf e M).drop t) ≤ lim) {K : Int → World → Prop}
  (hK : ∀ O' M' w', Txt w' p e lim (na + (bts e put).length) O' M' → aOf e M' = (aOf e M).take f ++ prs e put ++ (aOf e M).drop t → Upd (Wr w O) w w' → (∀ k, O k → O' k) → (∀ k, O' k → O k ∨ w.heap.size ≤ k) → K 0 w') :
  callT Tryz.prog 50 #[.pointer (some (at0 p)), .slice s.a s.len s.cap] (.one (.one (.int .i64))) K w := by
 refine F50_calls ?_
 unfold F50
 have hl1 : 1 = s.len := by have := SlIn.lenR (cs := c83) (xs := [edT f t sp]) hs (by decide); simpa using this
 have hpl : put.length = sp.len := by have := hp.len1; rwa [List.length_map] at this
 refine refuse_call h hft hto hs hp hfit hput (by omega) hroom fun w1 e1 => sif_false ?_
 have ew0 : IntKind.wrap .i64 (((s.len : Nat) : Int) - 1) = 0 := by rw [← hl1]; decide
 rw [ew0]
 refine join_r (fun _ W => ∃ O' M', Txt W p e lim (na + (bts e put).length) O' M' ∧ aOf e M' = (aOf e M).take f ++ prs e put ++ (aOf e M).drop t ∧ Upd (Wr w O) w W ∧ (∀ k, O k → O' k) ∧ (∀ k, O' k → O k ∨ w.heap.size ≤ k)) ?_ (fun _ W ⟨O', M', g1, g2, g3, g4, g5⟩ => hK O' M' W g1 g2 g3 g4 g5)
 refine sloop_r (fun x W => (x = (((0 : Nat) : Int), ()) ∧ Ext w W) ∨ (x = (-1, ()) ∧ ∃ O' M', Txt W p e lim (na + (bts e put).length) O' M' ∧ aOf e M' = (aOf e M).take f ++ prs e put ++ (aOf e M).drop t ∧ Upd (Wr w O) w W ∧ (∀ k, O k → O' k) ∧ (∀ k, O' k → O k ∨ w.heap.size ≤ k))) (fun x _ => (x.1 + 1).toNat) (.inl ⟨rfl, e1⟩) ?_
 rintro _ W (⟨rfl, eW⟩ | ⟨rfl, hR⟩)
 ·refine sif_r (fun _ => ?_) (fun hc => ?_)
  ·refine join_r (fun _ W => ∃ O' M', Txt W p e lim (na + (bts e put).length) O' M' ∧ aOf e M' = (aOf e M).take f ++ prs e put ++ (aOf e M).drop t ∧ Upd (Wr w O) w W ∧ (∀ k, O k → O' k) ∧ (∀ k, O' k → O k ∨ w.heap.size ≤ k)) ?_ ?_
   ·refine ix_lds (cs := c83) (xs := [edT f t sp]) (hs.ext eW) (by decide) (by decide) (x := edT f t sp) rfl fun q => (St.start W).newO fun b8 w2 S2 e2 => S2.aggSt 0 rfl rfl rfl rfl fun w3 S3 u3 => ?_
    refine join_r (fun x W' => x = (decide (f < t ∨ 0 < put.length), ()) ∧ w3 = W') ?_ ?_
    ·refine S3.ld 0 rfl (x := (f : Int)) rfl (S3.ld 0 rfl (x := (t : Int)) rfl (sif_r (fun hc => ⟨tupb ?_, rfl⟩) (fun hc => S3.ld 0 rfl (x := sp) rfl ⟨tupb ?_, rfl⟩)))
     all_goals simp only [decide_eq_true_eq, decide_eq_false_iff_not, true_iff, gt_iff_lt] at *
     all_goals omega
    rintro _ _ ⟨rfl, rfl⟩
    have x3 := eW.trans S3.upd
    refine sif_r (fun hc => ?_) (fun hc => ?_)
    ·refine S3.ld 0 rfl (x := (f : Int)) rfl (S3.ld 0 rfl (x := (t : Int)) rfl (S3.ld 0 rfl (x := sp) rfl ?_))
     refine treplace_call (h.ext x3) hft hto (hp.ext x3) hsp hfit hna hput hroom fun O' M' w4 tx4 ea u4 o1 o2 => ?_
     exact ⟨O', M', tx4, ea, Upd.new (Upd.of_ext x3) u4 (fun k hk hq => ⟨hq.1, fun c fr hc => hq.2 c fr (x3.ext_get hc)⟩), o1, fun k hk => (o2 k hk).imp id fun h => by have := x3.size; omega⟩
    ·simp only [decide_eq_false_iff_not, not_or] at hc
     obtain rfl : f = t := by omega
     obtain rfl : put = [] := List.length_eq_zero_iff.1 (by omega)
     exact ⟨O, M, h.ext x3, by simp [prs], Upd.of_ext x3, fun k hk => hk, fun k hk => .inl hk⟩
   ·rintro _ W' hR
    exact ⟨.inr ⟨rfl, hR⟩, by show (IntKind.wrap .i64 (((0 : Nat) : Int) - 1) + 1).toNat < (((0 : Nat) : Int) + 1).toNat; decide⟩
  ·simp only [decide_eq_false_iff_not] at hc; omega
 ·exact sif_false hR
end
end Go.Proofs.YtabcpghhfeplaaaGreat
namespace Go.Proofs.YtabcpghhfeplaaaGreat
open Go Go.Vx Cdc Trx Gly Clu Lns Obx
section
variable {w w' : World} {S : Nat → Prop} {p : Nat} {e : Enc} {lim na : Nat} {O : Nat → Prop} {M : Parts}
def Asc (l : List Int) : Prop := ∀ v ∈ l, 0 ≤ v ∧ v < 128
theorem Asc.fit {l : List Int} (h : Asc l) (e : Enc) : Fit e l := by
 intro v hv
 obtain ⟨h1, h2⟩ := h v hv
 refine ⟨.inl ⟨h1, by omega⟩, ?_⟩
 cases e with
 | u8 => show sz8 v ≠ 0; unfold sz8; split <;> (try split) <;> (try split) <;> (try split) <;> (try split) <;> omega
 | le => show sz16 v ≠ 0; unfold sz16; split <;> (try split) <;> (try split) <;> (try split) <;> (try split) <;> omega
 | be => show sz16 v ≠ 0; unfold sz16; split <;> (try split) <;> (try split) <;> (try split) <;> (try split) <;> omega
 | l1 => show sz1 v ≠ 0; unfold sz1; split <;> (try split) <;> (try split) <;> (try split) <;> (try split) <;> omega
theorem Asc.sz {v : Int} (h : 0 ≤ v ∧ v < 128) (e : Enc) : sz e v ≤ 4 := by
 cases e with
 | u8 => show sz8 v ≤ 4; unfold sz8; split <;> (try split) <;> (try split) <;> (try split) <;> (try split) <;> omega
 | le => show sz16 v ≤ 4; unfold sz16; split <;> (try split) <;> (try split) <;> (try split) <;> (try split) <;> omega
 | be => show sz16 v ≤ 4; unfold sz16; split <;> (try split) <;> (try split) <;> (try split) <;> (try split) <;> omega
 | l1 => show sz1 v ≤ 4; unfold sz1; split <;> (try split) <;> (try split) <;> (try split) <;> (try split) <;> omega
theorem Asc.szs {e : Enc} : ∀ {l : List Int}, Asc l → szs (prs e l) ≤ 4 * l.length
 | [], _ => Nat.le_refl _
 | a :: l, h => by
  have h1 := Asc.sz (h a List.mem_cons_self) e
  have h2 := Asc.szs (e := e) (l := l) fun x hx => h x (List.mem_cons_of_mem _ hx)
  show Cdc.szs ((a, Cdc.sz e a) :: prs e l) ≤ _
  rw [szs_cons, List.length_cons]
  show Cdc.sz e a + _ ≤ _
  omega
theorem push {r : Sl} {l : List Int} {v : Int} {b N : Nat} {K : Sl → World → Prop} (hr : SlOwn w N r 3 1 (iv l)) (hb : w.heap[b]? = some (.cells #[.int .i64 v] 3 (0, 0))) (hl : l.length < 2 ^ 40) (hN : N ≤ w.heap.size)
  (hK : ∀ r' w', SlOwn w' N r' 3 1 (iv (l ++ [v])) → Upd r.blk w w' → K r' w') :
  rawT Tryz.prog (.one (.one .sl)) (Builtin.append_ #[26, 26] 26 #[.slice r.a r.len r.cap, .slice (some (at0 b)) 1 1]) K w := by
 have hrl := hr.len1
 rw [List.length_map] at hrl
 refine append_rx eInts eInts.ts_ (x := ⟨some (at0 b), 1, 1⟩) hr (iv_box hb) (fun v hv => by rw [List.mem_singleton.1 hv]; rfl) (by
  show (r.len + 1 + (r.len + 1) / 4 + 512) * 8 ≤ 2 ^ 48
  omega) hN fun r' w' o l' u k => hK r' w' ?_ u
 have : iv (l ++ [v]) = iv l ++ [.int .i64 v] := by simp
 rw [this]; exact o
theorem joined_call {A B : List Int} {s s' : Sl} {t t' : TypeId} (hs : SlIn w s t 1 (iv A)) (hs' : SlIn w s' t' 1 (iv B)) (hA : A.length < 2 ^ 39) (hB : B.length < 2 ^ 39) {K : Sl → World → Prop} (hK : ∀ r w', SlOwn w' w.heap.size r 3 1 (iv (A ++ B)) → Ext w w' → K r w') :
  callT Tryz.prog 32 #[.slice s.a s.len s.cap, .slice s'.a s'.len s'.cap] (.one (.one .sl)) K w := by
 refine F32_calls ?_
 unfold F32
 have hlen : B.length = s'.len := by have := hs'.len1; rwa [List.length_map] at this
 refine copied_call hs (by omega) fun r1 w1 o1 e1 => ?_
 refine join_r (fun x W => SlOwn W w.heap.size x.1 3 1 (iv (A ++ B)) ∧ Ext w W) ?_ (fun x W h => hK _ _ h.1 h.2)
 refine sloop_r (fun x W => ∃ i : Nat, i ≤ B.length ∧ x.2 = ((i : Int), ()) ∧ SlOwn W w.heap.size x.1 3 1 (iv (A ++ B.take i)) ∧ Ext w W) (fun x _ => ((B.length : Int) - x.2.1).toNat) ⟨0, Nat.zero_le _, rfl, by rw [List.take_zero, List.append_nil]; exact o1, e1⟩ ?_
 rintro ⟨r, _⟩ W ⟨i, hi, rfl, hr, eW⟩
 dsimp only at hr ⊢
 refine sif_r (fun hc => ?_) (fun hc => ?_)
 ·simp only [decide_eq_true_eq] at hc
  obtain ⟨a, ha⟩ : ∃ a, B[i]? = some a := ⟨_, List.getElem?_eq_getElem (by omega)⟩
  have ew : IntKind.wrap .i64 ((i : Int) + 1) = ((i + 1 : Nat) : Int) := by rw [wrap64 (by omega) (by omega)]; omega
  rw [ew]
  refine ix_ld (c := .int .i64) (xs := B) (hs'.ext eW) (by omega) (x := a) (by rw [Int.toNat_natCast]; exact ha) fun q => newO_r fun b7 w4 e4 n4 hb4 _ => ?_
  refine push (hr.ext e4) n4 (by rw [List.length_append, List.length_take]; omega) (by have := eW.size; have := e4.size; omega) fun r' w5 o5 u5 => ?_
  rw [List.append_assoc, show B.take i ++ [a] = B.take (i + 1) by rw [List.take_add_one, ha]; rfl] at o5
  exact ⟨⟨i + 1, by omega, rfl, o5, (eW.trans e4).step u5 fun k hk => hr.blk_ge hk⟩, by omega⟩
 ·simp only [decide_eq_false_iff_not] at hc
  rw [List.take_of_length_le (by omega)] at hr
  exact ⟨hr, eW⟩
def plain1 (x : Int) : Int := if x = 10 ∨ x = 13 then x else 32 + ((BitVec.ofInt 64 x &&& BitVec.ofInt 64 95).toNat : Int)
def plainL (l : List Int) : List Int := (l.take 16).map plain1
theorem plain1_asc (x : Int) : 0 ≤ plain1 x ∧ plain1 x < 128 := by
 unfold plain1
 split
 ·omega
 ·have : (BitVec.ofInt 64 x &&& BitVec.ofInt 64 95).toNat ≤ 95 := by
   rw [BitVec.toNat_and]
   exact Nat.le_trans Nat.and_le_right (by decide)
  omega
theorem plainL_asc (l : List Int) : Asc (plainL l) := by
 intro v hv
 obtain ⟨x, _, rfl⟩ := List.mem_map.1 hv
 exact plain1_asc x
theorem plainL_len (l : List Int) : (plainL l).length ≤ 16 := by unfold plainL; rw [List.length_map, List.length_take]; omega
theorem plain_call {s : Sl} {l : List Int} (hs : SlX w s 1 (iv l)) (hl : l.length < 2 ^ 60) {K : Sl → World → Prop} (hK : ∀ r w', SlOwn w' w.heap.size r 3 1 (iv (plainL l)) → Ext w w' → K r w') :
  callT Tryz.prog 26 #[.slice s.a s.len s.cap] (.one (.one .sl)) K w := by
 refine F26_calls ?_
 unfold F26
 have hlen : l.length = s.len := by have := hs.len1; rwa [List.length_map] at this
 refine join_r (fun x W => SlOwn W w.heap.size x.1 3 1 (iv (plainL l)) ∧ Ext w W) ?_ (fun x W h => hK _ _ h.1 h.2)
 refine sloop_r (fun x W => ∃ i : Nat, i ≤ l.length ∧ i ≤ 16 ∧ x.2 = ((i : Int), ()) ∧ SlOwn W w.heap.size x.1 3 1 (iv ((l.take i).map plain1)) ∧ Ext w W) (fun x _ => ((16 : Int) - x.2.1).toNat) ⟨0, Nat.zero_le _, Nat.zero_le _, rfl, SlOwn.nil _ _ _ _, Ext.refl w⟩ ?_
 rintro ⟨r, _⟩ W ⟨i, hi, hi2, rfl, hr, eW⟩
 dsimp only at hr ⊢
 refine join_r (fun x W' => x = (decide (i < l.length ∧ i < 16), ()) ∧ W = W') ?_ ?_
 ·refine sif_r (fun h => ⟨tupb ?_, rfl⟩) (fun h => ⟨tupb ?_, rfl⟩)
  all_goals simp only [decide_eq_true_eq, decide_eq_false_iff_not, Bool.false_eq_true, false_iff] at *
  all_goals omega
 rintro _ _ ⟨rfl, rfl⟩
 refine sif_r (fun hc => ?_) (fun hc => ?_)
 ·simp only [decide_eq_true_eq] at hc
  obtain ⟨a, ha⟩ : ∃ a, l[i]? = some a := ⟨_, List.getElem?_eq_getElem hc.1⟩
  have ew : IntKind.wrap .i64 ((i : Int) + 1) = ((i + 1 : Nat) : Int) := by rw [wrap64 (by omega) (by omega)]; omega
  rw [ew]
  refine ix_ldX (c := .int .i64) (xs := l) (hs.ext eW) (by omega) (x := a) (by rw [Int.toNat_natCast]; exact ha) fun q => ?_
  refine join_r (fun x W' => x = (plain1 a, ()) ∧ W = W') ?_ ?_
  ·refine join_r (fun x W' => x = (decide (¬ (a = 10 ∨ a = 13)), ()) ∧ W = W') ?_ ?_
   ·refine sif_r (fun h => ⟨tupb ?_, rfl⟩) (fun h => ⟨tupb ?_, rfl⟩)
    ·simp only [bne_iff_ne, ne_eq, decide_eq_true_eq] at *; omega
    ·simp only [bne_eq_false_iff_eq, Bool.false_eq_true, decide_eq_true_eq, false_iff] at *; omega
   rintro _ _ ⟨rfl, rfl⟩
   have hr95 : (BitVec.ofInt 64 a &&& BitVec.ofInt 64 95).toNat ≤ 95 := by
    rw [BitVec.toNat_and]
    exact Nat.le_trans Nat.and_le_right (by decide)
   refine sif_r (fun h => ⟨?_, rfl⟩) (fun h => ⟨?_, rfl⟩)
   ·simp only [decide_eq_true_eq] at h
    unfold plain1
    rw [if_neg h]
    show (IntKind.wrap .i64 (32 + IntKind.wrap .i64 ((BitVec.ofInt 64 a &&& BitVec.ofInt 64 95).toNat : Int)), ()) = _
    rw [wrap64 (a := ((BitVec.ofInt 64 a &&& BitVec.ofInt 64 95).toNat : Int)) (by omega) (by omega), wrap64 (by omega) (by omega)]
   ·simp only [decide_eq_false_iff_not, Decidable.not_not] at h
    unfold plain1
    rw [if_pos h]
  rintro _ _ ⟨rfl, rfl⟩
  refine newO_r fun b7 w4 e4 n4 hb4 _ => push (hr.ext e4) n4 (by rw [List.length_map, List.length_take]; omega) (by have := eW.size; have := e4.size; omega) fun r' w5 o5 u5 => ?_
  have e5 : (l.take i).map plain1 ++ [plain1 a] = (l.take (i + 1)).map plain1 := by rw [List.take_add_one, ha]; simp
  rw [e5] at o5
  exact ⟨⟨i + 1, by omega, by omega, rfl, o5, (eW.trans e4).step u5 fun k hk => hr.blk_ge hk⟩, by omega⟩
 ·simp only [decide_eq_false_iff_not] at hc
  have : l.take i = l.take 16 := by
   by_cases h : i = 16
   ·rw [h]
   ·rw [List.take_of_length_le (by omega), List.take_of_length_le (by omega)]
  rw [this] at hr
  exact ⟨hr, eW⟩
theorem eEdit {f t : Nat} {b : Nat} {s : Sl} (h : w.heap[b]? = some (.cells #[.int .i64 (f : Int), .int .i64 (t : Int), .slice s.a s.len s.cap] 83 (0, 0))) : SlIn w ⟨some (at0 b), 1, 1⟩ 83 3 (flat c83 [edT f t s]) := SlIn.of_box h (n := 1) (sz := 3) rfl
end
end Go.Proofs.YtabcpghhfeplaaaGreat
namespace Go.Proofs.YtabcpghhfeplaaaGreat
open Trx Gly Clu Lns Obx
namespace Obx
theorem sk_brk {A : List Int} {i : Nat} (h : isb A i = true) : sk A (nb A i + 1) = some (i + 1) ∧ nb A (i + 1) = nb A i + 1 := by
 have hi := isb_lt h
 have hn : nb A (i + 1) = nb A i + 1 := by rw [nb_succ, h]; rfl
 have hle : nb A i + 1 ≤ brs A := by rw [← hn, brs_nb]; exact nb_mono A _ _ (by omega)
 obtain ⟨m, hm⟩ := sk_ok hle
 obtain ⟨_, _, h3, h4⟩ := sk_get hm
 rw [hm]
 have h1 : ¬ i + 1 < m := fun hc => by have := h4 _ hc; omega
 have h2 : ¬ m < i + 1 := fun hc => by have := nb_mono A m i (by omega); omega
 exact ⟨by congr 1; omega, hn⟩
end Obx
end Go.Proofs.YtabcpghhfeplaaaGreat
namespace Go.Proofs.YtabcpghhfeplaaaGreat
open Go Go.Vx Gly Clu Rgl Lns Trx Obx
section
variable {w w' : World} {A : List Int} {s : Sl} {t : TypeId}
theorem rbreaks_call (hs : SlIn w s t 1 (iv A)) (hl : A.length < 2 ^ 40) {K : Sl → World → Prop} (hK : ∀ s' w', SlOwn w' w.heap.size s' 3 1 (nv (cuts A)) → Ext w w' → K s' w') :
  callT Tryz.prog 132 #[.slice s.a s.len s.cap] (.one (.one .sl)) K w := by
 refine F132_calls ?_
 unfold F132
 have hlen : A.length = s.len := by have := hs.len1; rwa [List.length_map] at this
 have nvi : ∀ l : List Nat, nv l = iv (l.map fun (n : Nat) => (n : Int)) := fun l => by show l.map _ = (l.map _).map _; rw [List.map_map]; rfl
 have full : (List.range (A.length + 1)).filter (bk A) = cuts A := rfl
 refine join_r (fun x W => SlOwn W w.heap.size x.1 3 1 (nv (cuts A)) ∧ Ext w W) ?_ (fun x W h => hK _ _ h.1 h.2)
 refine sloop_r (fun x W => ∃ i : Nat, i ≤ A.length + 1 ∧ x.2 = ((i : Int), ()) ∧ SlOwn W w.heap.size x.1 3 1 (nv ((List.range i).filter (bk A))) ∧ Ext w W) (fun x _ => ((A.length : Int) + 1 - x.2.1).toNat) ⟨0, Nat.zero_le _, rfl, SlOwn.nil _ _ _ _, Ext.refl w⟩ ?_
 rintro ⟨r, _⟩ W ⟨i, hi, rfl, hr, eW⟩
 dsimp only at hr ⊢
 refine sif_r (fun hc => ?_) (fun hc => ?_)
 ·simp only [decide_eq_true_eq] at hc
  have ew : IntKind.wrap .i64 ((i : Int) + 1) = ((i + 1 : Nat) : Int) := by rw [wrap64 (by omega) (by omega)]; omega
  rw [ew]
  have fl : ((List.range i).filter (bk A)).length ≤ i := by have := List.length_filter_le (bk A) (List.range i); rwa [List.length_range] at this
  refine join_r (fun x W' => SlOwn W' w.heap.size x.1 3 1 (nv ((List.range (i + 1)).filter (bk A))) ∧ Ext w W') ?_ (fun x W' h => ⟨⟨i + 1, by omega, rfl, h.1, h.2⟩, by omega⟩)
  refine risbreak_call (hs.ext eW) hl (by omega) ?_
  rw [List.range_succ, List.filter_append]
  refine sif_r (fun hb => ?_) (fun hb => ?_)
  ·rw [List.filter_cons_of_pos hb]
   rw [nvi] at hr
   refine newO_r fun b8 w4 e4 n4 hb4 _ => push (hr.ext e4) n4 (by rw [List.length_map]; omega) (by have := eW.size; have := e4.size; omega) fun r' w5 o5 u5 => ?_
   refine ⟨?_, (eW.trans e4).step u5 fun k hk => hr.blk_ge hk⟩
   rw [nvi, List.map_append]
   exact o5
  ·rw [List.filter_cons_of_neg (by rw [hb]; decide)]
   rw [show ([] : List Nat).filter (bk A) = [] from rfl, List.append_nil]
   exact ⟨hr, eW⟩
 ·simp only [decide_eq_false_iff_not] at hc
  have : i = A.length + 1 := by omega
  subst this
  rw [full] at hr
  exact ⟨hr, eW⟩
def lnF (A : List Int) : List Ln := (List.range (brs A + 1)).map fun i => (lnAt A i).getD ⟨0, 0, 0, 0⟩
theorem lnF_len (A : List Int) : (lnF A).length = brs A + 1 := by unfold lnF; simp
theorem lnF_at {A : List Int} {i : Nat} {l : Ln} (h : lnAt A i = some l) : (lnF A)[i]? = some l := by
 have := (lnAt_some h).1
 unfold lnF
 rw [List.getElem?_map, List.getElem?_range (by omega), Option.map_some, h]; rfl
abbrev lnR (l : Ln) : Cells.T c174 := ((l.from_ : Int), (l.to_ : Int), (l.next : Int), (l.kind : Int), ())
theorem eR6 : ElemOk Tryz.prog 199 174 4 32 := ElemOk.of (z := .agg #[.int .i64 0, .int .i64 0, .int .i64 0, .int .i64 0]) i199_ok i174_ok rfl rfl rfl (by decide)
theorem r6_one (l : Ln) : ∀ v ∈ flat c174 [lnR l], isOne v = true := by
 intro v hv
 rw [flat_one] at hv
 have h : v ∈ [_, _, _, _] := hv
 simp only [List.mem_cons, List.not_mem_nil, or_false] at h
 rcases h with rfl | rfl | rfl | rfl <;> rfl
theorem pushR {r : Sl} {L : List Ln} {l : Ln} {b N : Nat} {K : Sl → World → Prop} (hr : SlOwn w N r 174 4 (flat c174 (L.map lnR))) (hb : w.heap[b]? = some (.cells #[.int .i64 (l.from_ : Int), .int .i64 (l.to_ : Int), .int .i64 (l.next : Int), .int .i64 (l.kind : Int)] 174 (0, 0))) (hl : L.length < 2 ^ 40) (hN : N ≤ w.heap.size)
  (hK : ∀ r' w', SlOwn w' N r' 174 4 (flat c174 ((L ++ [l]).map lnR)) → r'.len = L.length + 1 → Upd r.blk w w' → K r' w') :
  rawT Tryz.prog (.one (.one .sl)) (Builtin.append_ #[199, 199] 199 #[.slice r.a r.len r.cap, .slice (some (at0 b)) 1 1]) K w := by
 have hrl := SlOwn.lenR (cs := c174) hr (by decide)
 rw [List.length_map] at hrl
 have hbox : SlX w ⟨some (at0 b), 1, 1⟩ 4 (flat c174 [lnR l]) := (SlIn.of_box hb (n := 1) (sz := 4) rfl).x
 refine append_rx eR6 eR6.ts_ (x := ⟨some (at0 b), 1, 1⟩) hr hbox (r6_one l) (by
  show (r.len + 1 + (r.len + 1) / 4 + 512) * 32 ≤ 2 ^ 48
  omega) hN fun r' w' o l' u k => hK r' w' ?_ (by rw [l', hrl]) u
 rw [List.map_append, flat_append]; exact o
set_option maxHeartbeats 1000000 in
theorem rall_call (hs : SlIn w s t 1 (iv A)) (hl : A.length < 2 ^ 39) {K : Sl × Int × Unit → World → Prop} (hK : ∀ s' w', SlOwn w' w.heap.size s' 174 4 (flat c174 ((lnF A).map lnR)) → Ext w w' → K (s', ((lnN A : Nat) : Int), ()) w') :
  callT Tryz.prog 154 #[.slice s.a s.len s.cap] (.tup [(.one .sl), (.one (.int .i64))]) K w := by
 refine F154_calls ?_
 unfold F154
 have hlen : A.length = s.len := by have := hs.len1; rwa [List.length_map] at this
 have hbr : brs A ≤ A.length := by rw [brs_nb]; exact nb_le _ _
 have hF := lnF_len A
 have grow : ∀ {i m : Nat} {l : Ln}, i = m → lnAt A i = some l → (lnF A).take (m + 1) = (lnF A).take m ++ [l] := fun {i m l} e h => by
  subst e; rw [List.take_add_one, lnF_at h]; rfl
 refine join_r (fun x W => ∃ f : Nat, SlOwn W w.heap.size x.1 174 4 (flat c174 (((lnF A).take (brs A)).map lnR)) ∧ x.2 = ((f : Int), ()) ∧ sk A (brs A) = some f ∧ Ext w W) ?_ ?_
 ·refine sloop_r (fun x W => ∃ i f : Nat, i ≤ A.length ∧ x.2 = ((f : Int), (i : Int), ()) ∧ sk A (nb A i) = some f ∧ f ≤ i ∧ (f < i → A[i]? = some 10 → A[i - 1]? ≠ some 13) ∧ SlOwn W w.heap.size x.1 174 4 (flat c174 (((lnF A).take (nb A i)).map lnR)) ∧ Ext w W) (fun x _ => ((A.length : Int) - x.2.2.1).toNat) ⟨0, 0, Nat.zero_le _, rfl, by rw [nb_zero, sk_zero], Nat.le_refl _, (fun h => by omega), by rw [nb_zero]; exact SlOwn.nil _ _ _ _, Ext.refl w⟩ ?_
  rintro ⟨r, _⟩ W ⟨i, f, hi, rfl, hsk, hfi, hmid, hr, eW⟩
  dsimp only at hr ⊢
  have hnb : nb A i ≤ brs A := by rw [brs_nb]; exact nb_mono A _ _ hi
  have tkl : ((lnF A).take (nb A i)).length < 2 ^ 40 := by rw [List.length_take]; omega
  refine sif_r (fun hc => ?_) (fun hc => ?_)
  ·simp only [decide_eq_true_eq] at hc
   have hil : i < A.length := by omega
   obtain ⟨v, hv⟩ : ∃ v, A[i]? = some v := ⟨_, List.getElem?_eq_getElem hil⟩
   have hsW := hs.ext eW
   have ew1 : IntKind.wrap .i64 ((i : Int) + 1) = ((i + 1 : Nat) : Int) := by rw [wrap64 (by omega) (by omega)]; omega
   have ew2 : IntKind.wrap .i64 ((i : Int) + 2) = ((i + 2 : Nat) : Int) := by rw [wrap64 (by omega) (by omega)]; omega
   have ewk : ∀ k : Nat, k ≤ A.length → IntKind.wrap .i64 ((k : Int) + 1) = ((k + 1 : Nat) : Int) := fun k hk => by rw [wrap64 (by omega) (by omega)]; omega
   rw [ew1, ew2]
   refine join_r (fun x W' => ∃ j f : Nat, i ≤ j ∧ j < A.length ∧ x.2 = ((f : Int), (j : Int), ()) ∧ sk A (nb A (j + 1)) = some f ∧ f ≤ j + 1 ∧ (f < j + 1 → A[j + 1]? = some 10 → A[j]? ≠ some 13) ∧ SlOwn W' w.heap.size x.1 174 4 (flat c174 (((lnF A).take (nb A (j + 1))).map lnR)) ∧ Ext w W') ?_ ?_
   ·refine rdA hsW hv fun q => sif_r (fun h10 => ?_) (fun h10 => ?_)
    ·simp only [beq_iff_eq] at h10
     subst h10
     obtain ⟨g1, g2⟩ := sk_brk ((isb_iff hv).2 (.inl rfl))
     have hln : lnAt A (nb A i) = some ⟨f, i, i + 1, 1⟩ := by
      unfold lnAt
      rw [hsk, g1]
      simp only [lnC, Nat.add_sub_cancel, hv, Option.some.injEq]
      rw [if_neg (by decide)]
      rw [if_neg (fun h => hmid (by omega) hv (by have := h.2; rwa [show i + 1 - 2 = i - 1 by omega] at this))]
     refine newO_r fun b9 w4 e4 n4 hb4 _ => pushR (l := ⟨f, i, i + 1, 1⟩) (hr.ext e4) n4 tkl (by have := eW.size; have := e4.size; omega) fun r' w5 o5 _ u5 => ?_
     rw [← grow rfl hln] at o5
     refine ⟨i, i + 1, Nat.le_refl _, hil, rfl, by rw [g2]; exact g1, Nat.le_refl _, (fun h => by omega), by rw [g2]; exact o5, (eW.trans e4).step u5 fun k hk => hr.blk_ge hk⟩
    ·simp only [beq_eq_false_iff_ne, ne_eq] at h10
     refine join_r (fun x W' => x = (decide (v = 13 ∧ A[i + 1]? = some 10), ()) ∧ W = W') ?_ ?_
     ·refine rdA hsW hv fun q => sif_r (fun h13 => ?_) (fun h13 => ⟨tupb ?_, rfl⟩)
      ·simp only [beq_iff_eq] at h13
       refine sif_r (fun hlt => ?_) (fun hlt => ⟨tupb ?_, rfl⟩)
       ·simp only [decide_eq_true_eq] at hlt
        obtain ⟨u, hu⟩ : ∃ u, A[i + 1]? = some u := ⟨_, List.getElem?_eq_getElem (by omega)⟩
        refine rdA hsW hu fun q => ⟨tupb ?_, rfl⟩
        rw [hu]
        simp [h13]
       ·simp only [decide_eq_false_iff_not] at hlt
        rw [List.getElem?_eq_none (by omega)]; simp
      ·simp only [beq_eq_false_iff_ne, ne_eq] at h13
       simp [h13]
     rintro _ _ ⟨rfl, rfl⟩
     refine sif_r (fun hcl => ?_) (fun hcl => ?_)
     ·simp only [decide_eq_true_eq] at hcl
      obtain ⟨rfl, hu⟩ := hcl
      have hil2 := (List.getElem?_eq_some_iff.1 hu).1
      have hno : isb A i = false := by
       cases hb : isb A i with
       | false => rfl
       | true =>
        rcases (isb_iff hv).1 hb with h | h
        ·exact absurd h h10
        ·exact absurd hu h.2
      have hn1 : nb A (i + 1) = nb A i := by rw [nb_succ, hno]; simp
      obtain ⟨g1, g2⟩ := sk_brk ((isb_iff hu).2 (.inl rfl))
      rw [hn1] at g1 g2
      have hln : lnAt A (nb A i) = some ⟨f, i, i + 2, 2⟩ := by
       unfold lnAt
       rw [hsk, g1]
       simp only [lnC, Option.some.injEq]
       rw [show i + 1 + 1 - 1 = i + 1 by omega, hu, if_neg (by decide), show i + 1 + 1 - 2 = i by omega, if_pos ⟨by omega, hv⟩]
      refine newO_r fun b9 w4 e4 n4 hb4 _ => pushR (l := ⟨f, i, i + 2, 2⟩) (hr.ext e4) n4 tkl (by have := eW.size; have := e4.size; omega) fun r' w5 o5 _ u5 => ?_
      rw [← grow rfl hln] at o5
      refine ⟨i + 1, i + 2, by omega, hil2, rfl, by rw [g2]; exact g1, Nat.le_refl _, (fun h => by omega), by rw [g2]; exact o5, (eW.trans e4).step u5 fun k hk => hr.blk_ge hk⟩
     ·simp only [decide_eq_false_iff_not] at hcl
      refine rdA hsW hv fun q => sif_r (fun h13 => ?_) (fun h13 => ?_)
      ·simp only [beq_iff_eq] at h13
       subst h13
       have hu : A[i + 1]? ≠ some 10 := fun h => hcl ⟨rfl, h⟩
       obtain ⟨g1, g2⟩ := sk_brk ((isb_iff hv).2 (.inr ⟨rfl, hu⟩))
       have hln : lnAt A (nb A i) = some ⟨f, i, i + 1, 3⟩ := by
        unfold lnAt
        rw [hsk, g1]
        simp only [lnC, Nat.add_sub_cancel, hv, Option.some.injEq]
        rw [if_pos trivial]
       refine newO_r fun b9 w4 e4 n4 hb4 _ => pushR (l := ⟨f, i, i + 1, 3⟩) (hr.ext e4) n4 tkl (by have := eW.size; have := e4.size; omega) fun r' w5 o5 _ u5 => ?_
       rw [← grow rfl hln] at o5
       refine ⟨i, i + 1, Nat.le_refl _, hil, rfl, by rw [g2]; exact g1, Nat.le_refl _, (fun h => by omega), by rw [g2]; exact o5, (eW.trans e4).step u5 fun k hk => hr.blk_ge hk⟩
      ·simp only [beq_eq_false_iff_ne, ne_eq] at h13
       have hno : isb A i = false := by
        cases hb : isb A i with
        | false => rfl
        | true =>
         rcases (isb_iff hv).1 hb with h | h
         ·exact absurd h h10
         ·exact absurd h.1 h13
       have hn1 : nb A (i + 1) = nb A i := by rw [nb_succ, hno]; simp
       refine ⟨i, f, Nat.le_refl _, hil, rfl, by rw [hn1]; exact hsk, by omega, (fun _ _ h => by rw [hv] at h; cases h; exact h13 rfl), by rw [hn1]; exact hr, eW⟩
   ·rintro ⟨r', _⟩ W' ⟨j, f', hij, hjl, rfl, g1, g2, g3, g4, g5⟩
    dsimp only at g4 ⊢
    rw [ewk j (by omega)]
    exact ⟨⟨j + 1, f', by omega, rfl, g1, g2, (by rw [Nat.add_sub_cancel]; exact g3), g4, g5⟩, by omega⟩
  ·simp only [decide_eq_false_iff_not] at hc
   obtain rfl : i = A.length := by omega
   rw [← brs_nb] at hsk hr
   exact ⟨f, hr, rfl, hsk, eW⟩
 ·rintro ⟨r, _⟩ W ⟨f, hr, rfl, hsk, eW⟩
  dsimp only at hr ⊢
  have hrl := SlOwn.lenR (cs := c174) hr (by decide)
  rw [List.length_map, List.length_take] at hrl
  have hfl := (sk_get hsk).2.1
  have hln : lnAt A (brs A) = some ⟨f, A.length, A.length, 0⟩ := by
   unfold lnAt
   rw [hsk, sk_none A _ (by omega)]
  rw [← hlen]
  refine newO_r fun b23 w4 e4 n4 hb4 _ => pushR (l := ⟨f, A.length, A.length, 0⟩) (hr.ext e4) n4 (by rw [List.length_take]; omega) (by have := eW.size; have := e4.size; omega) fun r' w5 o5 l5 u5 => ?_
  rw [← grow rfl hln, List.take_of_length_le (by omega)] at o5
  rw [List.length_take] at l5
  have x5 : Ext w w5 := (eW.trans e4).step u5 fun k hk => hr.blk_ge hk
  have hN : lnN A = if A.length = 0 ∨ f < A.length then brs A + 1 else brs A := by
   unfold lnN ended
   rw [hsk]
   by_cases h0 : A.length = 0 ∨ f < A.length
   ·rw [if_pos h0]
    have : (decide (0 < A.length) && (some f == some A.length)) = false := by
     rw [Bool.eq_false_iff]; intro h; simp at h; omega
    rw [this]; simp
   ·rw [if_neg h0]
    have : (decide (0 < A.length) && (some f == some A.length)) = true := by simp; omega
    rw [this]; simp
  refine join_r (fun x W' => x = (((lnN A : Nat) : Int), ()) ∧ w5 = W') ?_ ?_
  ·refine join_r (fun x W' => x = (decide (A.length = 0 ∨ f < A.length), ()) ∧ w5 = W') (sif_r (fun h0 => ⟨tupb ?_, rfl⟩) (fun h0 => ⟨tupb ?_, rfl⟩)) ?_
   ·simp only [beq_iff_eq, decide_eq_true_eq, true_iff] at *; omega
   ·simp only [beq_eq_false_iff_ne, ne_eq, decide_eq_true_eq] at *; omega
   rintro _ _ ⟨rfl, rfl⟩
   refine sif_r (fun h0 => ⟨?_, rfl⟩) (fun h0 => ⟨?_, rfl⟩)
   ·simp only [decide_eq_true_eq] at h0
    rw [hN, if_pos h0, l5]; congr 1; omega
   ·simp only [decide_eq_false_iff_not] at h0
    rw [hN, if_neg h0, ← hrl]; congr 1; omega
  rintro _ _ ⟨rfl, rfl⟩
  exact hK r' w5 o5 x5
end
section
variable {w w' : World} {A : List Int} {s : Sl} {t : TypeId}
theorem lnF_get {A : List Int} {i : Nat} (h : i ≤ brs A) : ∃ l, lnAt A i = some l ∧ (lnF A)[i]? = some l := by
 obtain ⟨l, hl⟩ := lnAt_ok h
 exact ⟨l, hl, lnF_at hl⟩
theorem r6of_call (hs : SlIn w s t 1 (iv A)) (hl : A.length < 2 ^ 39) {at_ : Nat} (hat : at_ ≤ A.length) {K : Int → World → Prop} (hK : ∀ w', Ext w w' → K ((nb A at_ : Nat) : Int) w') :
  callT Tryz.prog 138 #[.slice s.a s.len s.cap, .int .i64 (at_ : Int)] (.one (.one (.int .i64))) K w := by
 refine F138_calls ?_
 unfold F138
 have hbr : brs A ≤ A.length := by rw [brs_nb]; exact nb_le _ _
 have hn : nb A at_ ≤ brs A := by rw [brs_nb]; exact nb_mono A _ _ hat
 refine rall_call hs hl fun r w1 o1 e1 => ?_
 dsimp only
 have hrl := SlOwn.lenR (cs := c174) o1 (by decide)
 rw [List.length_map, lnF_len] at hrl
 refine join_r (fun _ W => w1 = W ∧ nb A at_ = brs A) ?_ ?_
 ·refine sloop_r (fun x W => ∃ i : Nat, x = ((i : Int), ()) ∧ w1 = W ∧ i ≤ brs A + 1 ∧ (i ≤ nb A at_ ∨ (at_ = A.length ∧ nb A at_ = brs A))) (fun x _ => ((brs A + 1 : Nat) - x.1).toNat) ⟨0, rfl, rfl, by omega, .inl (Nat.zero_le _)⟩ ?_
  rintro _ _ ⟨i, rfl, rfl, hi, hin⟩
  dsimp only
  refine sif_r (fun hc => ?_) (fun hc => ?_)
  ·simp only [decide_eq_true_eq] at hc
   obtain ⟨l, h1, h2⟩ := lnF_get (A := A) (i := i) (by omega)
   have ok := ln_ok h1
   have ew : IntKind.wrap .i64 ((i : Int) + 1) = ((i + 1 : Nat) : Int) := by rw [wrap64 (by omega) (by omega)]; omega
   rw [ew]
   refine ix_ldf (c := .int .i64) (cs := c174) (xs := (lnF A).map lnR) (j := 2) o1.in (by omega) (x := lnR l) (y := (l.next : Int)) (by rw [Int.toNat_natCast, List.getElem?_map, h2]; rfl) rfl fun q => ?_
   refine sif_r (fun hlt => ?_) (fun hlt => ?_)
   ·simp only [decide_eq_true_eq] at hlt
    have hnl := ok.nl
    have hle : i ≤ nb A at_ := by rcases hin with h | h <;> omega
    have : nb A at_ ≤ i := by
     by_cases hq : l.from_ ≤ at_
     ·have := ok.nbf at_ hq (by omega); omega
     ·have := nb_mono A at_ l.from_ (by omega)
      rw [ok.nbF] at this; exact this
    rw [show i = nb A at_ by omega]
    exact hK w1 e1
   ·simp only [decide_eq_false_iff_not] at hlt
    refine ⟨⟨i + 1, rfl, rfl, by omega, ?_⟩, by omega⟩
    rcases Nat.lt_or_ge i (nb A at_) with h | h
    ·exact .inl h
    ·right
     cases hx : sk A (i + 1) with
     | none =>
      obtain ⟨_, _, h3⟩ := ok.tail hx
      have : nb A A.length = nb A at_ := by rw [show at_ = A.length by omega]
      exact ⟨by omega, by rw [brs_nb]; exact this.symm⟩
     | some x =>
      obtain ⟨g1, _, _, g4⟩ := ok.brk x hx
      have := nb_mono A x at_ (by omega)
      rcases hin with q | q
      ·omega
      ·exact q
  ·simp only [decide_eq_false_iff_not] at hc
   refine ⟨rfl, ?_⟩
   rcases hin with h | h
   ·omega
   ·exact h.2
 ·rintro _ _ ⟨rfl, hb⟩
  have ew : IntKind.wrap .i64 ((r.len : Int) - 1) = ((nb A at_ : Nat) : Int) := by rw [wrap64 (by omega) (by omega)]; omega
  rw [ew]
  exact hK w1 e1
theorem r6count_call (hs : SlIn w s t 1 (iv A)) (hl : A.length < 2 ^ 39) {K : Int → World → Prop} (hK : ∀ w', Ext w w' → K ((lnN A : Nat) : Int) w') :
  callT Tryz.prog 139 #[.slice s.a s.len s.cap] (.one (.one (.int .i64))) K w := by
 refine F139_calls ?_
 unfold F139
 exact rall_call hs hl fun r w1 o1 e1 => hK w1 e1
end
end Go.Proofs.YtabcpghhfeplaaaGreat
namespace Go.Proofs.YtabcpghhfeplaaaGreat
open Trx Gly Clu Lns Obx
namespace Obx
structure Rw where
 b : Nat
 e : Nat
 s : Nat
def addR (R : List Rw) (j s : Nat) : List Rw := match R.getLast? with
 | some r => if r.s = s then R.dropLast ++ [⟨r.b, j + 1, s⟩] else R ++ [⟨j, j + 1, s⟩]
 | none => [⟨j, j + 1, s⟩]
def rowsTo (S : List Nat) : Nat → List Rw
 | 0 => []
 | j + 1 => addR (rowsTo S j) j (S.getD j 0)
structure RowsOk (S : List Nat) (i : Nat) (R : List Rw) : Prop where
 row : ∀ (m : Nat) r, R[m]? = some r → r.b < r.e ∧ r.e ≤ i ∧ ∀ j, r.b ≤ j → j < r.e → S.getD j 0 = r.s
 head : ∀ r, R[0]? = some r → r.b = 0
 next : ∀ (m : Nat) r q, R[m]? = some r → R[m + 1]? = some q → q.b = r.e ∧ q.s ≠ r.s
 last : ∀ r, R.getLast? = some r → r.e = i
 none_ : R = [] → i = 0
theorem rowsTo_ok (S : List Nat) : ∀ i, RowsOk S i (rowsTo S i)
 | 0 => ⟨fun m r h => by simp [rowsTo] at h, fun r h => by simp [rowsTo] at h, fun m r q h => by simp [rowsTo] at h, fun r h => by simp [rowsTo] at h, fun _ => rfl⟩
 | j + 1 => by
  have ih := rowsTo_ok S j
  rw [rowsTo]
  generalize rowsTo S j = R at *
  obtain ⟨s, hs⟩ : ∃ s, S.getD j 0 = s := ⟨_, rfl⟩
  rw [hs]
  unfold addR
  rcases List.eq_nil_or_concat R with rfl | ⟨Q, r, rfl⟩
  ·have hj := ih.none_ rfl
   subst hj
   refine ⟨fun m r h => ?_, fun r h => ?_, fun m r q h h' => ?_, fun r h => ?_, fun h => by simp at h⟩
   ·cases m with
    | zero => simp at h; subst h; exact ⟨by simp, by simp, fun k h1 h2 => by simp at h1 h2; subst h2; exact hs⟩
    | succ m => simp at h
   ·simp at h; subst h; rfl
   ·simp at h'
   ·simp at h; subst h; rfl
  ·rw [List.concat_eq_append] at ih ⊢
   simp only [List.getLast?_concat, List.dropLast_concat]
   have hr : (Q ++ [r])[Q.length]? = some r := by simp
   have hre := ih.last r (by simp)
   obtain ⟨g1, g2, g3⟩ := ih.row Q.length r hr
   have old : ∀ (m : Nat) x, m < Q.length → Q[m]? = some x → (Q ++ [r])[m]? = some x := fun m x h1 h2 => by rw [List.getElem?_append_left h1]; exact h2
   split
   ·rename_i hsr
    refine ⟨fun m x h => ?_, fun x h => ?_, fun m x q h h' => ?_, fun x h => ?_, fun h => by simp at h⟩
    ·by_cases hm : m < Q.length
     ·rw [List.getElem?_append_left hm] at h
      obtain ⟨a1, a2, a3⟩ := ih.row m x (old m x hm h)
      exact ⟨a1, by omega, a3⟩
     ·rw [List.getElem?_append_right (by omega)] at h
      have hm0 : m - Q.length = 0 := by
       rcases Nat.eq_zero_or_pos (m - Q.length) with q | q
       ·exact q
       ·rw [List.getElem?_eq_none (by simp; omega)] at h; cases h
      rw [hm0] at h; simp at h; subst h
      refine ⟨by dsimp only; omega, Nat.le_refl _, fun k h1 h2 => ?_⟩
      dsimp only at h1 h2 ⊢
      by_cases hk : k = j
      ·rw [hk]; exact hs
      ·rw [g3 k h1 (by omega)]; exact hsr
    ·cases Q with
     | nil => simp at h; subst h; exact ih.head r (by simp)
     | cons y Q => exact ih.head x (by simpa using h)
    ·by_cases hm : m + 1 < Q.length
     ·rw [List.getElem?_append_left (by omega)] at h
      rw [List.getElem?_append_left hm] at h'
      exact ih.next m x q (old m x (by omega) h) (old (m + 1) q hm h')
     ·rw [List.getElem?_append_right (by omega)] at h'
      have hm0 : m + 1 - Q.length = 0 := by
       rcases Nat.eq_zero_or_pos (m + 1 - Q.length) with q | q
       ·exact q
       ·rw [List.getElem?_eq_none (by simp; omega)] at h'; cases h'
      rw [hm0] at h'; simp at h'; subst h'
      rw [List.getElem?_append_left (by omega)] at h
      have := ih.next m x r (old m x (by omega) h) (by rw [show m + 1 = Q.length by omega]; exact hr)
      exact ⟨this.1, by dsimp only; rw [← hsr]; exact this.2⟩
    ·simp at h; subst h; rfl
   ·rename_i hsr
    refine ⟨fun m x h => ?_, fun x h => ?_, fun m x q h h' => ?_, fun x h => ?_, fun h => by simp at h⟩
    ·by_cases hm : m < (Q ++ [r]).length
     ·rw [List.getElem?_append_left hm] at h
      obtain ⟨a1, a2, a3⟩ := ih.row m x h
      exact ⟨a1, by omega, a3⟩
     ·rw [List.getElem?_append_right (by omega)] at h
      have hm0 : m - (Q ++ [r]).length = 0 := by
       rcases Nat.eq_zero_or_pos (m - (Q ++ [r]).length) with q | q
       ·exact q
       ·rw [List.getElem?_eq_none (by simp at q ⊢; omega)] at h; cases h
      rw [hm0] at h; simp at h; subst h
      refine ⟨by dsimp only; omega, Nat.le_refl _, fun k h1 h2 => ?_⟩
      dsimp only at h1 h2 ⊢
      rw [show k = j by omega]; exact hs
    ·rw [List.getElem?_append_left (by simp)] at h
     exact ih.head x h
    ·by_cases hm : m + 1 < (Q ++ [r]).length
     ·rw [List.getElem?_append_left (by omega)] at h
      rw [List.getElem?_append_left hm] at h'
      exact ih.next m x q h h'
     ·rw [List.getElem?_append_right (by omega)] at h'
      have hm0 : m + 1 - (Q ++ [r]).length = 0 := by
       rcases Nat.eq_zero_or_pos (m + 1 - (Q ++ [r]).length) with q | q
       ·exact q
       ·rw [List.getElem?_eq_none (by simp at q ⊢; omega)] at h'; cases h'
      rw [hm0] at h'; simp at h'; subst h'
      have hmQ : m = Q.length := by simp at hm hm0; omega
      subst hmQ
      rw [List.getElem?_append_left (by simp), hr] at h
      cases h
      exact ⟨hre.symm, fun q => hsr q.symm⟩
    ·simp at h; subst h; rfl
end Obx
namespace Obx
variable {S : List Nat} {R : List Rw}
theorem last_get {R : List Rw} {m : Nat} {r : Rw} (h : R[m]? = some r) (hm : R.length ≤ m + 1) : R.getLast? = some r := by
 have hl := (List.getElem?_eq_some_iff.1 h).1
 rw [List.getLast?_eq_getElem?, show R.length - 1 = m by omega]; exact h
theorem rows_run (h : RowsOk S S.length R) {m : Nat} {r : Rw} (hr : R[m]? = some r) {j : Nat} (h1 : r.b ≤ j) (h2 : j < r.e) : beginP S j = r.b ∧ endP S j = r.e := by
 obtain ⟨g1, g2, g3⟩ := h.row m r hr
 constructor
 ·refine begin_found h1 (fun k q1 q2 => by rw [g3 k q1 (by omega), g3 j h1 h2]) (fun h0 => ?_)
  cases m with
  | zero => have := h.head r hr; omega
  | succ m =>
   obtain ⟨q, hq⟩ : ∃ q, R[m]? = some q := ⟨_, List.getElem?_eq_getElem (by have := (List.getElem?_eq_some_iff.1 hr).1; omega)⟩
   obtain ⟨e1, e2⟩ := h.next m q r hq hr
   obtain ⟨q1, _, q3⟩ := h.row m q hq
   rw [g3 r.b (Nat.le_refl _) g1, q3 (r.b - 1) (by omega) (by omega)]
   exact fun hc => e2 hc.symm
 ·refine endP_eq h2 g2 (fun k q1 q2 => by rw [g3 k (by omega) q2, g3 j h1 h2]) (fun h0 => ?_)
  by_cases hm : m + 1 < R.length
  ·obtain ⟨q, hq⟩ : ∃ q, R[m + 1]? = some q := ⟨_, List.getElem?_eq_getElem hm⟩
   obtain ⟨e1, e2⟩ := h.next m r q hr hq
   obtain ⟨q1, _, q3⟩ := h.row (m + 1) q hq
   rw [g3 j h1 h2, q3 r.e (by omega) (by omega)]
   exact e2
  ·have := h.last r (last_get hr (by omega)); omega
theorem inner_rows (h : RowsOk S S.length R) : ∀ (k m : Nat) (r : Rw) (j : Nat), R[m]? = some r → r.b ≤ j → j < r.e → innerGo S j (k + 1) = (R[m + k]?).map (·.e)
 | 0, m, r, j, hr, h1, h2 => by
  have := (h.row m r hr).2.1
  rw [innerGo, if_pos (by omega), (rows_run h hr h1 h2).2, Nat.add_zero, hr]; rfl
 | k + 1, m, r, j, hr, h1, h2 => by
  have g2 := (h.row m r hr).2.1
  rw [innerGo, if_pos (by omega), (rows_run h hr h1 h2).2]
  by_cases hm : m + 1 < R.length
  ·obtain ⟨q, hq⟩ : ∃ q, R[m + 1]? = some q := ⟨_, List.getElem?_eq_getElem hm⟩
   have e1 := (h.next m r q hr hq).1
   have q1 := (h.row (m + 1) q hq).1
   rw [inner_rows h k (m + 1) q r.e hq (by omega) (by omega), show m + 1 + k = m + (k + 1) by omega]
  ·have := h.last r (last_get hr (by omega))
   rw [List.getElem?_eq_none (by omega), this]
   cases k with
   | zero => rw [innerGo, if_neg (by omega)]; rfl
   | succ k => rw [innerGo, if_neg (by omega)]; rfl
def solidL : List Rw → Nat → Nat → Option Nat
 | [], _, _ => none
 | r :: L, i, k => if (if r.s ≠ 0 then k - 1 else k) = 0 then some i else solidL L (i + 1) (if r.s ≠ 0 then k - 1 else k)
theorem drop_at {α : Type} {R : List α} {m : Nat} {r : α} (h : R[m]? = some r) : R.drop m = r :: R.drop (m + 1) := by
 have hl := (List.getElem?_eq_some_iff.1 h).1
 rw [List.drop_eq_getElem_cons hl]
 rw [List.getElem?_eq_getElem hl] at h
 cases h; rfl
theorem over_plain {r : Rw} {m j : Nat} (h : RowsOk S S.length R) (hr : R[m]? = some r) (h1 : r.b ≤ j) (h2 : j < r.e) : overP S j = if r.s = 0 then r.e else j := by
 obtain ⟨_, g2, g3⟩ := h.row m r hr
 unfold overP
 rw [g3 j h1 h2, (rows_run h hr h1 h2).2]
 by_cases hs : r.s = 0
 ·rw [if_pos ⟨by omega, hs⟩, if_pos hs]
 ·rw [if_neg (fun q => hs q.2), if_neg hs]
theorem around_end (k : Nat) : aroundGo S S.length k = none := by
 have ho : overP S S.length = S.length := by unfold overP; rw [if_neg (by omega)]
 match k with
 | 0 => rfl
 | 1 => rw [aroundGo, ho, if_neg (Nat.lt_irrefl _)]
 | k + 2 => rw [aroundGo, ho, if_neg (Nat.lt_irrefl _)]
theorem solid_plain {r : Rw} {L : List Rw} {i k : Nat} (hs : r.s = 0) : solidL (r :: L) i (k + 1) = solidL L (i + 1) (k + 1) := by
 rw [solidL]; simp [hs]
theorem solid_hit {r : Rw} {L : List Rw} {i : Nat} (hs : r.s ≠ 0) : solidL (r :: L) i 1 = some i := by
 rw [solidL]; simp [hs]
theorem solid_more {r : Rw} {L : List Rw} {i k : Nat} (hs : r.s ≠ 0) : solidL (r :: L) i (k + 2) = solidL L (i + 1) (k + 1) := by
 rw [solidL]; simp [hs]
theorem around_rows (h : RowsOk S S.length R) : ∀ (k m : Nat) (r : Rw) (j : Nat), R[m]? = some r → r.b ≤ j → j < r.e → aroundGo S j (k + 1) = (solidL (R.drop m) m (k + 1)).bind fun i => (R[i]?).map (·.e) := by
 intro k
 induction k with
 | zero =>
  intro m r j hr h1 h2
  have g2 := (h.row m r hr).2.1
  rw [aroundGo, over_plain h hr h1 h2, drop_at hr]
  by_cases hs : r.s = 0
  ·rw [if_pos hs, solid_plain hs]
   by_cases hm : m + 1 < R.length
   ·obtain ⟨q, hq⟩ : ∃ q, R[m + 1]? = some q := ⟨_, List.getElem?_eq_getElem hm⟩
    obtain ⟨e1, e2⟩ := h.next m r q hr hq
    obtain ⟨q1, q2, _⟩ := h.row (m + 1) q hq
    have hqs : q.s ≠ 0 := fun hc => e2 (by rw [hc, hs])
    rw [if_pos (by omega), (rows_run h hq (j := r.e) (by omega) (by omega)).2, drop_at hq, solid_hit hqs]
    simp [hq]
   ·have := h.last r (last_get hr (by omega))
    rw [if_neg (by omega), List.drop_eq_nil_of_le (by omega)]; rfl
  ·rw [if_neg hs, if_pos (by omega), (rows_run h hr h1 h2).2, solid_hit hs]
   simp [hr]
 | succ k ih =>
  intro m r j hr h1 h2
  have g2 := (h.row m r hr).2.1
  have step : ∀ (n : Nat) (q : Rw), R[n]? = some q → aroundGo S q.e (k + 1) = (solidL (R.drop (n + 1)) (n + 1) (k + 1)).bind fun i => (R[i]?).map (·.e) := by
   intro n q hq
   by_cases hn : n + 1 < R.length
   ·obtain ⟨x, hx⟩ : ∃ q, R[n + 1]? = some q := ⟨_, List.getElem?_eq_getElem hn⟩
    have e1 := (h.next n q x hq hx).1
    have x1 := (h.row (n + 1) x hx).1
    exact ih (n + 1) x q.e hx (by omega) (by omega)
   ·have := h.last q (last_get hq (by omega))
    rw [this, around_end, List.drop_eq_nil_of_le (by omega)]; rfl
  rw [aroundGo, over_plain h hr h1 h2, drop_at hr]
  by_cases hs : r.s = 0
  ·rw [if_pos hs, solid_plain hs]
   by_cases hm : m + 1 < R.length
   ·obtain ⟨q, hq⟩ : ∃ q, R[m + 1]? = some q := ⟨_, List.getElem?_eq_getElem hm⟩
    obtain ⟨e1, e2⟩ := h.next m r q hr hq
    obtain ⟨q1, q2, _⟩ := h.row (m + 1) q hq
    have hqs : q.s ≠ 0 := fun hc => e2 (by rw [hc, hs])
    rw [if_pos (by omega), (rows_run h hq (j := r.e) (by omega) (by omega)).2, drop_at hq, solid_more hqs]
    exact step (m + 1) q hq
   ·have := h.last r (last_get hr (by omega))
    rw [if_neg (by omega), List.drop_eq_nil_of_le (by omega)]; rfl
  ·rw [if_neg hs, if_pos (by omega), solid_more hs, (rows_run h hr h1 h2).2]
   exact step m r hr
end Obx
namespace Obx
variable {S : List Nat} {R : List Rw}
def spanR (R : List Rw) (a z : Nat) : Option (Nat × Nat) := match R[a]?, R[z]? with
 | some x, some y => some (x.b, y.e)
 | _, _ => none
theorem spanR_some {R : List Rw} {a z : Nat} {x y : Rw} (h1 : R[a]? = some x) (h2 : R[z]? = some y) : spanR R a z = some (x.b, y.e) := by unfold spanR; rw [h1, h2]
theorem inner_span (h : RowsOk S S.length R) {m : Nat} {r : Rw} {i : Nat} (hr : R[m]? = some r) (h1 : r.b ≤ i) (h2 : i < r.e) (k : Nat) : innerP S i (k + 1) = spanR R m (m + k) := by
 unfold innerP spanR
 rw [inner_rows h k m r i hr h1 h2, hr, (rows_run h hr h1 h2).1]
 cases R[m + k]? <;> rfl
def sortR (R : List Rw) (m : Nat) : Option Nat := (R[m]?).map (·.s)
def aroundR (R : List Rw) (m k : Nat) : Option (Nat × Nat) := (solidL (R.drop m) m k).map fun l =>
 if sortR R m = some 0 then (m, l) else if sortR R (l + 1) = some 0 then (m, l + 1) else if 0 < m ∧ sortR R (m - 1) = some 0 then (m - 1, l) else (m, l)
theorem solidL_lt : ∀ {L : List Rw} {i k l : Nat}, solidL L i k = some l → i ≤ l ∧ l < i + L.length
 | [], _, _, _, h => by simp [solidL] at h
 | r :: L, i, k, l, h => by
  rw [solidL] at h
  rw [List.length_cons]
  generalize (if r.s ≠ 0 then k - 1 else k) = q at h
  by_cases hq : q = 0
  ·rw [if_pos hq] at h; cases h; omega
  ·rw [if_neg hq] at h
   have := solidL_lt h
   omega
theorem around_span (h : RowsOk S S.length R) {m : Nat} {r : Rw} {i : Nat} (hr : R[m]? = some r) (h1 : r.b ≤ i) (h2 : i < r.e) (k : Nat) : aroundP S i (k + 1) = (aroundR R m (k + 1)).bind fun x => spanR R x.1 x.2 := by
 obtain ⟨g1, g2, g3⟩ := h.row m r hr
 unfold aroundP aroundR
 rw [around_rows h k m r i hr h1 h2, (rows_run h hr h1 h2).1, g3 i h1 h2]
 cases hs : solidL (R.drop m) m (k + 1) with
 | none => rfl
 | some l =>
  have hb := solidL_lt hs
  rw [List.length_drop] at hb
  have hml := (List.getElem?_eq_some_iff.1 hr).1
  obtain ⟨x, hx⟩ : ∃ x, R[l]? = some x := ⟨_, List.getElem?_eq_getElem (by omega)⟩
  obtain ⟨x1, x2, x3⟩ := h.row l x hx
  simp only [Option.bind_some, hx, Option.map_some]
  have e0 : sortR R m = some r.s := by unfold sortR; rw [hr]; rfl
  rw [e0]
  by_cases h0 : r.s = 0
  ·rw [if_pos h0, if_pos (by rw [h0]), spanR_some hr hx]
  ·rw [if_neg h0, if_neg (fun q => h0 (Option.some.inj q))]
   by_cases hl : l + 1 < R.length
   ·obtain ⟨y, hy⟩ : ∃ y, R[l + 1]? = some y := ⟨_, List.getElem?_eq_getElem hl⟩
    obtain ⟨y1, y2, y3⟩ := h.row (l + 1) y hy
    have hn := (h.next l x y hx hy).1
    have e1 : sortR R (l + 1) = some y.s := by unfold sortR; rw [hy]; rfl
    have e2 : S.getD x.e 0 = y.s := y3 x.e (by omega) (by omega)
    rw [e1, e2]
    by_cases hy0 : y.s = 0
    ·rw [if_pos ⟨by omega, hy0⟩, if_pos (by rw [hy0]), (rows_run h hy (j := x.e) (by omega) (by omega)).2, spanR_some hr hy]
    ·rw [if_neg (fun q => hy0 q.2), if_neg (fun q => hy0 (Option.some.inj q))]
     exact back h hr hx
   ·have hxe := h.last x (last_get hx (by omega))
    have e1 : sortR R (l + 1) = none := by unfold sortR; rw [List.getElem?_eq_none (by omega)]; rfl
    rw [e1, if_neg (fun q => absurd q.1 (by omega)), if_neg (show ¬ (none : Option Nat) = some 0 from fun q => by cases q)]
    exact back h hr hx
where
  back {l : Nat} {x : Rw} (h : RowsOk S S.length R) {m : Nat} {r : Rw} (hr : R[m]? = some r) (hx : R[l]? = some x) : some (if 0 < r.b ∧ S.getD (r.b - 1) 0 = 0 then (beginP S (r.b - 1), x.e) else (r.b, x.e)) = spanR R (if 0 < m ∧ sortR R (m - 1) = some 0 then (m - 1, l) else (m, l)).1 (if 0 < m ∧ sortR R (m - 1) = some 0 then (m - 1, l) else (m, l)).2 := by
    cases m with
    | zero =>
      have := h.head r hr
      rw [if_neg (by omega), if_neg (by omega)]
      exact (spanR_some hr hx).symm
    | succ m =>
      obtain ⟨q, hq⟩ : ∃ q, R[m]? = some q := ⟨_, List.getElem?_eq_getElem (by have := (List.getElem?_eq_some_iff.1 hr).1; omega)⟩
      obtain ⟨e1, e2⟩ := h.next m q r hq hr
      obtain ⟨q1, q2, q3⟩ := h.row m q hq
      have s1 : sortR R (m + 1 - 1) = some q.s := by unfold sortR; rw [Nat.add_sub_cancel, hq]; rfl
      rw [s1, q3 (r.b - 1) (by omega) (by omega)]
      by_cases hs : q.s = 0
      · rw [if_pos ⟨by omega, hs⟩, if_pos ⟨by omega, by rw [hs]⟩, (rows_run h hq (j := r.b - 1) (by omega) (by omega)).1]
        exact (spanR_some hq hx).symm
      · rw [if_neg (fun z => hs z.2), if_neg (fun z => hs (Option.some.inj z.2))]
        exact (spanR_some hr hx).symm
end Obx
end Go.Proofs.YtabcpghhfeplaaaGreat
namespace Go.Proofs.YtabcpghhfeplaaaGreat
open Go Go.Vx Gly Clu Rgl Lns Trx Obx
section
variable {w w' : World} {s : Sl} {t : TypeId} {R : List Rw} {F G : Rw → Nat}
theorem rsort_call {a : Int} {big : Bool} {K : Int → World → Prop} (h : K (((if big ∧ wrd a ≠ 0 then 2 else wrd a : Nat)) : Int) w) : callT Tryz.prog 149 #[.int .i64 a, .bool big] (.one (.one (.int .i64))) K w := by
 refine F149_calls ?_
 unfold F149
 refine rword_call ?_
 refine join_r (fun x W => x = (decide (big = true ∧ wrd a ≠ 0), ()) ∧ w = W) (sif_r (fun h1 => ⟨tupb ?_, rfl⟩) (fun h1 => ⟨tupb ?_, rfl⟩)) ?_
 ·simp only [bne_iff_ne, ne_eq, decide_eq_true_eq, h1, true_and]; omega
 ·simp [h1]
 rintro _ _ ⟨rfl, rfl⟩
 refine sif_r (fun h1 => ?_) (fun h1 => ?_)
 ·simp only [decide_eq_true_eq] at h1
  rw [if_pos h1] at h; exact h
 ·simp only [decide_eq_false_iff_not] at h1
  rw [if_neg h1] at h; exact h
theorem rtimes_call {c : Int} (hc : 0 ≤ c) {K : Int → World → Prop} (h : K ((times c : Nat) : Int) w) : callT Tryz.prog 130 #[.int .i64 c] (.one (.one (.int .i64))) K w := by
 refine F130_calls ?_
 unfold F130
 refine sif_r (fun h1 => ?_) (fun h1 => ?_)
 ·simp only [beq_iff_eq] at h1
  have : ((times c : Nat) : Int) = 1 := by unfold times; omega
  rw [this] at h; exact h
 ·simp only [beq_eq_false_iff_ne, ne_eq] at h1
  have : ((times c : Nat) : Int) = c := by unfold times; omega
  rw [this] at h; exact h
abbrev rwT (F G : Rw → Nat) (r : Rw) : Cells.T c180 := ((F r : Int), (G r : Int), (r.s : Int), ())
abbrev RwIn (w : World) (s : Sl) (t : TypeId) (F G : Rw → Nat) (R : List Rw) : Prop := SlIn w s t 3 (flat c180 (R.map (rwT F G)))
theorem RwIn.len (h : RwIn w s t F G R) : R.length = s.len := by have := SlIn.lenR (cs := c180) h (by decide); rwa [List.length_map] at this
theorem rinner_call {m : Nat} {k : Int} (hs : RwIn w s t F G R) (hl : R.length < 2 ^ 40) (hm : m < R.length) (hk : 1 ≤ k ∧ k < 2 ^ 63) {K : Int → World → Prop} (h : K (if k ≤ (R.length : Int) - m then (m : Int) + k - 1 else -1) w) :
  callT Tryz.prog 129 #[.slice s.a s.len s.cap, .int .i64 (m : Int), .int .i64 k] (.one (.one (.int .i64))) K w := by
 refine F129_calls ?_
 unfold F129
 have hlen := hs.len
 rw [← hlen, wrap64 (a := (R.length : Int) - (m : Int)) (by omega) (by omega)]
 refine sif_r (fun h1 => ?_) (fun h1 => ?_)
 ·simp only [decide_eq_true_eq, gt_iff_lt] at h1
  rw [if_neg (by omega)] at h; exact h
 ·simp only [decide_eq_false_iff_not, gt_iff_lt] at h1
  rw [if_pos (by omega)] at h
  rw [wrap64 (a := (m : Int) + k) (by omega) (by omega), wrap64 (by omega) (by omega)]
  exact h
theorem rwhich_call {at_ : Int} (hs : RwIn w s t F G R) (hl : R.length < 2 ^ 40) (h0 : 0 < R.length) {K : Int → World → Prop} (h : ∀ m r, R[m]? = some r → (∀ (j : Nat) q, j < m → R[j]? = some q → (G q : Int) ≤ at_) → (at_ < (G r : Int) ∨ m + 1 = R.length) → K (m : Int) w) :
  callT Tryz.prog 128 #[.slice s.a s.len s.cap, .int .i64 at_] (.one (.one (.int .i64))) K w := by
 refine F128_calls ?_
 unfold F128
 have hlen := hs.len
 refine join_r (fun _ W => w = W ∧ ∀ (j : Nat) q, j < R.length → R[j]? = some q → (G q : Int) ≤ at_) ?_ ?_
 ·refine sloop_r (fun x W => ∃ i : Nat, x = ((i : Int), ()) ∧ w = W ∧ i ≤ R.length ∧ ∀ (j : Nat) q, j < i → R[j]? = some q → (G q : Int) ≤ at_) (fun x _ => ((R.length : Int) - x.1).toNat) ⟨0, rfl, rfl, Nat.zero_le _, fun j q hj => by omega⟩ ?_
  rintro _ _ ⟨i, rfl, rfl, hi, hlo⟩
  dsimp only
  refine sif_r (fun hc => ?_) (fun hc => ?_)
  ·simp only [decide_eq_true_eq] at hc
   obtain ⟨r, hr⟩ : ∃ r, R[i]? = some r := ⟨_, List.getElem?_eq_getElem (by omega)⟩
   have ew : IntKind.wrap .i64 ((i : Int) + 1) = ((i + 1 : Nat) : Int) := by rw [wrap64 (by omega) (by omega)]; omega
   rw [ew]
   refine ix_ldf (c := .int .i64) (cs := c180) (xs := R.map (rwT F G)) (j := 1) hs (by omega) (x := rwT F G r) (y := (G r : Int)) (by rw [Int.toNat_natCast, List.getElem?_map, hr]; rfl) rfl fun q => ?_
   refine sif_r (fun hlt => ?_) (fun hlt => ?_)
   ·simp only [decide_eq_true_eq] at hlt
    exact h i r hr hlo (.inl hlt)
   ·simp only [decide_eq_false_iff_not] at hlt
    refine ⟨⟨i + 1, rfl, rfl, by omega, fun j q hj hq => ?_⟩, by omega⟩
    by_cases hji : j = i
    ·subst hji; rw [hr] at hq; cases hq; omega
    ·exact hlo j q (by omega) hq
  ·simp only [decide_eq_false_iff_not] at hc
   exact ⟨rfl, fun j q hj hq => hlo j q (by omega) hq⟩
 ·rintro _ _ ⟨rfl, hall⟩
  obtain ⟨r, hr⟩ : ∃ r, R[R.length - 1]? = some r := ⟨_, List.getElem?_eq_getElem (by omega)⟩
  have ew : IntKind.wrap .i64 ((s.len : Int) - 1) = ((R.length - 1 : Nat) : Int) := by rw [wrap64 (by omega) (by omega)]; omega
  rw [ew]
  exact h (R.length - 1) r hr (fun j q hj hq => hall j q (by omega) hq) (.inr (by omega))
end
namespace Obx
theorem solidL_few : ∀ {L : List Rw} {i k l : Nat}, 1 ≤ k → solidL L i k = some l → k ≤ L.length
 | [], _, _, _, _, h => by simp [solidL] at h
 | r :: L, i, k, l, hk, h => by
  rw [solidL] at h
  rw [List.length_cons]
  obtain ⟨q, hq⟩ : ∃ q, q = (if r.s ≠ 0 then k - 1 else k) := ⟨_, rfl⟩
  have hqk : k - 1 ≤ q := by rw [hq]; split <;> omega
  rw [← hq] at h
  by_cases h0 : q = 0
  ·omega
  ·rw [if_neg h0] at h
   have := solidL_few (by omega) h
   omega
end Obx
section
variable {w w' : World} {s : Sl} {t : TypeId} {R : List Rw} {F G : Rw → Nat}
theorem rd_sort (hs : RwIn w s t F G R) {i : Nat} {r : Rw} (hr : R[i]? = some r) {K : Addr → Int → World → Prop} (hK : ∀ q, K q (r.s : Int) w) :
  ix s.a s.len (i : Int) (fun q => ld (.int .i64) ((q.add (scaled (Int.toNat (i : Int)) 3)).add 2) (K q)) w :=
 ix_ldf (c := .int .i64) (cs := c180) (xs := R.map (rwT F G)) (j := 2) hs (by omega) (x := rwT F G r) (y := (r.s : Int)) (by rw [Int.toNat_natCast, List.getElem?_map, hr]; rfl) rfl hK
theorem rsolid_call {m k : Nat} (hs : RwIn w s t F G R) (hl : R.length < 2 ^ 40) (hm : m ≤ R.length) (hk : 1 ≤ k ∧ k < 2 ^ 63) {K : Int → World → Prop} (h : K (match solidL (R.drop m) m k with | some l => (l : Int) | none => -1) w) :
  callT Tryz.prog 151 #[.slice s.a s.len s.cap, .int .i64 (m : Int), .int .i64 (k : Int)] (.one (.one (.int .i64))) K w := by
 refine F151_calls ?_
 unfold F151
 have hlen := hs.len
 refine sif_r (fun h1 => ?_) (fun h1 => ?_)
 ·simp only [decide_eq_true_eq, gt_iff_lt] at h1
  cases hx : solidL (R.drop m) m k with
  | none => rw [hx] at h; exact h
  | some l =>
   have := solidL_few hk.1 hx
   rw [List.length_drop] at this; omega
 simp only [decide_eq_false_iff_not, gt_iff_lt] at h1
 refine join_r (fun _ W => w = W ∧ solidL (R.drop m) m k = none) ?_ (fun _ W hW => by obtain ⟨rfl, hf⟩ := hW; rw [hf] at h; exact h)
 refine sloop_r (fun x W => ∃ i n : Nat, x = ((n : Int), (i : Int), ()) ∧ w = W ∧ m ≤ i ∧ i ≤ R.length ∧ 1 ≤ n ∧ n ≤ k ∧ solidL (R.drop m) m k = solidL (R.drop i) i n) (fun x _ => ((R.length : Int) - x.2.1).toNat) ⟨m, k, rfl, rfl, Nat.le_refl _, hm, hk.1, Nat.le_refl _, rfl⟩ ?_
 rintro _ _ ⟨i, n, rfl, rfl, hmi, hi, hn1, hn2, he⟩
 dsimp only
 refine sif_r (fun hc => ?_) (fun hc => ?_)
 ·simp only [decide_eq_true_eq] at hc
  obtain ⟨r, hr⟩ : ∃ r, R[i]? = some r := ⟨_, List.getElem?_eq_getElem (by omega)⟩
  have ew : IntKind.wrap .i64 ((i : Int) + 1) = ((i + 1 : Nat) : Int) := by rw [wrap64 (by omega) (by omega)]; omega
  have ewn : IntKind.wrap .i64 ((n : Int) - 1) = ((n - 1 : Nat) : Int) := by rw [wrap64 (by omega) (by omega)]; omega
  rw [ew, ewn]
  rw [drop_at hr, solidL] at he
  refine join_r (fun x W => x = (((if r.s ≠ 0 then n - 1 else n : Nat) : Int), ()) ∧ w = W) ?_ ?_
  ·refine rd_sort hs hr fun q => sif_r (fun h2 => ⟨?_, rfl⟩) (fun h2 => ⟨?_, rfl⟩)
   ·simp only [bne_iff_ne, ne_eq] at h2
    rw [if_pos (show r.s ≠ 0 by omega)]
   ·simp only [bne_eq_false_iff_eq] at h2
    rw [if_neg (show ¬ r.s ≠ 0 by omega)]
  rintro _ _ ⟨rfl, rfl⟩
  obtain ⟨q, hq⟩ : ∃ q, q = (if r.s ≠ 0 then n - 1 else n) := ⟨_, rfl⟩
  have hqn : q ≤ n := by rw [hq]; split <;> omega
  rw [← hq] at he ⊢
  refine sif_r (fun h2 => ?_) (fun h2 => ?_)
  ·simp only [beq_iff_eq] at h2
   rw [if_pos (by omega)] at he
   rw [he] at h
   exact h
  ·simp only [beq_eq_false_iff_ne, ne_eq] at h2
   rw [if_neg (by omega)] at he
   exact ⟨⟨i + 1, q, rfl, rfl, by omega, by omega, by omega, by omega, he⟩, by omega⟩
 ·simp only [decide_eq_false_iff_not] at hc
  refine ⟨rfl, ?_⟩
  rw [he, List.drop_eq_nil_of_le (by omega)]; rfl
end
section
variable {w w' : World} {s : Sl} {t : TypeId} {R : List Rw} {F G : Rw → Nat}
theorem raround_call {m k : Nat} (hs : RwIn w s t F G R) (hl : R.length < 2 ^ 40) (hm : m < R.length) (hk : 1 ≤ k ∧ k < 2 ^ 63) {K : Int × Int × Unit → World → Prop} (h : K (match aroundR R m k with | some x => ((x.1 : Int), (x.2 : Int), ()) | none => (-1, -1, ())) w) :
  callT Tryz.prog 131 #[.slice s.a s.len s.cap, .int .i64 (m : Int), .int .i64 (k : Int)] (.tup [(.one (.int .i64)), (.one (.int .i64))]) K w := by
 refine F131_calls ?_
 unfold F131
 have hlen := hs.len
 refine rsolid_call hs hl (by omega) hk ?_
 unfold aroundR at h
 cases hx : solidL (R.drop m) m k with
 | none => rw [hx] at h; exact sif_true h
 | some l =>
  rw [hx] at h
  simp only [Option.map_some] at h
  have hb := solidL_lt hx
  rw [List.length_drop] at hb
  obtain ⟨r, hr⟩ : ∃ r, R[m]? = some r := ⟨_, List.getElem?_eq_getElem hm⟩
  have e0 : sortR R m = some r.s := by unfold sortR; rw [hr]; rfl
  rw [e0] at h
  dsimp only
  refine sif_r (fun hc => ?_) (fun _ => ?_)
  ·simp only [decide_eq_true_eq] at hc; omega
  refine rd_sort hs hr fun q => sif_r (fun h1 => ?_) (fun h1 => ?_)
  ·simp only [beq_iff_eq] at h1
   rw [if_pos (by rw [show r.s = 0 by omega])] at h; exact h
  simp only [beq_eq_false_iff_ne, ne_eq] at h1
  rw [if_neg (fun q => by have := Option.some.inj q; omega)] at h
  have ew : IntKind.wrap .i64 ((l : Int) + 1) = ((l + 1 : Nat) : Int) := by rw [wrap64 (by omega) (by omega)]; omega
  rw [ew]
  refine join_r (fun x W => x = (decide (sortR R (l + 1) = some 0), ()) ∧ w = W) (sif_r (fun h2 => ?_) (fun h2 => ⟨tupb ?_, rfl⟩)) ?_
  ·simp only [decide_eq_true_eq] at h2
   obtain ⟨y, hy⟩ : ∃ r, R[l + 1]? = some r := ⟨_, List.getElem?_eq_getElem (by omega)⟩
   have e1 : sortR R (l + 1) = some y.s := by unfold sortR; rw [hy]; rfl
   refine rd_sort hs hy fun q => ⟨tupb ?_, rfl⟩
   rw [e1]; simp
  ·simp only [decide_eq_false_iff_not] at h2
   have e1 : sortR R (l + 1) = none := by unfold sortR; rw [List.getElem?_eq_none (by omega)]; rfl
   rw [e1]; simp
  rintro _ _ ⟨rfl, rfl⟩
  refine sif_r (fun h2 => ?_) (fun h2 => ?_)
  ·simp only [decide_eq_true_eq] at h2
   rw [if_pos h2] at h; exact h
  simp only [decide_eq_false_iff_not] at h2
  rw [if_neg h2] at h
  refine join_r (fun x W => x = (decide (0 < m ∧ sortR R (m - 1) = some 0), ()) ∧ w = W) (sif_r (fun h3 => ?_) (fun h3 => ⟨tupb ?_, rfl⟩)) ?_
  ·simp only [decide_eq_true_eq, gt_iff_lt] at h3
   have ewm : IntKind.wrap .i64 ((m : Int) - 1) = ((m - 1 : Nat) : Int) := by rw [wrap64 (by omega) (by omega)]; omega
   rw [ewm]
   obtain ⟨y, hy⟩ : ∃ r, R[m - 1]? = some r := ⟨_, List.getElem?_eq_getElem (by omega)⟩
   have e1 : sortR R (m - 1) = some y.s := by unfold sortR; rw [hy]; rfl
   refine rd_sort hs hy fun q => ⟨tupb ?_, rfl⟩
   rw [e1]; simp; omega
  ·simp only [decide_eq_false_iff_not, gt_iff_lt] at h3
   simp; omega
  rintro _ _ ⟨rfl, rfl⟩
  refine sif_r (fun h3 => ?_) (fun h3 => ?_)
  ·simp only [decide_eq_true_eq] at h3
   rw [if_pos h3] at h
   have ewm : IntKind.wrap .i64 ((m : Int) - 1) = ((m - 1 : Nat) : Int) := by rw [wrap64 (by omega) (by omega)]; omega
   rw [ewm]; exact h
  ·simp only [decide_eq_false_iff_not] at h3
   rw [if_neg h3] at h; exact h
end
end Go.Proofs.YtabcpghhfeplaaaGreat
namespace Go.Proofs.YtabcpghhfeplaaaGreat
open Trx Gly Clu Lns Obx
namespace Obx
def fromC (C : List Cel) (r : Rw) : Nat := (C[r.b]?.map (·.from_)).getD 0
def toC (C : List Cel) (r : Rw) : Nat := (C[r.e - 1]?.map (·.to_)).getD 0
end Obx
end Go.Proofs.YtabcpghhfeplaaaGreat
namespace Go.Proofs.YtabcpghhfeplaaaGreat
open Go Go.Vx Gly Clu Rgl Lns Trx Obx
section
variable {w w' : World}
theorem flat_set {cs : List Cell} (hc : 0 < cs.length) {xs : List (Cells.T cs)} {n j : Nat} {x x' : Cells.T cs} {v : Value} (hx : xs[n]? = some x) (hj : j < cs.length) (hv : Cells.vals cs x' = (Cells.vals cs x).set j v) : flat cs (xs.set n x') = (flat cs xs).set (n * cs.length + j) v := by
 have hn := (List.getElem?_eq_some_iff.1 hx).1
 apply List.ext_getElem?
 intro i
 have hq : i = (i / cs.length) * cs.length + i % cs.length := by have := Nat.div_add_mod i cs.length; rw [Nat.mul_comm] at this; omega
 have hr : i % cs.length < cs.length := Nat.mod_lt _ hc
 by_cases hlt : i / cs.length < xs.length
 ·by_cases he : i / cs.length = n
  ·have hset : (xs.set n x')[i / cs.length]? = some x' := by rw [he, List.getElem?_set_self hn]
   rw [List.getElem?_set]
   have l1 : (flat cs (xs.set n x'))[i]? = (Cells.vals cs x')[i % cs.length]? := by conv => lhs; rw [hq]; rw [flat_get cs _ _ _ x' hset hr]
   have l2 : (flat cs xs)[i]? = (Cells.vals cs x)[i % cs.length]? := by conv => lhs; rw [hq]; rw [flat_get cs _ _ _ x (by rw [he]; exact hx) hr]
   rw [l1, hv, List.getElem?_set]
   rw [he] at hq
   have fl := flat_len cs xs
   by_cases hji : j = i % cs.length
   ·have hm := Nat.mul_le_mul_right cs.length (show n + 1 ≤ xs.length by omega)
    rw [Nat.succ_mul] at hm
    rw [if_pos hji, if_pos (by rw [vals_len]; omega), if_pos (show n * cs.length + j = i by omega), if_pos (by omega)]
   ·rw [if_neg hji, if_neg (by omega), l2]
  ·have hset : (xs.set n x')[i / cs.length]? = xs[i / cs.length]? := by rw [List.getElem?_set, if_neg (fun h => he h.symm)]
   obtain ⟨y, hy⟩ : ∃ y, xs[i / cs.length]? = some y := ⟨_, List.getElem?_eq_getElem hlt⟩
   have l1 : (flat cs (xs.set n x'))[i]? = (Cells.vals cs y)[i % cs.length]? := by conv => lhs; rw [hq]; rw [flat_get cs _ _ _ y (by rw [hset]; exact hy) hr]
   have l2 : (flat cs xs)[i]? = (Cells.vals cs y)[i % cs.length]? := by conv => lhs; rw [hq]; rw [flat_get cs _ _ _ y hy hr]
   rw [List.getElem?_set, if_neg ?_, l1, l2]
   intro h
   apply he
   rw [← h, Nat.mul_comm, Nat.mul_add_div hc, Nat.div_eq_of_lt hj, Nat.add_zero]
 ·have fl := flat_len cs xs
  have fl2 := flat_len cs (xs.set n x')
  rw [List.length_set] at fl2
  have hge := Nat.mul_le_mul_right cs.length (show xs.length ≤ i / cs.length by omega)
  rw [List.getElem?_eq_none (by omega), List.getElem?_eq_none (by rw [List.length_set]; omega)]
theorem ix_stf {c : Cell} {cs : List Cell} {s : Sl} {t : TypeId} {B : Nat} {xs : List (Cells.T cs)} {n : Int} {j : Nat} {x x' : Cells.T cs} {y : c.T} {K : World → Prop} (h : SlOwn w B s t cs.length (flat cs xs)) (h0 : 0 ≤ n) (hx : xs[n.toNat]? = some x) (hj : j < cs.length) (hv : Cells.vals cs x' = (Cells.vals cs x).set j (c.val y))
  (hK : ∀ w', SlOwn w' B s t cs.length (flat cs (xs.set n.toNat x')) → Upd s.blk w w' → w'.heap.size = w.heap.size → K w') : ix s.a s.len n (fun p => stC ((p.add (scaled n.toNat cs.length)).add j) (c.val y) K) w := by
 have hlt := (List.getElem?_eq_some_iff.1 hx).1
 have hl := h.lenR (by omega)
 have hle := h.le
 have fl := flat_len cs xs
 have hm := Nat.mul_le_mul_right cs.length (show n.toNat + 1 ≤ s.cap by omega)
 rw [Nat.succ_mul] at hm
 have hm2 := Nat.mul_le_mul_right cs.length (show n.toNat + 1 ≤ xs.length by omega)
 rw [Nat.succ_mul] at hm2
 rcases h.at_ with ⟨ha, hc⟩ | ⟨b, off, ce, ha, hB, hb, hcap, hvv⟩
 ·omega
 ·refine ⟨⟨b, off, none⟩, ⟨ha, h0, by omega⟩, ?_⟩
  dsimp only
  rw [addr_add, addr_add, scaled_eq]
  refine stC_r hb (by omega) fun w1 u1 n1 hz => hK w1 ⟨by rw [flat_len, List.length_set, hl], h.le, .inr ⟨b, off, _, ha, hB, n1, by simpa using hcap, fun i v hi => ?_⟩⟩ (u1.mono fun k _ hk => ⟨_, ha, hk.symm⟩) hz
  rw [flat_set (by omega) hx hj hv, List.getElem?_set] at hi
  by_cases hin : n.toNat * cs.length + j = i
  ·rw [if_pos hin, if_pos (by omega)] at hi
   rw [Array.getElem?_setIfInBounds, if_pos (by omega), if_pos (by omega)]
   exact hi
  ·rw [if_neg hin] at hi
   rw [Array.getElem?_setIfInBounds, if_neg (by omega)]
   exact hvv i v hi
end
section
variable {w w' : World} {A : List Int} {s : Sl} {t : TypeId}
theorem eR9 : ElemOk Tryz.prog 172 180 3 24 := ElemOk.of (z := .agg #[.int .i64 0, .int .i64 0, .int .i64 0]) i172_ok i180_ok rfl rfl rfl (by decide)
theorem r9_one (x : Cells.T c180) : ∀ v ∈ flat c180 [x], isOne v = true := by
 intro v hv
 rw [flat_one] at hv
 have h : v ∈ [_, _, _] := hv
 simp only [List.mem_cons, List.not_mem_nil, or_false] at h
 rcases h with rfl | rfl | rfl <;> rfl
theorem pushW {r : Sl} {L : List (Cells.T c180)} {x : Cells.T c180} {b N : Nat} {K : Sl → World → Prop} (hr : SlOwn w N r 180 3 (flat c180 L)) (hb : w.heap[b]? = some (.cells #[.int .i64 x.1, .int .i64 x.2.1, .int .i64 x.2.2.1] 180 (0, 0))) (hl : L.length < 2 ^ 40) (hN : N ≤ w.heap.size)
  (hK : ∀ r' w', SlOwn w' N r' 180 3 (flat c180 (L ++ [x])) → Upd r.blk w w' → K r' w') :
  rawT Tryz.prog (.one (.one .sl)) (Builtin.append_ #[172, 172] 172 #[.slice r.a r.len r.cap, .slice (some (at0 b)) 1 1]) K w := by
 have hrl := SlOwn.lenR (cs := c180) hr (by decide)
 have hbox : SlX w ⟨some (at0 b), 1, 1⟩ 3 (flat c180 [x]) := (SlIn.of_box hb (n := 1) (sz := 3) rfl).x
 refine append_rx eR9 eR9.ts_ (x := ⟨some (at0 b), 1, 1⟩) hr hbox (r9_one x) (by
  show (r.len + 1 + (r.len + 1) / 4 + 512) * 24 ≤ 2 ^ 48
  omega) hN fun r' w' o l' u k => hK r' w' ?_ u
 rw [flat_append]; exact o
theorem rowsTo_len (S : List Nat) : ∀ i, (rowsTo S i).length ≤ i
 | 0 => Nat.le_refl _
 | i + 1 => by
  have ih := rowsTo_len S i
  rw [rowsTo]
  unfold addR
  split
  ·rename_i r hr
   have hp : 0 < (rowsTo S i).length := by
    cases h : rowsTo S i with
    | nil => rw [h] at hr; cases hr
    | cons a b => simp
   split
   ·rw [List.length_append, List.length_dropLast, List.length_singleton]; omega
   ·rw [List.length_append, List.length_singleton]; omega
  ·simp
end
namespace Obx
theorem addR_same {R : List Rw} {r : Rw} {j s : Nat} (h : R.getLast? = some r) (hs : r.s = s) : addR R j s = R.dropLast ++ [⟨r.b, j + 1, s⟩] := by unfold addR; rw [h]; exact if_pos hs
theorem addR_other {R : List Rw} {j s : Nat} (h : ∀ r, R.getLast? = some r → r.s ≠ s) : addR R j s = R ++ [⟨j, j + 1, s⟩] := by
 unfold addR
 cases hr : R.getLast? with
 | none =>
  have : R = [] := by simpa using hr
  rw [this]; rfl
 | some r => exact if_neg (h r hr)
theorem set_last {α : Type} {l : List α} {x : α} (h : l ≠ []) : l.set (l.length - 1) x = l.dropLast ++ [x] := by
 conv => lhs; rw [← List.dropLast_concat_getLast h]
 rw [List.length_append, List.length_singleton, Nat.add_sub_cancel, List.set_append_right _ _ (Nat.le_refl _), Nat.sub_self]; rfl
end Obx
section
variable {w w' : World} {A : List Int} {s : Sl} {t : TypeId}
abbrev RwOwn (w : World) (N : Nat) (s : Sl) (F G : Rw → Nat) (R : List Rw) : Prop := SlOwn w N s 180 3 (flat c180 (R.map (rwT F G)))
theorem RwOwn.len {w : World} {N : Nat} {s : Sl} {F G : Rw → Nat} {R : List Rw} (h : RwOwn w N s F G R) : R.length = s.len := by have := SlOwn.lenR (cs := c180) h (by decide); rwa [List.length_map] at this
theorem add_set {N : Nat} {r : Sl} {F G : Rw → Nat} {R : List Rw} {q : Rw} {j : Nat} {v : Nat} {K : World → Prop} (hr : RwOwn w N r F G R) (hq : R.getLast? = some q) (hv : v = G ⟨q.b, j + 1, q.s⟩) (hF : F ⟨q.b, j + 1, q.s⟩ = F q)
  (hl : R.length < 2 ^ 40) (hK : ∀ w', RwOwn w' N r F G (addR R j q.s) → Upd r.blk w w' → K w') :
  ix r.a r.len (IntKind.wrap .i64 ((r.len : Int) - 1)) (fun p => stC ((p.add (scaled (Int.toNat (IntKind.wrap .i64 ((r.len : Int) - 1))) 3)).add 1) (.int .i64 (v : Int)) K) w := by
 have hne : R ≠ [] := by rintro rfl; simp at hq
 have hpos := List.length_pos_iff.2 hne
 have hlen := RwOwn.len hr
 have ew : IntKind.wrap .i64 ((r.len : Int) - 1) = ((R.length - 1 : Nat) : Int) := by rw [wrap64 (by omega) (by omega)]; omega
 rw [ew]
 have hq2 : R[R.length - 1]? = some q := by rw [← List.getLast?_eq_getElem?]; exact hq
 refine ix_stf (c := .int .i64) (cs := c180) (xs := R.map (rwT F G)) (j := 1) (x := rwT F G q) (x' := rwT F G ⟨q.b, j + 1, q.s⟩) (y := (v : Int)) hr (by omega) (by rw [Int.toNat_natCast, List.getElem?_map, hq2]; rfl) (by decide) ?_ fun w' o u _ => hK w' ?_ u
 ·have e : rwT F G ⟨q.b, j + 1, q.s⟩ = ((F q : Int), (v : Int), (q.s : Int), ()) := by
   show (((F _ : Nat) : Int), ((G _ : Nat) : Int), _, ()) = _
   rw [hF, ← hv]
  rw [e]; rfl
 ·rw [addR_same hq rfl]
  rw [Int.toNat_natCast] at o
  have e : (R.map (rwT F G)).set (R.length - 1) (rwT F G ⟨q.b, j + 1, q.s⟩) = (R.dropLast ++ [(⟨q.b, j + 1, q.s⟩ : Rw)]).map (rwT F G) := by
   rw [← List.map_set, set_last hne]
  rw [e] at o
  exact o
theorem add_push {N : Nat} {r : Sl} {F G : Rw → Nat} {R : List Rw} {j s : Nat} {b : Nat} {K : Sl → World → Prop} (hr : RwOwn w N r F G R) (hb : w.heap[b]? = some (.cells #[.int .i64 ((F ⟨j, j + 1, s⟩ : Nat) : Int), .int .i64 ((G ⟨j, j + 1, s⟩ : Nat) : Int), .int .i64 (s : Int)] 180 (0, 0)))
  (hne : ∀ q, R.getLast? = some q → q.s ≠ s) (hl : R.length < 2 ^ 40) (hN : N ≤ w.heap.size) (hK : ∀ r' w', RwOwn w' N r' F G (addR R j s) → Upd r.blk w w' → K r' w') :
  rawT Tryz.prog (.one (.one .sl)) (Builtin.append_ #[172, 172] 172 #[.slice r.a r.len r.cap, .slice (some (at0 b)) 1 1]) K w := by
 refine pushW (x := rwT F G ⟨j, j + 1, s⟩) hr hb (by rw [List.length_map]; exact hl) hN fun r' w' o u => hK r' w' ?_ u
 rw [addR_other hne, RwOwn, List.map_append]
 exact o
theorem last_sort {N : Nat} {r : Sl} {F G : Rw → Nat} {R : List Rw} {s : Nat} {J : Bool × Unit → World → Prop} (hr : RwOwn w N r F G R) (hl : R.length < 2 ^ 40) (h1 : ∀ q, R.getLast? = some q → q.s = s → J (true, ()) w) (h2 : (∀ q, R.getLast? = some q → q.s ≠ s) → J (false, ()) w) :
  sif (decide (((r.len : Nat) : Int) > (0 : Int))) (ix r.a r.len (IntKind.wrap .i64 (((r.len : Nat) : Int) - (1 : Int))) fun p => ld (.int .i64) ((p.add (scaled (Int.toNat (IntKind.wrap .i64 (((r.len : Nat) : Int) - (1 : Int)))) 3)).add 2) fun (x : Int) => J ((x == (s : Int)), ())) (J (false, ())) w := by
 have hlen := RwOwn.len hr
 refine sif_r (fun hc => ?_) (fun hc => ?_)
 ·simp only [decide_eq_true_eq, gt_iff_lt] at hc
  obtain ⟨q, hq⟩ : ∃ q, R[R.length - 1]? = some q := ⟨_, List.getElem?_eq_getElem (by omega)⟩
  have hq2 : R.getLast? = some q := by rw [List.getLast?_eq_getElem?]; exact hq
  have ew : IntKind.wrap .i64 ((r.len : Int) - 1) = ((R.length - 1 : Nat) : Int) := by rw [wrap64 (by omega) (by omega)]; omega
  rw [ew]
  refine rd_sort hr.in hq fun p => ?_
  by_cases he : q.s = s
  ·rw [show ((q.s : Int) == (s : Int)) = true by simp [he]]
   exact h1 q hq2 he
  ·rw [show ((q.s : Int) == (s : Int)) = false by simp; omega]
   refine h2 fun x hx => ?_
   rw [hq2] at hx; cases hx; exact he
 ·simp only [decide_eq_false_iff_not, gt_iff_lt] at hc
  refine h2 fun x hx => ?_
  have : R = [] := List.length_eq_zero_iff.1 (by omega)
  rw [this] at hx; simp at hx
theorem cel_cut {B : List Int} {off i ci cj : Nat} (h1 : (cuts B)[i]? = some ci) (h2 : (cuts B)[i + 1]? = some cj) : (cels B off)[i]? = some (celAt B off ci cj) := celsL_get B off _ _ _ _ h1 h2
set_option maxHeartbeats 1000000 in
theorem rstretches_call (hs : SlIn w s t 1 (iv A)) (hl : A.length < 2 ^ 39) {l : Ln} (h1 : l.from_ ≤ l.to_) (h2 : l.to_ ≤ A.length) {big : Bool} {K : Sl → World → Prop}
  (hK : ∀ s' w', RwOwn w' w.heap.size s' (fromC (lineC A l)) (toC (lineC A l)) (rowsTo (sortsW (lineC A l) big) (lineC A l).length) → Ext w w' → K s' w') :
  callT Tryz.prog 126 #[.slice s.a s.len s.cap, .agg (Cells.vals c174 (lnR l)).toArray, .bool big] (.one (.one .sl)) K w := by
 refine F126_calls ?_
 unfold F126
 have hlen : A.length = s.len := by have := hs.len1; rwa [List.length_map] at this
 obtain ⟨B, hB⟩ : ∃ B, B = (A.drop l.from_).take (l.to_ - l.from_) := ⟨_, rfl⟩
 have hC : lineC A l = cels B l.from_ := by unfold lineC; rw [← hB]
 have hBl : B.length = l.to_ - l.from_ := by rw [hB, List.length_take, List.length_drop]; omega
 rw [hC] at hK
 refine (St.start w).newO fun b1 w1 S1 e1 => S1.ld 0 rfl (x := (l.from_ : Int)) rfl (S1.ld 0 rfl (x := (l.to_ : Int)) rfl ?_)
 refine slc_r (hs.ext e1) (by omega) (by omega) (by omega) (by have := hs.le; omega) (by omega) fun y hy hyl _ _ => ?_
 have hy : SlIn w1 y t 1 (iv B) := by
  rw [Nat.mul_one, Nat.mul_one, Int.toNat_natCast, Int.toNat_natCast, ← List.map_drop, ← List.map_take, ← hB] at hy
  exact hy
 refine rbreaks_call hy (by omega) fun c w2 oc e2 => ?_
 have S2 := S1.ext e2
 have hcl : (cuts B).length = c.len := by have := oc.len1; rwa [List.length_map] at this
 have hn : (cels B l.from_).length = (cuts B).length - 1 := cels_len B l.from_
 have hcp := cuts_pos B
 have hnl := cels_le B l.from_
 obtain ⟨C, hCd⟩ : ∃ C, C = cels B l.from_ := ⟨_, rfl⟩
 rw [← hCd] at hK hn hnl
 refine join_r (fun x W => RwOwn W w2.heap.size x.1 (fromC C) (toC C) (rowsTo (sortsW C big) C.length) ∧ Ext w2 W) ?_ (fun x W h => hK _ _ (h.1.mono (by have := e1.size; have := e2.size; omega)) ((e1.trans e2).trans h.2))
 refine sloop_r (fun x W => ∃ i : Nat, i ≤ C.length ∧ x.2 = ((i : Int), ()) ∧ RwOwn W w2.heap.size x.1 (fromC C) (toC C) (rowsTo (sortsW C big) i) ∧ Ext w2 W) (fun x _ => ((C.length : Int) - x.2.1).toNat) ⟨0, Nat.zero_le _, rfl, SlOwn.nil _ _ _ _, Ext.refl w2⟩ ?_
 rintro ⟨r, _⟩ W ⟨i, hi, rfl, hr, eW⟩
 dsimp only at hr ⊢
 have ew : IntKind.wrap .i64 ((i : Int) + 1) = ((i + 1 : Nat) : Int) := by rw [wrap64 (by omega) (by omega)]; omega
 rw [ew]
 have xW : Ext w W := (e1.trans e2).trans eW
 refine sif_r (fun hc => ?_) (fun hc => ?_)
 ·simp only [decide_eq_true_eq] at hc
  obtain ⟨ci, hci⟩ : ∃ x, (cuts B)[i]? = some x := ⟨_, List.getElem?_eq_getElem (by omega)⟩
  obtain ⟨cj, hcj⟩ : ∃ x, (cuts B)[i + 1]? = some x := ⟨_, List.getElem?_eq_getElem (by omega)⟩
  have hlt := cuts_inj (Nat.lt_succ_self i) hci hcj
  have hcj2 := bk_le (cuts_bk hcj)
  have hcel : C[i]? = some (celAt B l.from_ ci cj) := by rw [hCd]; exact cel_cut hci hcj
  obtain ⟨a, ha⟩ : ∃ a, B[ci]? = some a := ⟨_, List.getElem?_eq_getElem (by omega)⟩
  have hkind : (celAt B l.from_ ci cj).kind = wrd a := by unfold celAt; rw [ha]; rfl
  have hrow : (rowsTo (sortsW C big) i).length < 2 ^ 40 := by have := rowsTo_len (sortsW C big) i; omega
  have hsort : (sortsW C big).getD i 0 = if big ∧ wrd a ≠ 0 then 2 else wrd a := by
   refine getD_of ?_
   unfold sortsW
   rw [List.getElem?_map, hcel, Option.map_some, hkind]
  obtain ⟨sv, hsv⟩ : ∃ sv, sv = (if big ∧ wrd a ≠ 0 then 2 else wrd a) := ⟨_, rfl⟩
  rw [← hsv] at hsort
  have rdC : ∀ {V : World} {K : Addr → Int → World → Prop} {j v : Nat}, Ext w2 V → (cuts B)[j]? = some v → (∀ q, K q (v : Int) V) → ix c.a c.len (j : Int) (fun q => ld (.int .i64) (q.add (scaled (Int.toNat (j : Int)) 1)) (K q)) V := fun x hv hk => by
   refine ix_ld (c := .int .i64) (xs := (cuts B).map fun (n : Nat) => (n : Int)) (t := 3) ?_ (by omega) (by rw [Int.toNat_natCast, List.getElem?_map, hv]; rfl) hk
   have := (oc.ext x).in
   rw [List.map_map]; exact this
  refine join_r (fun x W' => RwOwn W' w2.heap.size x.1 (fromC C) (toC C) (rowsTo (sortsW C big) (i + 1)) ∧ Ext w2 W') ?_ (fun x W' h => ⟨⟨i + 1, by omega, rfl, h.1, h.2⟩, by omega⟩)
  rw [rowsTo, hsort]
  refine rdC eW hci fun q => rdA (hy.ext (e2.trans eW)) ha fun q2 => rsort_call ?_
  rw [← hsv]
  have hto : toC C ⟨i, i + 1, sv⟩ = l.from_ + cj := by unfold toC; rw [Nat.add_sub_cancel, hcel]; rfl
  have hfrom : fromC C ⟨i, i + 1, sv⟩ = l.from_ + ci := by unfold fromC; rw [hcel]; rfl
  have ew1 : IntKind.wrap .i64 ((l.from_ : Int) + (cj : Int)) = ((l.from_ + cj : Nat) : Int) := by rw [wrap64 (by omega) (by omega)]; omega
  have ew2 : IntKind.wrap .i64 ((l.from_ : Int) + (ci : Int)) = ((l.from_ + ci : Nat) : Int) := by rw [wrap64 (by omega) (by omega)]; omega
  obtain ⟨J, hJ⟩ : ∃ J : Bool × Unit → World → Prop, J = fun x W' => ((x = (true, ()) ∧ ∃ q, (rowsTo (sortsW C big) i).getLast? = some q ∧ q.s = sv) ∨ (x = (false, ()) ∧ ∀ q, (rowsTo (sortsW C big) i).getLast? = some q → q.s ≠ sv)) ∧ W = W' := ⟨_, rfl⟩
  refine join_r J ?_ ?_
  ·exact last_sort (J := J) hr hrow (fun q h1 h2 => by rw [hJ]; exact ⟨.inl ⟨rfl, q, h1, h2⟩, rfl⟩) (fun h => by rw [hJ]; exact ⟨.inr ⟨rfl, h⟩, rfl⟩)
  rw [hJ]
  have S3 := S2.ext eW
  rintro _ _ ⟨⟨rfl, q, hq, rfl⟩ | ⟨rfl, hq⟩, rfl⟩
  ·refine sif_true (S3.drew fun w4 S4 e4 _ => S4.ld 0 rfl (x := (l.from_ : Int)) rfl (rdC (eW.trans e4) hcj fun q2 => ?_))
   rw [ew1]
   refine add_set (hr.ext e4) hq (by unfold toC; rw [Nat.add_sub_cancel, hcel]; rfl) (by unfold fromC; rfl) hrow fun w5 o5 u5 => ⟨o5, (eW.trans e4).step u5 fun k hk => hr.blk_ge hk⟩
  ·refine sif_false (S3.drew fun w4 S4 e4 _ => S4.ld 0 rfl (x := (l.from_ : Int)) rfl (rdC (eW.trans e4) hci fun q2 => S4.ld 0 rfl (x := (l.from_ : Int)) rfl (rdC (eW.trans e4) hcj fun q3 => ?_)))
   rw [ew1, ew2]
   refine newO_r fun b8 w5 e5 n5 _ _ => ?_
   refine add_push (j := i) (s := sv) ((hr.ext e4).ext e5) (by rw [hto, hfrom]; exact n5) hq hrow (by have := eW.size; have := e4.size; have := e5.size; omega) fun r' w6 o6 u6 => ⟨o6, ((eW.trans e4).trans e5).step u6 fun k hk => hr.blk_ge hk⟩
 ·simp only [decide_eq_false_iff_not] at hc
  have : i = C.length := by omega
  subst this
  exact ⟨hr, eW⟩
end
namespace Obx
theorem rows_pick {S : List Nat} {R : List Rw} (h : RowsOk S S.length R) {m i k : Nat} {r : Rw} (hr : R[m]? = some r) (h1 : r.b ≤ i) (h2 : i < r.e) (hk : 1 ≤ k) (out : Bool) :
  pickP out S i k = (if out then aroundR R m k else if k ≤ R.length - m then some (m, m + k - 1) else none).bind fun x => spanR R x.1 x.2 := by
 obtain ⟨k, rfl⟩ : ∃ n, k = n + 1 := ⟨k - 1, by omega⟩
 unfold pickP
 cases out with
 | true => rw [if_pos rfl, if_pos rfl]; exact around_span h hr h1 h2 k
 | false =>
  rw [if_neg (by decide), if_neg (by decide), inner_span h hr h1 h2]
  by_cases hc : k + 1 ≤ R.length - m
  ·rw [if_pos hc]; rfl
  ·rw [if_neg hc]
   unfold spanR
   rw [List.getElem?_eq_none (show R.length ≤ m + k by omega)]
   cases R[m]? <;> rfl
theorem aroundR_lt {R : List Rw} {m k a z : Nat} (hm : m < R.length) (h : aroundR R m k = some (a, z)) : a < R.length ∧ z < R.length := by
 unfold aroundR at h
 obtain ⟨l, hl, he⟩ := Option.map_eq_some_iff.1 h
 have hb := solidL_lt hl
 rw [List.length_drop] at hb
 split at he
 ·cases he; omega
 ·split at he
  ·rename_i h1
   cases he
   unfold sortR at h1
   obtain ⟨x, hx, _⟩ := Option.map_eq_some_iff.1 h1
   have := (List.getElem?_eq_some_iff.1 hx).1
   omega
  ·split at he
   ·cases he; omega
   ·cases he; omega
end Obx
section
variable {w w' : World} {A : List Int} {s : Sl} {t : TypeId}
abbrev spR (x y k : Int) : Cells.T c149 := (x, y, k, ())
theorem none_sp {b1 : Nat} {w0 V : World} {ls : List (Nat × Obj)} {o : Array Value} (i : Nat) {f : Int} {K : Cells.T c149 × Int × Unit → World → Prop} (S : St (fun _ => False) w0 V ls) (hi : ls[i]? = some (b1, .cells o 149 (0, 0))) (ho : o.size = 3) (x y k : Int) (hk : ∀ w', Ext w0 w' → K (spR x y k, f, ()) w') :
   aggSt (at0 b1) (.agg #[(.int .i64 x), (.int .i64 y), (.int .i64 k)]) 3 (lds c149 (at0 b1) fun x => K (x, f, ())) V := by
 refine S.aggSt i hi rfl ho rfl fun w3 S3 u3 => S3.lds i (t := 149) (fr := (0, 0)) (spR x y k) ?_ (hk w3 S3.upd)
 rw [List.getElem?_set]
 have := (List.getElem?_eq_some_iff.1 hi).1
 rw [if_pos rfl, if_pos this]; rfl
theorem rd_from {F G : Rw → Nat} {R : List Rw} (hs : RwIn w s t F G R) {i : Nat} {r : Rw} (hr : R[i]? = some r) {K : Addr → Int → World → Prop} (hK : ∀ q, K q (F r : Int) w) :
  ix s.a s.len (i : Int) (fun q => ld (.int .i64) (q.add (scaled (Int.toNat (i : Int)) 3)) (K q)) w :=
 ix_ldf0 (c := .int .i64) (cs := c180) (xs := R.map (rwT F G)) hs (by omega) (x := rwT F G r) (y := (F r : Int)) (by rw [Int.toNat_natCast, List.getElem?_map, hr]; rfl) rfl hK
theorem rd_to {F G : Rw → Nat} {R : List Rw} (hs : RwIn w s t F G R) {i : Nat} {r : Rw} (hr : R[i]? = some r) {K : Addr → Int → World → Prop} (hK : ∀ q, K q (G r : Int) w) :
  ix s.a s.len (i : Int) (fun q => ld (.int .i64) ((q.add (scaled (Int.toNat (i : Int)) 3)).add 1) (K q)) w :=
 ix_ldf (c := .int .i64) (cs := c180) (xs := R.map (rwT F G)) (j := 1) hs (by omega) (x := rwT F G r) (y := (G r : Int)) (by rw [Int.toNat_natCast, List.getElem?_map, hr]; rfl) rfl hK
theorem or3_join {a b c : Bool} {rest : Bool × Unit → World → Prop} (h : rest ((a || b || c), ()) w) : join (S := Bool × Unit) (fun J => sif a (J (true, ())) (sif b (J (true, ())) (J (c, ())))) rest w := by
 refine join_at ((a || b || c), ()) (sif_r (fun h1 => ⟨tupb ?_, rfl⟩) (fun h1 => sif_r (fun h2 => ⟨tupb ?_, rfl⟩) (fun h2 => ⟨tupb ?_, rfl⟩))) h
 all_goals simp_all
theorem or2_join {a b : Bool} {rest : Bool × Unit → World → Prop} (h : rest ((a || b), ()) w) : join (S := Bool × Unit) (fun J => sif a (J (true, ())) (J (b, ()))) rest w := by
 refine join_at ((a || b), ()) (sif_r (fun h1 => ⟨tupb ?_, rfl⟩) (fun h1 => ⟨tupb ?_, rfl⟩)) h
 all_goals simp_all
theorem checked_is {n : Nat} {at_ kind count lo hi : Int} : checked n at_ kind count lo hi = if (decide (kind < lo) || decide (kind > hi) || decide (count < 0)) = true then 1 else if (decide (at_ < 0) || decide (at_ > (n : Int))) = true then 2 else 0 := by
 unfold checked
 simp only [Bool.or_eq_true, decide_eq_true_eq, gt_iff_lt, or_assoc]
end
end Go.Proofs.YtabcpghhfeplaaaGreat
namespace Go.Proofs.YtabcpghhfeplaaaGreat
open Trx Gly Clu Lns Obx
namespace Obx
theorem celsL_kind (A : List Int) (f g : Nat) : ∀ L : List Nat, (celsL A f L).map (·.kind) = (celsL A g L).map (·.kind)
 | [] => rfl
 | [_] => rfl
 | i :: j :: r => by rw [celsL, celsL, List.map_cons, List.map_cons, celsL_kind A f g (j :: r)]; rfl
theorem cels_kind (A : List Int) (f g : Nat) : (cels A f).map (·.kind) = (cels A g).map (·.kind) := celsL_kind A f g _
theorem sortsW_small (C : List Cel) : sortsW C false = C.map (·.kind) := by
 unfold sortsW
 exact List.map_congr_left fun c _ => by simp
theorem rows_plain {S : List Nat} {R : List Rw} (h : RowsOk S S.length R) : (R.length = 0 ∨ (R.length = 1 ∧ ∃ r, R[0]? = some r ∧ r.s = 0)) ↔ ∀ s ∈ S, s = 0 := by
 constructor
 ·rintro (h0 | ⟨h1, r, hr, hs⟩) s hm
  ·have := h.none_ (List.length_eq_zero_iff.1 h0)
   rw [List.length_eq_zero_iff.1 this] at hm; cases hm
  ·obtain ⟨j, hj⟩ := List.getElem?_of_mem hm
   have hjl := (List.getElem?_eq_some_iff.1 hj).1
   have e1 := h.last r (last_get hr (by omega))
   have e0 := h.head r hr
   have := (h.row 0 r hr).2.2 j (by omega) (by omega)
   rw [getD_of hj] at this
   omega
 ·intro ha
  rcases Nat.lt_or_ge R.length 2 with q | q
  ·by_cases h0 : R.length = 0
   ·exact .inl h0
   ·right
    obtain ⟨r, hr⟩ : ∃ r, R[0]? = some r := ⟨_, List.getElem?_eq_getElem (by omega)⟩
    refine ⟨by omega, r, hr, ?_⟩
    obtain ⟨g1, g2, g3⟩ := h.row 0 r hr
    obtain ⟨s, hs⟩ : ∃ s, S[r.b]? = some s := ⟨_, List.getElem?_eq_getElem (by omega)⟩
    have := g3 r.b (Nat.le_refl _) g1
    rw [getD_of hs, ha s (List.mem_of_getElem? hs)] at this
    exact this.symm
  ·exfalso
   obtain ⟨r, hr⟩ : ∃ r, R[0]? = some r := ⟨_, List.getElem?_eq_getElem (by omega)⟩
   obtain ⟨t, ht⟩ : ∃ r, R[1]? = some r := ⟨_, List.getElem?_eq_getElem (by omega)⟩
   have hz : ∀ (m : Nat) r, R[m]? = some r → r.s = 0 := fun m r hr => by
    obtain ⟨g1, g2, g3⟩ := h.row m r hr
    obtain ⟨s, hs⟩ : ∃ s, S[r.b]? = some s := ⟨_, List.getElem?_eq_getElem (by omega)⟩
    have := g3 r.b (Nat.le_refl _) g1
    rw [getD_of hs, ha s (List.mem_of_getElem? hs)] at this
    exact this.symm
   exact (h.next 0 r t hr ht).2 (by rw [hz 0 r hr, hz 1 t ht])
theorem sortLn_plain (A : List Int) (l : Ln) : sortLn A l = if ∀ s ∈ sortsW (lineC A l) false, s = 0 then 0 else 1 := by
 unfold sortLn
 rw [sortsW_small]
 unfold lineC
 rw [cels_kind _ l.from_ 0]
 generalize cels ((A.drop l.from_).take (l.to_ - l.from_)) 0 = C
 by_cases h : ∀ s ∈ C.map (·.kind), s = 0
 ·rw [if_pos h, if_neg]
  intro hc
  obtain ⟨c, hc, hk⟩ := List.any_eq_true.1 hc
  have := h c.kind (List.mem_map_of_mem hc)
  simp [this] at hk
 ·rw [if_neg h, if_pos]
  rw [List.any_eq_true]
  apply Classical.byContradiction
  intro hn
  apply h
  intro s hs
  obtain ⟨c, hc, rfl⟩ := List.mem_map.1 hs
  apply Classical.byContradiction
  intro hk
  exact hn ⟨c, hc, by simpa using hk⟩
def fromL (L : List Ln) (r : Rw) : Nat := (L[r.b]?.map (·.from_)).getD 0
def nextL (L : List Ln) (r : Rw) : Nat := (L[r.e - 1]?.map (·.next)).getD 0
theorem lnAll_lt {A : List Int} {j : Nat} (hj : j < lnN A) : ∃ l, lnAt A j = some l ∧ (lnAll A)[j]? = some l := by
 have hb : j ≤ brs A := by unfold lnN at hj; split at hj <;> omega
 obtain ⟨l, hl⟩ := lnAt_ok hb
 refine ⟨l, hl, ?_⟩
 unfold lnAll
 rw [List.getElem?_map, List.getElem?_range hj, Option.map_some, hl]; rfl
theorem line_step {A : List Int} {i : Nat} {l m : Ln} (h1 : lnAt A i = some l) (h2 : lnAt A (i + 1) = some m) : l.next = m.from_ := by
 have ok := ln_ok h1
 have hs := (lnAt_some h2).2
 exact (ok.brk _ hs).1
theorem line_mono {A : List Int} : ∀ (d i : Nat) (l m : Ln), lnAt A i = some l → lnAt A (i + 1 + d) = some m → l.next ≤ m.from_
 | 0, i, l, m, h1, h2 => Nat.le_of_eq (line_step h1 h2)
 | d + 1, i, l, m, h1, h2 => by
  have hb := (lnAt_some h2).1
  obtain ⟨x, hx⟩ := lnAt_ok (A := A) (i := i + 1) (by omega)
  have e := line_step h1 hx
  have := line_mono d (i + 1) x m hx (by rw [show i + 1 + 1 + d = i + 1 + (d + 1) by omega]; exact h2)
  have hx2 := (ln_ok hx).ft
  have hx3 := (ln_ok hx).tn
  omega
theorem which_line {A : List Int} {R : List Rw} (h : RowsOk (sortsP A) (sortsP A).length R) {at_ : Nat} (hat : at_ ≤ A.length) (hn : nb A at_ < lnN A) {m : Nat} {r : Rw} (hr : R[m]? = some r)
    (h1 : ∀ (j : Nat) q, j < m → R[j]? = some q → (nextL (lnAll A) q : Int) ≤ (at_ : Int)) (h2 : (at_ : Int) < (nextL (lnAll A) r : Int) ∨ m + 1 = R.length) : r.b ≤ nb A at_ ∧ nb A at_ < r.e := by
  have hS : (sortsP A).length = lnN A := (sortsP_len A).1
  obtain ⟨g1, g2, _⟩ := h.row m r hr
  obtain ⟨l, hl, hlf, hln⟩ := ln_of A hat
  have nx : ∀ (q : Rw), q.b < q.e → q.e ≤ lnN A → ∃ y, lnAt A (q.e - 1) = some y ∧ nextL (lnAll A) q = y.next := fun q q1 q2 => by
    obtain ⟨y, hy, hy2⟩ := lnAll_lt (A := A) (j := q.e - 1) (by omega)
    exact ⟨y, hy, by unfold nextL; rw [hy2]; rfl⟩
  constructor
  · rcases Nat.lt_or_ge (nb A at_) r.b with q | q
    · exfalso
      cases m with
      | zero => have := h.head r hr; omega
      | succ m =>
        obtain ⟨p, hp⟩ : ∃ p, R[m]? = some p := ⟨_, List.getElem?_eq_getElem (by have := (List.getElem?_eq_some_iff.1 hr).1; omega)⟩
        have e1 := (h.next m p r hp hr).1
        obtain ⟨p1, p2, _⟩ := h.row m p hp
        obtain ⟨y, hy, hy2⟩ := nx p p1 (by omega)
        have h3 := h1 m p (by omega) hp
        rw [hy2] at h3
        have hyb := (lnAt_some hy).1
        obtain ⟨z, hz⟩ : ∃ z, lnAt A r.b = some z := by
          have hb : r.b ≤ brs A := by have : r.b < lnN A := by omega
                                      unfold lnN at this; split at this <;> omega
          exact lnAt_ok hb
        rcases hln with u | ⟨u, _⟩
        · by_cases he : p.e - 1 = nb A at_
          · rw [he, hl] at hy; cases hy; omega
          · have hm := line_mono (p.e - 1 - (nb A at_ + 1)) (nb A at_) l y hl (by rw [show nb A at_ + 1 + (p.e - 1 - (nb A at_ + 1)) = p.e - 1 by omega]; exact hy)
            have := (ln_ok hy).ft
            have := (ln_ok hy).tn
            omega
        · have hzb := (lnAt_some hz).1
          obtain ⟨x, hx⟩ := sk_ok (A := A) (k := nb A at_ + 1) (by omega)
          rw [hx] at u; cases u
    · exact q
  · rcases h2 with q | q
    · rcases Nat.lt_or_ge (nb A at_) r.e with u | u
      · exact u
      · obtain ⟨y, hy, hy2⟩ := nx r g1 (by omega)
        rw [hy2] at q
        have hm := line_mono (nb A at_ - r.e) (r.e - 1) y l hy (by rw [show r.e - 1 + 1 + (nb A at_ - r.e) = nb A at_ by omega]; exact hl)
        omega
    · have := h.last r (last_get hr (by omega)); omega
end Obx
end Go.Proofs.YtabcpghhfeplaaaGreat
namespace Go.Proofs.YtabcpghhfeplaaaGreat
open Go Go.Vx Gly Clu Rgl Lns Trx Obx
section
variable {w w' : World} {A : List Int} {s : Sl} {t : TypeId}
theorem rbare_call {i : Nat} {l : Ln} (hs : SlIn w s t 1 (iv A)) (hl : A.length < 2 ^ 39) (hi : lnAt A i = some l) {K : Bool → World → Prop} (hK : ∀ w', Ext w w' → K (decide (sortLn A l = 0)) w') :
  callT Tryz.prog 155 #[.slice s.a s.len s.cap, .agg (Cells.vals c174 (lnR l)).toArray] (.one (.one .bool)) K w := by
 refine F155_calls ?_
 unfold F155
 have ok := ln_ok hi
 have h1 := ok.ft; have h2 := ok.tn; have h3 := ok.nl
 refine (St.start w).newO fun b1 w1 S1 e1 => S1.lds 0 (lnR l) rfl ?_
 refine rstretches_call (hs.ext e1) hl h1 (by omega) fun r w2 o2 e2 => ?_
 have hrl := RwOwn.len o2
 have okR : RowsOk (sortsW (lineC A l) false) (sortsW (lineC A l) false).length (rowsTo (sortsW (lineC A l) false) (lineC A l).length) := by
  rw [sortsW_len]; exact rowsTo_ok _ _
 have pl := rows_plain okR
 have hsl := sortLn_plain A l
 generalize rowsTo (sortsW (lineC A l) false) (lineC A l).length = R at *
 have x2 := hK w2 (e1.trans e2)
 have hd : decide (sortLn A l = 0) = decide (R.length = 0 ∨ (R.length = 1 ∧ ∃ r, R[0]? = some r ∧ r.s = 0)) := by
  rw [decide_eq_decide, pl, hsl]
  constructor
  ·intro h
   split at h
   ·rename_i h'; exact h'
   ·cases h
  ·intro h; rw [if_pos h]
 rw [hd] at x2
 refine sif_r (fun g1 => ?_) (fun g1 => ?_)
 ·simp only [beq_iff_eq] at g1
  rw [decide_eq_true (.inl (by omega))] at x2; exact x2
 simp only [beq_eq_false_iff_ne, ne_eq] at g1
 refine sif_r (fun g2 => ?_) (fun g2 => ?_)
 ·simp only [beq_iff_eq] at g2
  obtain ⟨q, hq⟩ : ∃ q, R[0]? = some q := ⟨_, List.getElem?_eq_getElem (by omega)⟩
  refine rd_sort (i := 0) o2.in hq fun p => ?_
  have : decide (R.length = 0 ∨ (R.length = 1 ∧ ∃ r, R[0]? = some r ∧ r.s = 0)) = ((q.s : Int) == 0) := by
   rw [Bool.eq_iff_iff]
   simp only [decide_eq_true_eq, beq_iff_eq]
   constructor
   ·rintro (h | ⟨_, r, hr, hz⟩)
    ·omega
    ·rw [hq] at hr; cases hr; omega
   ·intro h
    exact .inr ⟨by omega, q, hq, by omega⟩
  rw [this] at x2; exact x2
 ·simp only [beq_eq_false_iff_ne, ne_eq] at g2
  rw [decide_eq_false (by rintro (h | h) <;> omega)] at x2; exact x2
set_option maxHeartbeats 1000000 in
theorem rpassages_call (hs : SlIn w s t 1 (iv A)) (hl : A.length < 2 ^ 39) {K : Sl → World → Prop}
  (hK : ∀ s' w', RwOwn w' w.heap.size s' (fromL (lnAll A)) (nextL (lnAll A)) (rowsTo (sortsP A) (lnN A)) → Ext w w' → K s' w') :
  callT Tryz.prog 140 #[.slice s.a s.len s.cap] (.one (.one .sl)) K w := by
 refine F140_calls ?_
 unfold F140
 refine rall_call hs hl fun r6 w1 o1 e1 => ?_
 dsimp only
 have hbr : brs A ≤ A.length := by rw [brs_nb]; exact nb_le _ _
 have hN : lnN A ≤ brs A + 1 := by unfold lnN; split <;> omega
 have hF := lnF_len A
 refine join_r (fun x W => RwOwn W w1.heap.size x.1 (fromL (lnAll A)) (nextL (lnAll A)) (rowsTo (sortsP A) (lnN A)) ∧ Ext w1 W) ?_ (fun x W h => hK _ _ (h.1.mono e1.size) (e1.trans h.2))
 refine sloop_r (fun x W => ∃ i : Nat, i ≤ lnN A ∧ x.2 = ((i : Int), ()) ∧ RwOwn W w1.heap.size x.1 (fromL (lnAll A)) (nextL (lnAll A)) (rowsTo (sortsP A) i) ∧ Ext w1 W) (fun x _ => ((lnN A : Int) - x.2.1).toNat) ⟨0, Nat.zero_le _, rfl, SlOwn.nil _ _ _ _, Ext.refl w1⟩ ?_
 rintro ⟨r, _⟩ W ⟨i, hi, rfl, hr, eW⟩
 dsimp only at hr ⊢
 have ew : IntKind.wrap .i64 ((i : Int) + 1) = ((i + 1 : Nat) : Int) := by rw [wrap64 (by omega) (by omega)]; omega
 rw [ew]
 refine sif_r (fun hc => ?_) (fun hc => ?_)
 ·simp only [decide_eq_true_eq] at hc
  obtain ⟨l, h1, h2⟩ := lnF_get (A := A) (i := i) (by omega)
  obtain ⟨l', h3, h4⟩ := lnAll_lt (A := A) (j := i) (by omega)
  rw [h1] at h3; cases h3
  have hrow : (rowsTo (sortsP A) i).length < 2 ^ 40 := by have := rowsTo_len (sortsP A) i; omega
  obtain ⟨sv, hsv⟩ : ∃ sv, sv = sortLn A l := ⟨_, rfl⟩
  have hsort : (sortsP A).getD i 0 = sv := by
   refine getD_of ?_
   unfold sortsP
   rw [List.getElem?_map, h4, hsv]; rfl
  have hs1 : sv = 0 ∨ sv = 1 := by rw [hsv]; unfold sortLn; split <;> simp
  have rdl : ∀ {V : World} {K : Addr → Cells.T c174 → World → Prop}, Ext w1 V → (∀ q, K q (lnR l) V) → ix r6.a r6.len (i : Int) (fun q => lds c174 (q.add (scaled (Int.toNat (i : Int)) 4)) (K q)) V := fun e hk => ix_lds (cs := c174) (xs := (lnF A).map lnR) (o1.ext e).in (by decide) (by omega) (x := lnR l) (by rw [Int.toNat_natCast, List.getElem?_map, h2]; rfl) hk
  have rdn : ∀ {V : World} {K : Addr → Int → World → Prop}, Ext w1 V → (∀ q, K q (l.next : Int) V) → ix r6.a r6.len (i : Int) (fun q => ld (.int .i64) ((q.add (scaled (Int.toNat (i : Int)) 4)).add 2) (K q)) V := fun e hk => ix_ldf (c := .int .i64) (cs := c174) (xs := (lnF A).map lnR) (j := 2) (o1.ext e).in (by omega) (x := lnR l) (y := (l.next : Int)) (by rw [Int.toNat_natCast, List.getElem?_map, h2]; rfl) rfl hk
  have rdf : ∀ {V : World} {K : Addr → Int → World → Prop}, Ext w1 V → (∀ q, K q (l.from_ : Int) V) → ix r6.a r6.len (i : Int) (fun q => ld (.int .i64) (q.add (scaled (Int.toNat (i : Int)) 4)) (K q)) V := fun e hk => ix_ldf0 (c := .int .i64) (cs := c174) (xs := (lnF A).map lnR) (o1.ext e).in (by omega) (x := lnR l) (y := (l.from_ : Int)) (by rw [Int.toNat_natCast, List.getElem?_map, h2]; rfl) rfl hk
  refine join_r (fun x W' => RwOwn W' w1.heap.size x.1 (fromL (lnAll A)) (nextL (lnAll A)) (rowsTo (sortsP A) (i + 1)) ∧ Ext w1 W') ?_ (fun x W' h => ⟨⟨i + 1, by omega, rfl, h.1, h.2⟩, by omega⟩)
  rw [rowsTo, hsort]
  refine join_r (fun x W' => x = ((sv : Int), ()) ∧ Ext W W') ?_ ?_
  ·refine rdl eW fun q => rbare_call (hs.ext (e1.trans eW)) hl h1 fun w2 e2 => ?_
   rw [← hsv]
   refine sif_r (fun g => ⟨?_, e2⟩) (fun g => ⟨?_, e2⟩)
   ·simp only [decide_eq_true_eq] at g; rw [g]; rfl
   ·simp only [decide_eq_false_iff_not] at g
    rw [show sv = 1 by omega]; rfl
  rintro _ W1 ⟨rfl, eW1⟩
  have hr1 := hr.ext eW1
  have x1 := eW.trans eW1
  dsimp only
  obtain ⟨J, hJ⟩ : ∃ J : Bool × Unit → World → Prop, J = fun x W' => ((x = (true, ()) ∧ ∃ q, (rowsTo (sortsP A) i).getLast? = some q ∧ q.s = sv) ∨ (x = (false, ()) ∧ ∀ q, (rowsTo (sortsP A) i).getLast? = some q → q.s ≠ sv)) ∧ W1 = W' := ⟨_, rfl⟩
  refine join_r J ?_ ?_
  ·exact last_sort (J := J) hr1 hrow (fun q h1 h2 => by rw [hJ]; exact ⟨.inl ⟨rfl, q, h1, h2⟩, rfl⟩) (fun h => by rw [hJ]; exact ⟨.inr ⟨rfl, h⟩, rfl⟩)
  rw [hJ]
  have hto : nextL (lnAll A) ⟨i, i + 1, sv⟩ = l.next := by unfold nextL; rw [Nat.add_sub_cancel, h4]; rfl
  have hfrom : fromL (lnAll A) ⟨i, i + 1, sv⟩ = l.from_ := by unfold fromL; rw [h4]; rfl
  rintro _ _ ⟨⟨rfl, q, hq, hqs⟩ | ⟨rfl, hq⟩, rfl⟩
  ·refine sif_true (rdn x1 fun _ => ?_)
   rw [← hqs]
   refine add_set hr1 hq (by unfold nextL; rw [Nat.add_sub_cancel, h4]; rfl) (by unfold fromL; rfl) hrow fun w5 o5 u5 => ⟨o5, x1.step u5 fun k hk => hr.blk_ge hk⟩
  ·refine sif_false (drew_r fun w4 e4 _ => rdf (x1.trans e4) fun _ => rdn (x1.trans e4) fun _ => ?_)
   refine newO_r fun b8 w5 e5 n5 _ _ => ?_
   refine add_push (j := i) (s := sv) ((hr1.ext e4).ext e5) (by rw [hto, hfrom]; exact n5) hq hrow (by have := x1.size; have := e4.size; have := e5.size; omega) fun r' w6 o6 u6 => ⟨o6, ((x1.trans e4).trans e5).step u6 fun k hk => hr.blk_ge hk⟩
 ·simp only [decide_eq_false_iff_not] at hc
  have : i = lnN A := by omega
  subst this
  exact ⟨hr, eW⟩
set_option maxHeartbeats 1000000 in
theorem rparas_call {at_ kind count : Int} (hs : SlIn w s t 1 (iv A)) (hl : A.length < 2 ^ 39) (hcn : count < 2 ^ 63) {K : Cells.T c149 × Int × Unit → World → Prop}
  (hK : ∀ w', Ext w w' → K (spR (parasP A at_ kind count).1.1 (parasP A at_ kind count).1.2.1 (parasP A at_ kind count).1.2.2, (parasP A at_ kind count).2, ()) w') :
  callT Tryz.prog 108 #[.slice s.a s.len s.cap, .int .i64 at_, .int .i64 kind, .int .i64 count] (.tup [(.agg c149), (.one (.int .i64))]) K w := by
 refine F108_calls ?_
 unfold F108
 have hlen : A.length = s.len := by have := hs.len1; rwa [List.length_map] at this
 have hchk := checked_is (n := A.length) (at_ := at_) (kind := kind) (count := count) (lo := 69) (hi := 70)
 refine (St.start w).newO fun b1 w1 S1 e1 => ?_
 refine or3_join ?_
 refine sif_r (fun h1 => ?_) (fun h1 => ?_)
 ·have h1 : (decide (kind < 69) || decide (kind > 70) || decide (count < 0)) = true := h1
  rw [if_pos h1] at hchk
  refine none_sp 0 S1 rfl rfl _ _ _ fun w' x => ?_
  have := hK w' x
  unfold parasP at this
  rw [hchk, if_pos (by decide)] at this
  exact this
 have h1 : (decide (kind < 69) || decide (kind > 70) || decide (count < 0)) = false := h1
 rw [if_neg (by rw [h1]; decide)] at hchk
 refine or2_join ?_
 refine sif_r (fun h2 => ?_) (fun h2 => ?_)
 ·have h2 : (decide (at_ < 0) || decide (at_ > (A.length : Int))) = true := by rw [hlen]; exact h2
  rw [if_pos h2] at hchk
  refine none_sp 0 S1 rfl rfl _ _ _ fun w' x => ?_
  have := hK w' x
  unfold parasP at this
  rw [hchk, if_pos (by decide)] at this
  exact this
 have h2 : (decide (at_ < 0) || decide (at_ > (A.length : Int))) = false := by rw [hlen]; exact h2
 rw [if_neg (by rw [h2]; decide)] at hchk
 have hat : ¬ (at_ < 0 ∨ (A.length : Int) < at_) := by simpa using h2
 obtain ⟨n, rfl⟩ : ∃ n : Nat, at_ = (n : Int) := ⟨at_.toNat, by omega⟩
 have hnl : n ≤ A.length := by omega
 have hcount : 0 ≤ count := by simp at h1; omega
 have hkind : kind = 69 ∨ kind = 70 := by simp at h1; omega
 unfold parasP at hK
 rw [hchk, if_neg (by decide), Int.toNat_natCast] at hK
 have hbr : brs A ≤ A.length := by rw [brs_nb]; exact nb_le _ _
 have hN : lnN A ≤ brs A + 1 := by unfold lnN; split <;> omega
 refine r6of_call (hs.ext e1) hl hnl fun w2 e2 => r6count_call (hs.ext (e1.trans e2)) hl fun w3 e3 => ?_
 have S3 := (S1.ext e2).ext e3
 refine sif_r (fun h3 => ?_) (fun h3 => ?_)
 ·simp only [decide_eq_true_eq, ge_iff_le] at h3
  rw [if_pos (by omega)] at hK
  exact none_sp 0 S3 rfl rfl _ _ _ fun w9 x9 => hK w9 x9
 simp only [decide_eq_false_iff_not, ge_iff_le] at h3
 rw [if_neg (by omega)] at hK
 refine rpassages_call (hs.ext S3.upd) hl fun r w4 o4 e4 => ?_
 have S4 := S3.ext e4
 have hSl : (sortsP A).length = lnN A := (sortsP_len A).1
 obtain ⟨R, hR⟩ : ∃ R, R = rowsTo (sortsP A) (lnN A) := ⟨_, rfl⟩
 have ok : RowsOk (sortsP A) (sortsP A).length R := by rw [hR, hSl]; exact rowsTo_ok _ _
 have hRl : R.length ≤ lnN A := by rw [hR]; exact rowsTo_len _ _
 rw [← hR] at o4
 have hrl := RwOwn.len o4
 have h0 : R.length ≠ 0 := fun hc => by have := ok.none_ (List.length_eq_zero_iff.1 hc); omega
 refine rwhich_call o4.in (by omega) (by omega) fun m q hq hlo hhi => ?_
 have hm := (List.getElem?_eq_some_iff.1 hq).1
 have hwh := which_line ok hnl (by omega) hq hlo hhi
 have htp := times_pos count
 have htl := times_lt hcn
 rw [rows_pick ok hq hwh.1 hwh.2 htp] at hK
 refine rtimes_call hcount (rinner_call o4.in (by omega) hm ⟨by omega, htl⟩ ?_)
 obtain ⟨out, hout⟩ : ∃ out : Bool, out = decide (kind = 70) := ⟨_, rfl⟩
 rw [← hout] at hK
 refine join_r (fun x W => (match (if out then aroundR R m (times count) else if times count ≤ R.length - m then some (m, m + times count - 1) else none) with | some y => x = ((y.1 : Int), (y.2 : Int), ()) | none => x.2.1 = -1) ∧ w4 = W) ?_ ?_
 ·refine sif_r (fun h4 => ?_) (fun h4 => ?_)
  ·simp only [beq_iff_eq] at h4
   have h4 : out = true := by rw [hout]; simp [h4]
   refine rtimes_call hcount (raround_call o4.in (by omega) hm ⟨htp, by omega⟩ ?_)
   rw [if_pos h4]
   cases aroundR R m (times count) with
   | none => exact ⟨rfl, rfl⟩
   | some y => exact ⟨rfl, rfl⟩
  ·simp only [beq_eq_false_iff_ne, ne_eq] at h4
   have h4 : out = false := by rw [hout]; simp [h4]
   rw [if_neg (by rw [h4]; decide)]
   by_cases hc : times count ≤ R.length - m
   ·rw [if_pos hc, if_pos (by omega)]
    refine ⟨?_, rfl⟩
    dsimp only
    rw [show ((m + times count - 1 : Nat) : Int) = (m : Int) + ((times count : Nat) : Int) - 1 by omega]
   ·rw [if_neg hc, if_neg (by omega)]
    exact ⟨rfl, rfl⟩
 rintro ⟨xf, xt, _⟩ _ ⟨hx, rfl⟩
 cases hp : (if out then aroundR R m (times count) else if times count ≤ R.length - m then some (m, m + times count - 1) else none) with
 | none =>
  rw [hp] at hx hK
  dsimp only at hx
  subst hx
  refine sif_true (none_sp 0 S4 rfl rfl _ _ _ fun w' x => hK w' x)
 | some y =>
  obtain ⟨a, z⟩ := y
  rw [hp] at hx hK
  dsimp only at hx
  cases hx
  have hlt : a < R.length ∧ z < R.length := by
   by_cases h4 : out = true
   ·rw [if_pos h4] at hp; exact aroundR_lt hm hp
   ·rw [if_neg h4] at hp
    split at hp
    ·cases hp; omega
    ·cases hp
  obtain ⟨x, hx⟩ : ∃ x, R[a]? = some x := ⟨_, List.getElem?_eq_getElem hlt.1⟩
  obtain ⟨y, hy⟩ : ∃ x, R[z]? = some x := ⟨_, List.getElem?_eq_getElem hlt.2⟩
  rw [Option.bind_some, spanR_some hx hy] at hK
  refine sif_r (fun hc => ?_) (fun _ => ?_)
  ·simp only [decide_eq_true_eq] at hc; omega
  refine S4.drew fun w5 S5 e5 _ => rd_from (o4.ext e5).in hx fun q1 => rd_to (o4.ext e5).in hy fun q2 => ?_
  exact none_sp 0 S5 rfl rfl _ _ _ fun w9 x9 => hK w9 x9
end
end Go.Proofs.YtabcpghhfeplaaaGreat
namespace Go.Proofs.YtabcpghhfeplaaaGreat
open Go Go.Vx Cdc Gly Clu Rgl Lns Trx Obx
section
variable {w w' W : World} {S : Nat → Prop} {p : Nat} {e : Enc} {lim na : Nat} {O : Nat → Prop} {M : Parts} {s : Sl} {A : List Int}
theorem told_call {x y z f : Int} {K : Bool → World → Prop} (hK : ∀ w', Ext w w' → K true w') : callT Tryz.prog 105 #[.agg (Cells.vals c34 (spT (x, y, z))).toArray, .int .i64 f, .agg (Cells.vals c149 (spR x y z)).toArray, .int .i64 f] (.one (.one .bool)) K w := by
 refine F105_calls (a0 := spT (x, y, z)) (a2 := spR x y z) ?_
 unfold F105
 have eq : ∀ {a : Int} {X Y : World → Prop} {V : World}, X V → sif (a == a) X Y V := fun h => sif_r (fun _ => h) (fun hc => by simp at hc)
 refine (St.start w).newO fun b1 w1 S1 e1 => S1.newO fun b2 w2 S2 e2 => ?_
 refine S2.ld 1 rfl (x := x) rfl (S2.ld 0 rfl (x := x) rfl (eq ?_))
 refine S2.ld 1 rfl (x := y) rfl (S2.ld 0 rfl (x := y) rfl (eq ?_))
 refine S2.ld 1 rfl (x := z) rfl (S2.ld 0 rfl (x := z) rfl (eq ?_))
 rw [show (f == f) = true by simp]
 exact hK w2 S2.upd
abbrev spanR9 (s : Int × Int × Int) : Obj := .cells #[.int .i64 s.1, .int .i64 s.2.1, .int .i64 s.2.2] 149 (0, 0)
abbrev mvO (k c a : Int) : Obj := .cells #[.int .i64 k, .int .i64 c, .int .i64 a] 39 (0, 0)
theorem pside {f : FuncId} {X : (Int × Int × Int) × Int} {b1 b5 bb : Nat} {o : Cells.T c43} {w0 : World} {J : Addr × Int × Unit → World → Prop} (S1 : St (fun _ => False) w0 W [(b5, mvO o.2.2.2.1 o.2.2.2.2.1 o.2.2.2.2.2.1), (b1, opO o)]) (hb : w0.heap[bb]? = some (bothO p s))
  (call : ∀ {V : World} {K : Cells.T c34 × Int × Unit → World → Prop}, Ext w0 V → (∀ V', Ext V V' → K (spT X.1, X.2, ()) V') → callT Tryz.prog f #[.pointer (some (at0 p)), .int .i64 o.2.2.1, .agg (Cells.vals c39 (mvT o.2.2.2.1 o.2.2.2.2.1 o.2.2.2.2.2.1)).toArray] (.tup [(.agg c34), (.one (.int .i64))]) K V)
  (hJ : ∀ b W', St (fun _ => False) w0 W' [(b, spanO X.1), (b5, mvO o.2.2.2.1 o.2.2.2.2.1 o.2.2.2.2.2.1), (b1, opO o)] → J (at0 b, X.2, ()) W') :
  (drew <|
   nn (some (at0 bb)) fun p9 =>
   ld (.ptr) p9 fun (x10 : Option Addr) =>
   ld (.int .i64) (⟨b1, 2, none⟩ : Addr) fun (x11 : Int) =>
   lds c39 (at0 b5) fun (x12 : (Int × Int × Int × Unit)) =>
   both (
    newO (.cells #[(.int .i64 (0 : Int)), (.int .i64 (0 : Int)), (.int .i64 (0 : Int))] 34) fun b13 =>
    keep (fun w => cellsAt w (at0 b5) 0 (Cells.vals c39 x12)) <|
    keep (fun w => w.cell? (⟨b1, 2, none⟩ : Addr) = some (Cell.val (.int .i64) x11)) <|
    keep (fun w => w.cell? p9 = some (Cell.val (.ptr) x10)) <|
    callT Tryz.prog f #[(.pointer x10), (.int .i64 x11), (.agg (Cells.vals c39 x12).toArray)] (.tup [(.agg c34), (.one (.int .i64))]) fun (x14 : ((Int × Int × Int × Unit) × Int × Unit)) =>
    aggSt (at0 b13) (.agg (Cells.vals c34 x14.1).toArray) 3 <|
    J ((at0 b13), x14.2.1, ())) <|
   callT Tryz.prog f #[(.pointer x10), (.int .i64 x11), (.agg (Cells.vals c39 x12).toArray)] (.tup [(.agg c34), (.one (.int .i64))]) fun (x15 : ((Int × Int × Int × Unit) × Int × Unit)) =>
   both (
    newO (.cells #[(.int .i64 (0 : Int)), (.int .i64 (0 : Int)), (.int .i64 (0 : Int))] 34) fun b16 =>
    keep (fun w => cellsAt w (at0 b5) 0 (Cells.vals c39 x12)) <|
    keep (fun w => w.cell? (⟨b1, 2, none⟩ : Addr) = some (Cell.val (.int .i64) x11)) <|
    keep (fun w => w.cell? p9 = some (Cell.val (.ptr) x10)) <|
    aggSt (at0 b16) (.agg (Cells.vals c34 x15.1).toArray) 3 <|
    J ((at0 b16), x15.2.1, ())) <|
   nothing) W := by
 have kp : ∀ {V : World} {ls : List (Nat × Obj)} {K : World → Prop}, St (fun _ => False) w0 V ls → K V → keep (fun w => w.cell? (at0 bb) = some (Cell.val (.ptr) (some (at0 p)))) K V := fun S h => keep_r (cell_of (S.upd.ext_get hb) rfl) h
 refine S1.drew fun w2 S2 e2 _ => nn_some (ld_r (x := some (at0 p)) (S2.upd.ext_get hb) rfl (S2.ld 1 rfl (x := o.2.2.1) rfl (S2.lds 0 (mvT o.2.2.2.1 o.2.2.2.2.1 o.2.2.2.2.2.1) rfl ⟨?_, ?_⟩)))
 ·refine S2.newO fun b w3 S3 e3 => S3.keeps 1 (x := mvT o.2.2.2.1 o.2.2.2.2.1 o.2.2.2.2.2.1) rfl (S3.keep 2 rfl (v := .int .i64 o.2.2.1) rfl (kp S3 ?_))
  exact call S3.upd fun w4 e4 => (S3.ext e4).aggSt 0 rfl rfl rfl rfl fun w5 S5 u5 => hJ b w5 S5
 ·refine call S2.upd fun w4 e4 => ⟨?_, trivial⟩
  refine (S2.ext e4).newO fun b w3 S3 e3 => S3.keeps 1 (x := mvT o.2.2.2.1 o.2.2.2.2.1 o.2.2.2.2.2.1) rfl (S3.keep 2 rfl (v := .int .i64 o.2.2.1) rfl (kp S3 ?_))
  exact S3.aggSt 0 rfl rfl rfl rfl fun w5 S5 u5 => hJ b w5 S5
theorem dside3 {f : FuncId} {X : (Int × Int × Int) × Int} {b1 b5 bb bs : Nat} {o : Cells.T c43} {y : Int × Int × Int} {w0 : World} {J : Addr × Int × Unit → World → Prop} (S1 : St (fun _ => False) w0 W [(bs, spanO y), (b5, mvO o.2.2.2.1 o.2.2.2.2.1 o.2.2.2.2.2.1), (b1, opO o)]) (hb : w0.heap[bb]? = some (bothO p s))
  (call : ∀ {V : World} {K : Cells.T c149 × Int × Unit → World → Prop}, Ext w0 V → (∀ V', Ext V V' → K (spR X.1.1 X.1.2.1 X.1.2.2, X.2, ()) V') → callT Tryz.prog f #[.slice s.a s.len s.cap, .int .i64 o.2.2.1, .int .i64 o.2.2.2.1, .int .i64 o.2.2.2.2.1] (.tup [(.agg c149), (.one (.int .i64))]) K V)
  (hJ : ∀ b W', St (fun _ => False) w0 W' [(b, spanR9 X.1), (bs, spanO y), (b5, mvO o.2.2.2.1 o.2.2.2.2.1 o.2.2.2.2.2.1), (b1, opO o)] → J (at0 b, X.2, ()) W') :
  (drew <|
   nn (some (at0 bb)) fun p19 =>
   ld (.sl) (p19.add 1) fun (x20 : Sl) =>
   ld (.int .i64) (⟨b1, 2, none⟩ : Addr) fun (x21 : Int) =>
   ld (.int .i64) (⟨b1, 3, none⟩ : Addr) fun (x22 : Int) =>
   ld (.int .i64) (⟨b1, 4, none⟩ : Addr) fun (x23 : Int) =>
   both (
    newO (.cells #[(.int .i64 (0 : Int)), (.int .i64 (0 : Int)), (.int .i64 (0 : Int))] 149) fun b24 =>
    keep (fun w => w.cell? (⟨b1, 4, none⟩ : Addr) = some (Cell.val (.int .i64) x23)) <|
    keep (fun w => w.cell? (⟨b1, 3, none⟩ : Addr) = some (Cell.val (.int .i64) x22)) <|
    keep (fun w => w.cell? (⟨b1, 2, none⟩ : Addr) = some (Cell.val (.int .i64) x21)) <|
    keep (fun w => w.cell? (p19.add 1) = some (Cell.val (.sl) x20)) <|
    callT Tryz.prog f #[(.slice x20.a x20.len x20.cap), (.int .i64 x21), (.int .i64 x22), (.int .i64 x23)] (.tup [(.agg c149), (.one (.int .i64))]) fun (x25 : ((Int × Int × Int × Unit) × Int × Unit)) =>
    aggSt (at0 b24) (.agg (Cells.vals c149 x25.1).toArray) 3 <|
    J ((at0 b24), x25.2.1, ())) <|
   callT Tryz.prog f #[(.slice x20.a x20.len x20.cap), (.int .i64 x21), (.int .i64 x22), (.int .i64 x23)] (.tup [(.agg c149), (.one (.int .i64))]) fun (x26 : ((Int × Int × Int × Unit) × Int × Unit)) =>
   both (
    newO (.cells #[(.int .i64 (0 : Int)), (.int .i64 (0 : Int)), (.int .i64 (0 : Int))] 149) fun b27 =>
    keep (fun w => w.cell? (⟨b1, 4, none⟩ : Addr) = some (Cell.val (.int .i64) x23)) <|
    keep (fun w => w.cell? (⟨b1, 3, none⟩ : Addr) = some (Cell.val (.int .i64) x22)) <|
    keep (fun w => w.cell? (⟨b1, 2, none⟩ : Addr) = some (Cell.val (.int .i64) x21)) <|
    keep (fun w => w.cell? (p19.add 1) = some (Cell.val (.sl) x20)) <|
    aggSt (at0 b27) (.agg (Cells.vals c149 x26.1).toArray) 3 <|
    J ((at0 b27), x26.2.1, ())) <|
   nothing) W := by
 have kp : ∀ {V : World} {ls : List (Nat × Obj)} {K : World → Prop}, St (fun _ => False) w0 V ls → K V → keep (fun w => w.cell? ((at0 bb).add 1) = some (Cell.val (.sl) s)) K V := fun S h => keep_r (by rw [addr_add]; exact cell_of (S.upd.ext_get hb) rfl) h
 refine S1.drew fun w2 S2 e2 _ => nn_some ?_
 rw [addr_add]
 refine ld_r (x := s) (S2.upd.ext_get hb) rfl (S2.ld 2 rfl (x := o.2.2.1) rfl (S2.ld 2 rfl (x := o.2.2.2.1) rfl (S2.ld 2 rfl (x := o.2.2.2.2.1) rfl (⟨?_, ?_⟩))))
 ·refine S2.newO fun b w3 S3 e3 => S3.keep 3 rfl (v := .int .i64 o.2.2.2.2.1) rfl (S3.keep 3 rfl (v := .int .i64 o.2.2.2.1) rfl (S3.keep 3 rfl (v := .int .i64 o.2.2.1) rfl (kp S3 ?_)))
  exact call S3.upd fun w4 e4 => (S3.ext e4).aggSt 0 rfl rfl rfl rfl fun w5 S5 u5 => hJ b w5 S5
 ·refine call S2.upd fun w4 e4 => ⟨?_, trivial⟩
  refine (S2.ext e4).newO fun b w3 S3 e3 => S3.keep 3 rfl (v := .int .i64 o.2.2.2.2.1) rfl (S3.keep 3 rfl (v := .int .i64 o.2.2.2.1) rfl (S3.keep 3 rfl (v := .int .i64 o.2.2.1) rfl (kp S3 ?_)))
  exact S3.aggSt 0 rfl rfl rfl rfl fun w5 S5 u5 => hJ b w5 S5
set_option maxHeartbeats 1000000 in
theorem asked4_call {bb : Nat} {o : Cells.T c43} (h : Txt w p e lim na O M) (hs : SlIn w s 3 1 (iv (atoms (aOf e M)))) (hb : w.heap[bb]? = some (bothO p s)) (hc : o.2.2.2.2.1 < 2 ^ 63) (hk : o.2.1 = 4) {K : Bool → World → Prop} (hK : ∀ w', Ext w w' → K true w') :
  callT Tryz.prog 76 #[.pointer (some (at0 bb)), .agg (Cells.vals c43 o).toArray] (.one (.one .bool)) K w := by
 refine F76_calls ?_
 unfold F76
 have few := h.few; have lims := h.lims
 have hal := hal e M
 have hl : (atoms (aOf e M)).length < 2 ^ 39 := by omega
 refine (St.start w).newO fun b1 w1 S1 e1 => ?_
 have S1 : St (fun _ => False) w w1 [(b1, opO o)] := S1
 refine S1.ld 0 rfl (x := o.2.2.2.1) rfl (S1.ld 0 rfl (x := o.2.2.2.2.1) rfl (S1.ld 0 rfl (x := o.2.2.2.2.2.1) rfl (S1.newO fun b5 w2 S2 e2 => S2.aggSt 0 rfl rfl rfl rfl fun w3 S3 u3 => ?_)))
 have S3 : St (fun _ => False) w w3 [(b5, mvO o.2.2.2.1 o.2.2.2.2.1 o.2.2.2.2.2.1), (b1, opO o)] := S3
 refine S3.ld 1 rfl (x := o.2.1) rfl ?_
 have fin : ∀ {V : World} {b b' : Nat} {X : (Int × Int × Int) × Int}, St (fun _ => False) w V [(b', spanR9 X.1), (b, spanO X.1), (b5, mvO o.2.2.2.1 o.2.2.2.2.1 o.2.2.2.2.2.1), (b1, opO o)] →
   lds c34 (at0 b) (fun x28 => lds c149 (at0 b') fun x29 => callT Tryz.prog 105 #[(.agg (Cells.vals c34 x28).toArray), (.int .i64 X.2), (.agg (Cells.vals c149 x29).toArray), (.int .i64 X.2)] (.one (.one .bool)) fun (x30 : Bool) => K x30) V := fun S =>
  S.lds 1 (spT _) rfl (S.lds 0 (spR _ _ _) rfl (told_call fun w9 e9 => hK w9 (S.ext e9).upd))
 refine sif_r (fun g => by simp only [beq_iff_eq] at g; exact absurd (g.symm.trans hk) (by decide)) (fun _ => ?_)
 refine sif_r (fun g => by simp only [beq_iff_eq] at g; exact absurd (g.symm.trans hk) (by decide)) (fun _ => ?_)
 refine sif_r (fun g => by simp only [beq_iff_eq] at g; exact absurd (g.symm.trans hk) (by decide)) (fun _ => ?_)
 refine sif_r (fun _ => ?_) (fun g => by simp only [beq_eq_false_iff_ne, ne_eq] at g; exact absurd hk g)
 obtain ⟨X, hX⟩ : ∃ X, X = parasP (atoms (aOf e M)) o.2.2.1 o.2.2.2.1 o.2.2.2.2.1 := ⟨_, rfl⟩
 obtain ⟨J, hJ⟩ : ∃ J : Addr × Int × Unit → World → Prop, J = fun x W => ∃ b, x = (at0 b, X.2, ()) ∧ St (fun _ => False) w W [(b, spanO X.1), (b5, mvO o.2.2.2.1 o.2.2.2.2.1 o.2.2.2.2.2.1), (b1, opO o)] := ⟨_, rfl⟩
 refine join_r J ?_ ?_
 ·refine pside (f := 33) (X := X) (o := o) (J := J) S3 hb (fun x hk => ?_) (fun b W' S => by rw [hJ]; exact ⟨b, rfl, S⟩)
  rw [hX] at hk
  exact paras_call (kind := o.2.2.2.1) (arg := o.2.2.2.2.2.1) (h.ext x) hc hk
 rw [hJ]
 rintro _ w4 ⟨b, rfl, S4⟩
 obtain ⟨L, hL⟩ : ∃ L : Addr × Int × Unit → World → Prop, L = fun x W => ∃ b', x = (at0 b', X.2, ()) ∧ St (fun _ => False) w W [(b', spanR9 X.1), (b, spanO X.1), (b5, mvO o.2.2.2.1 o.2.2.2.2.1 o.2.2.2.2.2.1), (b1, opO o)] := ⟨_, rfl⟩
 refine join_r L ?_ ?_
 ·refine dside3 (f := 108) (X := X) (o := o) (J := L) S4 hb (fun x hk => ?_) (fun b W' S => by rw [hL]; exact ⟨b, rfl, S⟩)
  rw [hX] at hk
  exact rparas_call (hs.ext x) hl hc hk
 rw [hL]
 rintro _ w5 ⟨b', rfl, S5⟩
 exact fin S5
structure Asks (lo hi : Int) : Prop where
 fix : ∀ {w : World} {K : Bool → World → Prop}, (∀ w', Ext w w' → K true w') → callT Tryz.prog 17 #[.int .i64 lo] (.one (.one .bool)) K w
 ask : ∀ {w : World} {p : Nat} {e : Enc} {lim na : Nat} {O : Nat → Prop} {M : Parts} {s : Sl} {bb : Nat} {o : Cells.T c43}, Txt w p e lim na O M → SlIn w s 3 1 (iv (atoms (aOf e M))) → w.heap[bb]? = some (bothO p s) → o.2.2.2.2.1 < 2 ^ 63 → lo ≤ o.2.1 ∧ o.2.1 ≤ hi → ∀ {K : Bool → World → Prop}, (∀ w', Ext w w' → K true w') →
  callT Tryz.prog 76 #[.pointer (some (at0 bb)), .agg (Cells.vals c43 o).toArray] (.one (.one .bool)) K w
theorem asks4 : Asks 4 4 := ⟨fixed4_call, fun h hs hb hc hk => asked4_call h hs hb hc (Int.le_antisymm hk.2 hk.1)⟩
end
section
variable {w w' W : World} {p b N na : Nat} {e : Enc} {O : Nat → Prop} {M : Parts} {s : Sl} {A : List Int}
structure Hs (w : World) (N b p : Nat) (e : Enc) (na : Nat) (O : Nat → Prop) (M : Parts) (s : Sl) : Prop where
 txt : Txt w p e 65536 na O M
 lst : SlOwn w N s 3 1 (iv (atoms (aOf e M)))
 box : w.heap[b]? = some (bothO p s)
 new : ∀ k, O k → N ≤ k
 newb : N ≤ b
 nob : ¬ O b
 nol : ∀ k, s.blk k → ¬ O k
theorem Hs.lt (h : Hs w N b p e na O M s) : ∀ k, (O k ∨ s.blk k ∨ k = b) → k < w.heap.size := fun k hk => by
 rcases hk with hk | hk | rfl
 ·exact h.txt.own k hk
 ·exact h.lst.in.blk_lt hk
 ·exact lt_of_heap h.box
theorem Hs.upd {S : Nat → Prop} (h : Hs w N b p e na O M s) (u : Upd S w w') (hS : ∀ k, (O k ∨ s.blk k ∨ k = b) → ¬ S k) (hN : NoTy w S 144) : Hs w' N b p e na O M s :=
 ⟨h.txt.upd u (fun k hk => hS k (.inl hk)) hN, h.lst.upd u fun k _ hk => hS k (.inr (.inl hk)), u.get h.box (hS b (.inr (.inr rfl))), h.new, h.newb, h.nob, h.nol⟩
theorem Hs.ext (h : Hs w N b p e na O M s) (x : Ext w w') : Hs w' N b p e na O M s := h.upd x (fun _ _ => id) (no_ext _ _)
theorem Txt.more (h : Txt w p e 65536 na O M) {na' : Nat} (hn : na ≤ na') : Txt w p e 65536 na' O M := by
 obtain ⟨t, a, ab, h1, h2, h3, h4, h5, h6, h7, h8⟩ := h.ex
 exact ⟨⟨t, a, ab, h1, h2, h3, h4, h5, h6, h7, Nat.le_trans h8 hn⟩, h.lims, h.sz, h.op, h.own⟩
theorem spliced_call {f t : Nat} {s sp : Sl} {put : List Int} (hs : SlIn w s 3 1 (iv A)) (hp : SlIn w sp 3 1 (iv put)) (hA : A.length < 2 ^ 37) (hpl : put.length < 2 ^ 37) (hf : f ≤ A.length) (ht : t ≤ A.length) {K : Sl → World → Prop} (hK : ∀ r w', SlOwn w' w.heap.size r 3 1 (iv (A.take f ++ put ++ A.drop t)) → Ext w w' → K r w') :
  callT Tryz.prog 103 #[.slice s.a s.len s.cap, .int .i64 (f : Int), .int .i64 (t : Int), .slice sp.a sp.len sp.cap] (.one (.one .sl)) K w := by
 refine F103_calls ?_
 unfold F103
 have hlen : A.length = s.len := by have := hs.len1; rwa [List.length_map] at this
 have hcap := hs.le
 refine slc_r hs (by omega) (by omega) (by omega) (by omega) (by omega) fun x hx _ _ _ => ?_
 have hx : SlIn w x 3 1 (iv (A.take f)) := by
  rw [Nat.mul_one, Nat.mul_one, Int.toNat_natCast] at hx
  simpa [List.map_take] using hx
 refine joined_call hx hp (by rw [List.length_take]; omega) (by omega) fun r w1 o1 e1 => ?_
 refine slc_r (hs.ext e1) (by omega) (by omega) (by omega) (by omega) (by omega) fun y hy _ _ _ => ?_
 have hy : SlIn w1 y 3 1 (iv (A.drop t)) := by
  rw [Nat.mul_one, Nat.mul_one, Int.toNat_natCast, Int.toNat_natCast, List.take_of_length_le (by rw [List.length_drop, List.length_map]; omega), ← List.map_drop] at hy
  exact hy
 refine joined_call o1.in hy (by rw [List.length_append, List.length_take]; omega) (by rw [List.length_drop]; omega) fun r' w2 o2 e2 => hK r' w2 (o2.mono e1.size) (e1.trans e2)
abbrev Ed (w : World) (O : Nat → Prop) (b : Nat) (k : Nat) : Prop := Wr w O k ∨ k = b
set_option maxHeartbeats 1000000 in
theorem edited_call {x n : Int} {sp : Sl} {put : List Int} (h : Hs w N b p e na O M s) (hsp : SlX w sp 1 (iv put)) (hpl : put.length < 2 ^ 60) (hx : In64 x) (hn : In64 n) (hroom : szs (aOf e M) + 64 ≤ 65536) (hna : na + 64 < 2 ^ 40) (hN : N ≤ w.heap.size) {K : Bool → World → Prop}
  (hK : ∀ O' M' s' w', Hs w' N b p e (na + 64) O' M' s' → szs (aOf e M') ≤ szs (aOf e M) + 64 → Upd (Ed w O b) w w' → (∀ k, O' k → O k ∨ w.heap.size ≤ k) → (∀ k, s'.blk k → w.heap.size ≤ k) → K true w') :
  callT Tryz.prog 75 #[.pointer (some (at0 b)), .int .i64 x, .int .i64 n, .slice sp.a sp.len sp.cap] (.one (.one .bool)) K w := by
 refine F75_calls ?_
 unfold F75
 have few := h.txt.few
 have hal := hal e M
 obtain ⟨A, hA⟩ : ∃ A, A = atoms (aOf e M) := ⟨_, rfl⟩
 have lst := h.lst
 rw [← hA] at hal lst
 have hlen : A.length = s.len := by have := lst.len1; rwa [List.length_map] at this
 have bx : ∀ {V : World}, Ext w V → V.heap[b]? = some (bothO p s) := fun e => e.ext_get h.box
 obtain ⟨f, hf⟩ : ∃ f, f = within x A.length := ⟨_, rfl⟩
 obtain ⟨g, hg⟩ : ∃ g, g = within n (A.length - f) := ⟨_, rfl⟩
 have hfl : f ≤ A.length := by rw [hf]; exact within_le _ _
 have hgl : g ≤ A.length - f := by rw [hg]; exact within_le _ _
 refine nn_some ?_
 rw [addr_add]
 refine ld_r (x := s) (bx (Ext.refl w)) rfl ?_
 rw [← hlen]
 refine within_call (n := A.length) hx (by omega) ?_
 rw [← hf]
 refine nn_some (ld_r (x := s) (bx (Ext.refl w)) rfl ?_)
 rw [← hlen, show IntKind.wrap .i64 ((A.length : Int) - (f : Int)) = ((A.length - f : Nat) : Int) by rw [wrap64 (by omega) (by omega)]; omega]
 refine within_call (n := A.length - f) hn (by omega) ?_
 rw [← hg]
 obtain ⟨q, hq⟩ : ∃ q, q = plainL put := ⟨_, rfl⟩
 have hasc : Asc q := by rw [hq]; exact plainL_asc put
 have hql : q.length ≤ 16 := by rw [hq]; exact plainL_len put
 have hszs := Asc.szs (e := e) hasc
 have hfit := hasc.fit e
 have hbl := bts_len hfit
 refine plain_call hsp hpl fun r w1 o1 e1 => ?_
 rw [← hq] at o1
 have ewt : IntKind.wrap .i64 ((f : Int) + (g : Int)) = ((f + g : Nat) : Int) := by rw [wrap64 (by omega) (by omega)]; omega
 rw [ewt]
 refine drew_r fun w2 e2 _ => nn_some (ld_r (x := some (at0 p)) (bx (e1.trans e2)) rfl ?_)
 refine copied_call (o1.in.ext e2) (by omega) fun r2 w3 o3 e3 => ?_
 have x3 := (e1.trans e2).trans e3
 refine keep_r (cell_of (bx x3) rfl) (newO_r fun b11 w4 e4 n4 hb4 _ => ?_)
 have x4 := x3.trans e4
 refine keep_r (cell_of (bx x4) rfl) ?_
 have tx4 := h.txt.ext x4
 have hroom' : szs ((aOf e M).take f ++ prs e q ++ (aOf e M).drop (f + g)) ≤ szs (aOf e M) + 64 := by
  rw [szs_append, szs_append]
  have h1 : szs (aOf e M) = szs ((aOf e M).take (f + g)) + szs ((aOf e M).drop (f + g)) := by conv => lhs; rw [← List.take_append_drop (f + g) (aOf e M)]; rw [szs_append]
  have h2 : szs ((aOf e M).take f) ≤ szs ((aOf e M).take (f + g)) := by
   have : (aOf e M).take (f + g) = (aOf e M).take f ++ ((aOf e M).take (f + g)).drop f := by
    conv => lhs; rw [← List.take_append_drop f ((aOf e M).take (f + g))]
    rw [List.take_take, Nat.min_eq_left (by omega)]
   rw [this, szs_append]; omega
  omega
 refine change_call (f := f) (t := f + g) (s := ⟨some (at0 b11), 1, 1⟩) (sp := r2) (put := q) tx4 (by omega) (by omega) (eEdit n4) (fun k hk hO => ?_) (o3.in.ext e4) (fun k hk hO => ?_) hfit (by omega) (by omega) (by omega) fun O' M' w5 tx5 ea u5 g1 g2 => ?_
 ·obtain ⟨z, hz, rfl⟩ := hk
  cases hz
  have h1 : b11 < w.heap.size := h.txt.own _ hO
  have := x3.size
  omega
 ·have := o3.blk_ge hk
  have := h.txt.own _ hO
  have := (e1.trans e2).size
  omega
 have z4 := x4.size
 have u5' : Upd (Wr w O) w w5 := Upd.new (Upd.of_ext x4) u5 fun k _ hq => ⟨hq.1, fun c fr hc => hq.2 c fr (x4.ext_get hc)⟩
 have lst5 : SlOwn w5 N s 3 1 (iv A) := lst.upd u5' fun k _ hk hO => h.nol k hk hO.1
 have box5 : w5.heap[b]? = some (bothO p s) := u5'.get h.box fun hO => h.nob hO.1
 have r5 : SlIn w5 r 3 1 (iv q) := ((o1.in.ext e2).ext e3).ext e4 |>.upd u5 fun k hk hO => by
  have := o1.blk_ge hk
  have := h.txt.own _ hO.1
  omega
 refine sif_false (nn_some (ld_r (x := s) box5 rfl ?_))
 refine spliced_call lst5.in r5 (by omega) (by omega) hfl (by omega) fun r6 w6 o6 e6 => nn_some ?_
 rw [addr_add]
 have box6 := e6.ext_get box5
 refine stC_r box6 (by show 1 < 2; decide) fun w7 u7 n7 _ => ?_
 have hbl5 := lt_of_heap box5
 have nO' : ¬ O' b := fun hO => (g2 b hO).elim (fun hh => h.nob hh) fun hh => by have := lt_of_heap h.box; omega
 have ea' : atoms (aOf e M') = A.take f ++ q ++ A.drop (f + g) := by
  rw [ea, hA]
  unfold atoms
  rw [List.map_append, List.map_append, List.map_take, List.map_drop]
  congr 2
  exact atoms_prs e q
 have z5 := u5.size
 have hr6 : ∀ k, r6.blk k → w5.heap.size ≤ k := fun k hk => o6.blk_ge hk
 refine hK O' M' r6 w7 ⟨?_, ?_, ?_, ?_, h.newb, nO', ?_⟩ (by rw [ea]; exact hroom') ?_ ?_ ?_
 ·exact ((tx5.ext e6).upd u7 (fun k hk he => nO' (he ▸ hk)) (NoTy.box box6 (by decide))).more (by omega)
 ·rw [ea']
  exact (o6.mono (by omega)).box box6 (by decide) u7
 ·rw [n7]; rfl
 ·exact fun k hk => (g2 k hk).elim (h.new k) fun hh => by omega
 ·intro k hk hO
  have h1 := hr6 k hk
  have h2 := tx5.own k hO
  omega
 ·refine Upd.new (u5'.mono fun k _ hk => .inl hk) ((Upd.of_ext e6).trans u7) fun k _ hk => .inr hk
 ·exact fun k hk => (g2 k hk).imp id fun hh => by omega
 ·exact fun k hk => by have := hr6 k hk; omega
end
section
variable {w w' W : World} {p b N na : Nat} {e : Enc} {O : Nat → Prop} {M : Parts} {s : Sl} {A : List Int}
set_option maxHeartbeats 1000000 in
theorem played_call {y : Cells.T c43} {o : LOp} {lo hi : Int} (ask : Asks lo hi) (h : Hs w N b p e na O M s) (hy : o.In w y) (hroom : szs (aOf e M) + 64 ≤ 65536) (hna : na + 64 < 2 ^ 40) (hN : N ≤ w.heap.size) {K : Bool → World → Prop}
  (hK : ∀ O' M' s' w', Hs w' N b p e (na + 64) O' M' s' → szs (aOf e M') ≤ szs (aOf e M) + 64 → Upd (Ed w O b) w w' → (∀ k, O' k → O k ∨ w.heap.size ≤ k) → (∀ k, s'.blk k → s.blk k ∨ w.heap.size ≤ k) → K true w') :
  callT Tryz.prog 49 #[.pointer (some (at0 b)), .agg (Cells.vals c43 y).toArray, .int .i64 lo, .int .i64 hi] (.one (.one .bool)) K w := by
 refine F49_calls (a1 := y) ?_
 unfold F49
 have hput := hy.put; have hl := hy.len
 obtain ⟨_, _, ia, _, ic, _⟩ := hy.i1
 rw [← hy.at_] at ia
 rw [← hy.count] at ic
 have still : ∀ w', Ext w w' → K true w' := fun w' x => hK O M s w' ⟨(h.ext x).txt.more (by omega), (h.ext x).lst, (h.ext x).box, h.new, h.newb, h.nob, h.nol⟩ (by omega) (Upd.of_ext x) (fun k hk => .inl hk) fun k hk => .inl hk
 refine (St.start w).newO fun b1 w1 S1 e1 => ?_
 have S1 : St (fun _ => False) w w1 [(b1, opO y)] := S1
 refine S1.ld 0 rfl (x := y.2.1) rfl ?_
 refine sif_r (fun _ => ?_) (fun _ => ?_)
 ·refine S1.ld 0 rfl (x := y.2.2.1) rfl (S1.ld 0 rfl (x := y.2.2.2.2.1) rfl (S1.ld 0 rfl (x := y.2.2.2.2.2.2.1) rfl ?_))
  have z1 := e1.size
  refine edited_call (h.ext e1) (hput.ext e1) (by omega) ia ic hroom hna (by omega) fun O' M' s' w2 h2 g1 u2 g2 g3 => hK O' M' s' w2 h2 g1 ?_ (fun k hk => (g2 k hk).imp id fun hh => by omega) (fun k hk => .inr (by have := g3 k hk; omega))
  exact Upd.new (Upd.of_ext e1) u2 fun k hk hq => hq.imp (fun hq => ⟨hq.1, fun c fr hc => hq.2 c fr (e1.ext_get hc)⟩) id
 ·refine join_r (fun x W => (x.1 = false → lo ≤ y.2.1 ∧ y.2.1 ≤ hi) ∧ w1 = W) (S1.ld 0 rfl (x := y.2.1) rfl (sif_r (fun _ => ⟨fun h => (by cases h), rfl⟩) (fun g => S1.ld 0 rfl (x := y.2.1) rfl ⟨fun g2 => ?_, rfl⟩))) ?_
  ·have g := of_decide_eq_false g
   have g2 := of_decide_eq_false g2
   exact ⟨Int.not_lt.1 g, Int.not_lt.1 g2⟩
  rintro ⟨bb, _⟩ _ ⟨hk, rfl⟩
  refine sif_r (fun _ => still w1 e1) (fun g => ?_)
  refine S1.lds 0 y rfl ?_
  exact ask.ask (o := y) (h.txt.ext e1) (h.lst.ext e1).in (e1.ext_get h.box) ic.2 (hk g) fun w2 e2 => still w2 (e1.trans e2)
def Apt (O : Nat → Prop) (s : Sl) (b : Nat) (O' : Nat → Prop) (s' : Sl) (b' : Nat) : Prop := ∀ k, (O k ∨ s.blk k ∨ k = b) → ¬ (O' k ∨ s'.blk k ∨ k = b')
theorem Apt.symm {O O' : Nat → Prop} {s s' : Sl} {b b' : Nat} (h : Apt O s b O' s' b') : Apt O' s' b' O s b := fun k h1 h2 => h k h2 h1
structure Two (w : World) (N i b b' p p' : Nat) (e e' : Enc) : Prop where
 ex : ∃ O M s O' M' s', Hs w N b p e (64 * i) O M s ∧ Hs w N b' p' e' (64 * i) O' M' s' ∧ szs (aOf e M) ≤ 50000 + 64 * i ∧ szs (aOf e' M') ≤ 50000 + 64 * i ∧ Apt O s b O' s' b'
theorem Two.swap {i b b' p p' : Nat} {e e' : Enc} (h : Two w N i b b' p p' e e') : Two w N i b' b p' p e' e := by
 obtain ⟨O, M, s, O', M', s', h1, h2, h3, h4, h5⟩ := h.ex
 exact ⟨O', M', s', O, M, s, h2, h1, h4, h3, h5.symm⟩
theorem Two.step {i b' p' : Nat} {e' : Enc} {y : Cells.T c43} {o : LOp} {lo hi : Int} (ask : Asks lo hi) (h : Two w N i b b' p p' e e') (hi2 : i < 200) (hy : o.In w y) (hN : N ≤ w.heap.size) {K : Bool → World → Prop}
  (hK : ∀ w' (S : Nat → Prop), Two w' N (i + 1) b b' p p' e e' → Upd S w w' → (∀ k, S k → N ≤ k) → K true w') :
  callT Tryz.prog 49 #[.pointer (some (at0 b)), .agg (Cells.vals c43 y).toArray, .int .i64 lo, .int .i64 hi] (.one (.one .bool)) K w := by
 obtain ⟨O, M, s, O', M', s', h1, h2, h3, h4, h5⟩ := h.ex
 refine played_call ask h1 hy (by omega) (by omega) hN fun Q L r w2 g1 g2 u2 g3 g4 => hK w2 (Ed w O b) ⟨Q, L, r, O', M', s', g1, ?_, by omega, by omega, ?_⟩ u2 fun k hk => ?_
 ·have := h2.upd u2 (fun k hk hE => h5.symm k hk (by rcases hE with hE | hE; exact .inl hE.1; exact .inr (.inr hE))) (fun k hk => by
   rcases hk with hk | rfl
   ·exact hk.2
   ·exact NoTy.box h1.box (by decide) k rfl)
  exact ⟨this.txt.more (by omega), this.lst, this.box, this.new, this.newb, this.nob, this.nol⟩
 ·intro k hk hk'
  have hlt := h2.lt k hk'
  rcases hk with hk | hk | rfl
  ·rcases g3 k hk with q | q
   ·exact h5 k (.inl q) hk'
   ·omega
  ·rcases g4 k hk with q | q
   ·exact h5 k (.inr (.inl q)) hk'
   ·omega
  ·exact h5 k (.inr (.inr rfl)) hk'
 ·rcases hk with hk | rfl
  ·exact h1.new k hk.1
  ·exact h1.newb
set_option maxHeartbeats 1000000 in
theorem run_call {c0 c1 lo hi : Int} {s0 s1 so : Sl} {l0 l1 : Bs} {ys : List (Cells.T c43)} {os : List LOp} (hs0 : SlX w s0 1 (bv l0)) (hl0 : l0.length < 2 ^ 60) (hs1 : SlX w s1 1 (bv l1)) (hl1 : l1.length < 2 ^ 60) (ho : LOp.All w so ys os) (ask : Asks lo hi) {K : Bool → World → Prop} (hK : ∀ w', Ext w w' → K true w') :
  callT Tryz.prog 25 #[.agg (Cells.vals c24 (stT c0 s0)).toArray, .agg (Cells.vals c24 (stT c1 s1)).toArray, .slice so.a so.len so.cap, .int .i64 lo, .int .i64 hi] (.one (.one .bool)) K w := by
 refine F25_calls (a0 := stT c0 s0) (a1 := stT c1 s1) ?_
 unfold F25
 refine (St.start w).newO fun b1 w1 S1 e1 => S1.newO fun b2 w2 S2 e2 => S2.lds 1 (stT c0 s0) rfl ?_
 refine opened_callT (hs0.ext S2.upd) hl0 fun p e O M sa w3 hB e3 hM _ nl => ?_
 have S3 := S2.ext e3
 refine (St.start w3).newO' fun b5 w4 T4 e4 hb5 => T4.aggSt 0 rfl rfl rfl rfl fun w5 T5 u5 => sif_false ?_
 have T5 : St (fun _ => False) w3 w5 [(b5, bothO p sa)] := T5
 have S5 := S3.ext T5.upd
 refine S5.lds 0 (stT c1 s1) rfl ?_
 refine opened_callT (hs1.ext S5.upd) hl1 fun p' e' O' M' sb w6 hB' e6 hM' _ nl' => ?_
 have S6 := S5.ext e6
 refine (St.start w6).newO' fun b8 w7 T7 e7 hb8 => T7.aggSt 0 rfl rfl rfl rfl fun w8 T8 u8 => ?_
 have T8 : St (fun _ => False) w6 w8 [(b8, bothO p' sb)] := T8
 have S8 := S6.ext T8.upd
 refine join_r (fun x W => x = (false, ()) ∧ Ext w8 W) (sif_false (ask.fix fun w9 e9 => ⟨rfl, e9⟩)) ?_
 rintro _ w9 ⟨rfl, e9⟩
 refine sif_false ?_
 have S9 := S8.ext e9
 have x39 : Ext w3 w9 := ((T5.upd.trans e6).trans T8.upd).trans e9
 have x69 : Ext w6 w9 := T8.upd.trans e9
 have z2 := S2.upd.size; have z3 := e3.size; have z5 := T5.upd.size; have z6 := e6.size; have z8 := T8.upd.size; have z9 := e9.size
 have g5 : w5.heap[b5]? = some (bothO p sa) := T5.at_ 0 rfl
 have g8 : w8.heap[b8]? = some (bothO p' sb) := T8.at_ 0 rfl
 have n5 := lt_of_heap g5
 have n8 := lt_of_heap g8
 have m3 : ∀ k, (O k ∨ sa.blk k) → k < w3.heap.size := fun k hk => hk.elim (hB.txt.own k) fun hk => hB.lst.in.blk_lt hk
 have m6 : ∀ k, (O' k ∨ sb.blk k) → k < w6.heap.size ∧ w5.heap.size ≤ k := fun k hk => hk.elim (fun hk => ⟨hB'.txt.own k hk, hB'.new k hk⟩) fun hk => ⟨hB'.lst.in.blk_lt hk, hB'.lst.blk_ge hk⟩
 have sz0 : szs (aOf e M) ≤ 50000 := by rw [hM, szs_all, List.length_take]; omega
 have sz1 : szs (aOf e' M') ≤ 50000 := by rw [hM', szs_all, List.length_take]; omega
 have start : Two w9 w.heap.size 0 b5 b8 p p' e e' := by
  refine ⟨O, M, sa, O', M', sb, ⟨(hB.txt.ext x39).more (by omega), (hB.lst.ext x39).mono z2, ((e6.trans T8.upd).trans e9).ext_get g5, fun k hk => Nat.le_trans z2 (hB.new k hk), by omega, fun hk => by have := m3 b5 (.inl hk); omega, nl⟩, ⟨(hB'.txt.ext x69).more (by omega), (hB'.lst.ext x69).mono (by omega), e9.ext_get g8, fun k hk => by have := (m6 k (.inl hk)).2; omega, by omega, fun hk => by have := (m6 b8 (.inl hk)).1; omega, nl'⟩, by omega, by omega, ?_⟩
  ·intro k hk hk'
   have h1 : k < w5.heap.size := by
    rcases hk with hk | hk | rfl
    ·have := m3 k (.inl hk); omega
    ·have := m3 k (.inr hk); omega
    ·exact n5
   rcases hk' with hk' | hk' | rfl
   ·have := (m6 k (.inl hk')).2; omega
   ·have := (m6 k (.inr hk')).2; omega
   ·omega
 have hrow : ys.length = so.len := SlX.lenR (cs := c43) ho.row (by decide)
 have hlen := ho.len
 have hfew := ho.few
 refine join_r (fun _ W => Ext w W) ?_ (fun _ W x => hK W x)
 refine sloop_r (fun x W => ∃ i : Nat, x = ((i : Int), ()) ∧ i ≤ so.len ∧ i ≤ 200 ∧ Two W w.heap.size i b5 b8 p p' e e' ∧ Ext w W) (fun x _ => ((so.len : Int) - x.1).toNat) ⟨0, rfl, Nat.zero_le _, by omega, start, S9.upd⟩ ?_
 rintro _ W ⟨i, rfl, hi, hi2, two, xW⟩
 dsimp only
 refine join_r (fun x W' => x = (decide (i < so.len ∧ i < 200), ()) ∧ W = W') ?_ ?_
 ·refine sif_r (fun h => ⟨tupb ?_, rfl⟩) (fun h => ⟨tupb ?_, rfl⟩)
  all_goals simp only [decide_eq_true_eq, decide_eq_false_iff_not, Bool.false_eq_true, false_iff] at *
  all_goals omega
 rintro _ _ ⟨rfl, rfl⟩
 refine sif_r (fun hc => ?_) (fun _ => xW)
 simp only [decide_eq_true_eq] at hc
 obtain ⟨y, hy⟩ : ∃ y, ys[i]? = some y := ⟨_, List.getElem?_eq_getElem (by omega)⟩
 obtain ⟨o, ho'⟩ : ∃ o, os[i]? = some o := ⟨_, List.getElem?_eq_getElem (by omega)⟩
 have hop := ho.each i y o hy ho'
 have hop : o.In W y := ⟨hop.who, hop.kind, hop.at_, hop.move, hop.count, hop.arg, hop.put.ext xW, hop.i1, hop.i2, hop.len, fun k hk => (hop.lt k hk).imp id fun hh => by have := xW.size; omega⟩
 have ew : IntKind.wrap .i64 ((i : Int) + 1) = ((i + 1 : Nat) : Int) := by rw [wrap64 (by omega) (by omega)]; omega
 rw [ew]
 obtain ⟨ty, hty⟩ := (ho.row.ext xW).in_of (by omega)
 have rdy : ∀ {K : Addr → Cells.T c43 → World → Prop}, (∀ q, K q y W) → ix so.a so.len (i : Int) (fun q => lds c43 (q.add (scaled (Int.toNat (i : Int)) 7)) (K q)) W := fun hk => ix_lds (cs := c43) (xs := ys) hty (by decide) (by omega) (x := y) (by rw [Int.toNat_natCast]; exact hy) hk
 refine join_r (fun x W' => x = (true, ()) ∧ Two W' w.heap.size (i + 1) b5 b8 p p' e e' ∧ Ext w W') ?_ ?_
 ·refine ix_ldf0 (c := .int .i64) (cs := c43) (xs := ys) hty (by omega) (x := y) (y := y.1) (by rw [Int.toNat_natCast]; exact hy) rfl fun q => ?_
  refine sif_r (fun _ => ?_) (fun _ => ?_)
  ·exact rdy fun q => two.step ask (by omega) hop xW.size fun w' S t u hS => ⟨rfl, t, xW.step u hS⟩
  ·exact rdy fun q => two.swap.step ask (by omega) hop xW.size fun w' S t u hS => ⟨rfl, t.swap, xW.step u hS⟩
 rintro _ W' ⟨rfl, two', xW'⟩
 exact sif_false ⟨⟨i + 1, rfl, by omega, by omega, two', xW'⟩, by omega⟩
end
section
variable {w : World}
theorem oParas_walk {c0 c1 : Int} {s0 s1 so : Sl} {l0 l1 : Bs} {ys : List (Cells.T c43)} {os : List LOp} (hs0 : SlX w s0 1 (bv l0)) (hl0 : l0.length < 2 ^ 60) (hs1 : SlX w s1 1 (bv l1)) (hl1 : l1.length < 2 ^ 60) (ho : LOp.All w so ys os) {K : Bool → World → Prop} (hK : ∀ w', Ext w w' → K true w') :
  callT Tryz.prog 9 #[.agg (Cells.vals c24 (stT c0 s0)).toArray, .agg (Cells.vals c24 (stT c1 s1)).toArray, .slice so.a so.len so.cap] (.one (.one .bool)) K w := by
 refine F9_calls (a0 := stT c0 s0) (a1 := stT c1 s1) ?_
 unfold F9
 refine (St.start w).newO fun b1 w1 S1 e1 => S1.newO fun b2 w2 S2 e2 => S2.lds 1 (stT c0 s0) rfl (S2.lds 0 (stT c1 s1) rfl ?_)
 have ho2 : LOp.All w2 so ys os := ⟨ho.row.ext S2.upd, ho.len, ho.few, fun i y o hy h' => by
  have h := ho.each i y o hy h'
  exact ⟨h.who, h.kind, h.at_, h.move, h.count, h.arg, h.put.ext S2.upd, h.i1, h.i2, h.len, fun k hk => (h.lt k hk).imp id fun hh => by have := S2.upd.size; omega⟩⟩
 exact run_call (hs0.ext S2.upd) hl0 (hs1.ext S2.upd) hl1 ho2 asks4 fun w' e => hK w' (S2.upd.trans e)
end
end Go.Proofs.YtabcpghhfeplaaaGreat
namespace Go.Proofs.YtabcpghhfeplaaaGreat
open Go Go.Vx Go.ChangeShapes Go.WideShapes Go.RowKit
set_option maxRecDepth 100000 in
theorem objectParas_lifted (os : Os) (started : os.Started) (H : Type) (enc : TypeId × Value → H) :
  ReturnsInHanded {} Tryz.checked os 9 .any (Rows.objectParasSpec.pre6 enc Tryz.prog Tryz.f9 Rows.objectParasRow.domain false) (Rows.objectParasSpec.post enc Tryz.prog Tryz.f9 false true false false) := by
 refine returnsInHanded_of_change_sized (C := Tryz.checked) Tryz.own started (by kernel_rfl) Tryz.func9
  (ChangeSpec.witness6 (enc := enc) (C := Tryz.checked) false ⟨#[], #[.agg #[.int .i64 0, .slice none 0 0], .agg #[.int .i64 0, .slice none 0 0], .slice none 0 0], []⟩ 8 (by kernel_rfl) (by kernel_rfl) (by kernel_rfl) (by kernel_rfl)) ?_
 intro W base args ds gs before hval0 hW _ hwt0 _
 have hval : ∀ (j : Nat) t v, Tryz.f9.params[j]? = some t → args[j]? = some v → Value.okWide Tryz.prog W .any base t v := hval0
 have hwt : (DataW.weightsEach Tryz.prog (Tryz.f9.params.toList ++ []) (ds ++ gs)).all (· ≤ reachBytes) = true := hwt0
 have hW' := hW
 obtain ⟨p, q, hA0, hV, rfl, hfz, hnd⟩ := hW
 have hA : DataW.TrodAll enc Tryz.prog W 0 (fun _ => true) true Tryz.f9.params.toList args.toList ds p := hA0
 clear hA0 hval0 hwt0
 rw [Tryz.params9] at hA hval hwt
 obtain ⟨rfl, rfl⟩ := trodVars_none hV
 obtain ⟨hn1, hn2, hT⟩ := trodAll_get hA
 obtain ⟨v0, v1, v2, hv⟩ := list_3 args.toList hn1
 obtain rfl : args = #[v0, v1, v2] := by cases args; simp_all
 obtain ⟨d0, d1, d2, rfl⟩ := list_3 ds hn2
 obtain ⟨p0, q0⟩ := hT 0 24 v0 d0 rfl rfl rfl
 obtain ⟨c0, s0, l0, rfl, h0, n0⟩ := arg_start (hval 0 24 v0 rfl rfl) q0 (weigh hwt 0 rfl rfl)
 obtain ⟨p1, q1⟩ := hT 1 24 v1 d1 rfl rfl rfl
 obtain ⟨c1, s1, l1, rfl, h1, n1⟩ := arg_start (hval 1 24 v1 rfl rfl) q1 (weigh hwt 1 rfl rfl)
 obtain ⟨p2, q2⟩ := hT 2 41 v2 d2 rfl rfl rfl
 obtain ⟨s2, y2, o2, rfl, h2⟩ := arg_ops (hval 2 41 v2 rfl rfl) q2 (weigh hwt 2 rfl rfl)
 have walk := oParas_walk (c0 := c0) (c1 := c1) h0 (by omega) h1 (by omega) h2 (K := fun r w' => r = true ∧ Ext W w') fun w' e => ⟨rfl, e⟩
 refine walk.mono fun e W' ⟨x, he, hx, hext⟩ => ⟨.bool true, ?_, ?_⟩
 ·subst hx; exact he
 ·exact post_same hW' rfl rfl u4 rfl Tryz.laidOut (fun t ht => by
   rw [Tryz.params9] at ht
   have ht : t ∈ [24, 24, 41] := ht
   simp only [List.mem_cons, List.not_mem_nil, or_false] at ht
   rcases ht with rfl | rfl | rfl <;> exact recs (by simp)) hext
theorem objectParas_holds : Rows.ObjectParasSaid :=
 OpenClaim.holds_of_wide 9 Tryz.f9 rfl rfl rfl rfl rfl rfl rfl ⟨rfl, rfl, rfl, rfl, rfl⟩ rfl rfl rfl rfl rfl (by kernel_rfl) Tryz.func9 (by kernel_rfl)
  (of_decide_eq_true (by kernel_rfl)) (by unfold Func.isWrapper; rw [if_neg (by decide +kernel)]; exact ⟨rfl, rfl⟩)
  (fun os started H enc _ => objectParas_lifted os started H enc)
end Go.Proofs.YtabcpghhfeplaaaGreat
