/- A page that came in (api.Page by value), as plain words. -/
import Derived.Test.YtgpeoonpoogniaaG6
import Derived.Test.YtgpeoonpoogniaaG4
import Derived.Deep.Slices
import Derived.ProofKit
import Derived.Test.YtgpeoonpoogniaaGE
namespace Go.Proofs.Ytgpeoonpoogniaa
open Go.ChangeShapes Go.WideShapes Go.ChangeAt Go.RowKit

section
variable {H : Type} {enc : TypeId × Value → H} {W : World}

/-- A slice that came in, element for element. -/
theorem open_rows {t e : TypeId} (sz : Nat) (hz : 0 < sz) (ht : Try.prog.underlying t = some (.slice e)) (hsz : Try.prog.cellsOf e = sz) {α : Type} [Inhabited α] (Q : Nat → Nat → α → Prop)
    (hel : ∀ (n B off : Nat) (cs : List Value) (y : DataW H × List MemPlace), DataW.trod enc Try.prog W 0 (fun _ => true) true n e cs = some y → (∀ j, j < sz → W.cell? ⟨B, off + j, none⟩ = cs[j]?) → ∃ c : α, Q B off c)
    {fuel : Nat} {cs : List Value} {x : DataW H × List MemPlace} (h : DataW.trod enc Try.prog W 0 (fun _ => true) true fuel t cs = some x) :
    ∃ (v : Value) (l : List α), cs = [v] ∧ l.length ≤ maxLen ∧ ((∃ a cap, v = .slice a 0 cap ∧ (a = none → cap = 0) ∧ l = []) ∨ ∃ B off cap, v = .slice (some ⟨B, off, none⟩) l.length cap ∧ l.length ≤ cap ∧ ∀ i c, l[i]? = some c → Q B (off + i * sz) c) := by
  rcases Deep.open_slice ht h with ⟨hcs, _⟩ | ⟨a', len', cap', m, n, D, Pl, hcs, _, hl, hm, hmm, _, hx⟩
  · exact ⟨_, [], hcs, Nat.zero_le _, .inl ⟨none, 0, rfl, fun _ => rfl, rfl⟩⟩
  · have hmm' : m = cap' := by simpa using hmm
    rw [hsz] at hx
    by_cases h0 : len' = 0
    · subst h0
      exact ⟨_, [], hcs, Nat.zero_le _, .inl ⟨some a', cap', rfl, (fun h => (by cases h)), rfl⟩⟩
    · obtain ⟨B, off, rfl⟩ : ∃ B off, a' = ⟨B, off, none⟩ := by
        obtain ⟨cs', h1, h2⟩ := hx 0 (by omega)
        obtain ⟨_, hlen, hcell⟩ := World.cells?_some h1
        have h3 := hcell 0 (by omega)
        rw [Deep.add_add, List.getElem?_eq_getElem (by omega)] at h3
        simp only [Nat.zero_mul, Nat.add_zero] at h3
        exact addr_cases h3
      obtain ⟨f, hfc⟩ := Deep.choose_lt (n := len') (p := fun i c => Q B (off + i * sz) c) (fun i hi => by
        obtain ⟨cs', h1, h2⟩ := hx i (by omega)
        obtain ⟨_, hlen, hcell⟩ := World.cells?_some h1
        refine hel n B (off + i * sz) cs' _ h2 (fun j hj => ?_)
        rw [← hcell j (by omega), Deep.add_add, addr_add, Nat.add_assoc])
      refine ⟨_, (List.range len').map f, hcs, by simp; omega, .inr ⟨B, off, cap', by simp, by simpa using hl, fun i c hi => ?_⟩⟩
      rw [List.getElem?_map, Option.map_eq_some_iff] at hi
      obtain ⟨k, hk, rfl⟩ := hi
      have := List.getElem?_eq_some_iff.1 hk
      obtain ⟨h1, h2⟩ := this
      simp at h1 h2
      subst h2
      exact hfc i h1
theorem open_txts {fuel : Nat} {cs : List Value} {x : DataW H × List MemPlace} (h : DataW.trod enc Try.prog W 0 (fun _ => true) true fuel 40 cs = some x) :
    ∃ (v : Value) (l : List ByteArray), cs = [v] ∧ Txts [] W v l ∧ l.length ≤ maxLen ∧ ∀ s ∈ l, s.size ≤ maxLen := by
  have e1 : Try.prog.cellsOf 9 = 1 := by kernel_rfl
  obtain ⟨v, l, hv, hl, hr⟩ := open_rows 1 (by decide) Try.underlying40 e1 (fun B off (s : ByteArray) => W.cell? ⟨B, off, none⟩ = some (.string s) ∧ s.size ≤ maxLen) (fun n B off cs y hy hc => by
    obtain ⟨s, rfl, _, hs⟩ := DataW.trod_string Try.underlying9 hy
    exact ⟨s, by simpa using hc 0 (by decide), hs⟩) h
  refine ⟨v, l, hv, ?_, hl, fun s hs => ?_⟩
  · rcases hr with ⟨a, cap, rfl, ha, rfl⟩ | ⟨B, off, cap, rfl, hcp, hq⟩
    · exact .inl ⟨a, cap, rfl, rfl, rfl, ha⟩
    · refine .inr ⟨B, off, cap, rfl, hcp, .inr (by simp), fun i u hu => ?_⟩
      rw [List.getElem?_map, Option.map_eq_some_iff] at hu
      obtain ⟨s, hs, rfl⟩ := hu
      have := (hq i s hs).1
      simpa using this
  · obtain ⟨i, hi⟩ := List.getElem?_of_mem hs
    rcases hr with ⟨_, _, _, _, rfl⟩ | ⟨B, off, cap, _, _, hq⟩
    · cases hs
    · exact (hq i s hi).2
set_option maxRecDepth 100000 in
theorem open_prs {fuel : Nat} {cs : List Value} {x : DataW H × List MemPlace} (h : DataW.trod enc Try.prog W 0 (fun _ => true) true fuel 39 cs = some x) :
    ∃ (v : Value) (l : List PairD), cs = [v] ∧ Prs [] W v l ∧ l.length ≤ maxLen ∧ ∀ s ∈ l, s.1.size ≤ maxLen ∧ s.2.size ≤ maxLen := by
  have e1 : Try.prog.cellsOf 9 = 1 := by kernel_rfl
  have e2 : Try.prog.cellsOf 66 = 2 := by kernel_rfl
  obtain ⟨v, l, hv, hl, hr⟩ := open_rows 2 (by decide) Try.underlying39 e2 (fun B off (s : PairD) => (W.cell? ⟨B, off, none⟩ = some (.string s.1) ∧ W.cell? ⟨B, off + 1, none⟩ = some (.string s.2)) ∧ s.1.size ≤ maxLen ∧ s.2.size ≤ maxLen) (fun n B off cs y hy hc => by
    obtain ⟨xs, n', rfl, _, hlen, hxl, hf⟩ := DataW.trod_struct Try.underlying66 hy
    rw [e2] at hlen
    have hxl' : xs.length = 2 := hxl
    match cs, hlen with
    | [c0, c1], _ =>
      have h0 := hf 0 _ rfl
      change DataW.trod enc _ W 0 _ true n' 9 ((List.drop 0 _).take (Try.prog.cellsOf 9)) = _ at h0
      have h1 := hf 1 _ rfl
      change DataW.trod enc _ W 0 _ true n' 9 ((List.drop 1 _).take (Try.prog.cellsOf 9)) = _ at h1
      rw [e1, List.getElem?_eq_getElem (by omega)] at h0 h1
      simp only [List.drop_zero, List.drop_succ_cons, List.take_succ_cons, List.take_zero] at h0 h1
      obtain ⟨s0, q0, _, z0⟩ := DataW.trod_string Try.underlying9 h0
      obtain ⟨s1, q1, _, z1⟩ := DataW.trod_string Try.underlying9 h1
      simp only [List.cons.injEq, and_true] at q0 q1
      subst q0 q1
      exact ⟨(s0, s1), ⟨by simpa using hc 0 (by decide), by simpa using hc 1 (by decide)⟩, z0, z1⟩) h
  refine ⟨v, l, hv, ?_, hl, fun s hs => ?_⟩
  · rcases hr with ⟨a, cap, rfl, ha, rfl⟩ | ⟨B, off, cap, rfl, hcp, hq⟩
    · exact .inl ⟨a, cap, rfl, rfl, rfl, ha⟩
    · refine .inr ⟨B, off, cap, rfl, hcp, .inr (by simp), fun i u hu => ?_⟩
      have hi2 : i / 2 < l.length := by
        have := (List.getElem?_eq_some_iff.1 hu).1
        rw [prCells_length] at this
        omega
      obtain ⟨k, hk⟩ : ∃ k, i / 2 = k := ⟨_, rfl⟩
      rw [hk] at hi2
      have hp := hq k l[k] (List.getElem?_eq_getElem hi2)
      have hcell := prCells_at hi2
      rw [Nat.mul_comm 2 k] at hcell
      rcases (by omega : i = k * 2 ∨ i = k * 2 + 1) with rfl | rfl
      · rw [hcell.1] at hu
        cases hu
        exact hp.1.1
      · rw [hcell.2] at hu
        cases hu
        rw [← Nat.add_assoc]
        exact hp.1.2
  · obtain ⟨i, hi⟩ := List.getElem?_of_mem hs
    rcases hr with ⟨_, _, _, _, rfl⟩ | ⟨B, off, cap, _, _, hq⟩
    · cases hs
    · exact (hq i s hi).2

/-- A page's numbers are of their kinds. -/
structure PageWf (p : PageD) : Prop where
  kind : (Lit.int .i64 p.kind).wf = true
  next : (Lit.int .i64 p.next).wf = true
  epoch : (Lit.int .u64 p.epoch).wf = true
  root : (Lit.int .i64 p.root).wf = true
  depth : (Lit.int .i64 p.depth).wf = true
  count : (Lit.int .i64 p.count).wf = true
  high : (Lit.int .i64 p.high).wf = true
  kids : ∀ n ∈ p.kids, (Lit.int .i64 n).wf = true
  pages : ∀ n ∈ p.pages, (Lit.int .i64 n).wf = true
  lens : p.pairs.length ≤ maxLen ∧ p.keys.length ≤ maxLen ∧ p.kids.length ≤ maxLen ∧ p.pages.length ≤ maxLen
  prs : ∀ s ∈ p.pairs, s.1.size ≤ maxLen ∧ s.2.size ≤ maxLen
  keys : ∀ s ∈ p.keys, s.size ≤ maxLen
set_option maxRecDepth 100000 in
theorem open_page {n : Nat} {cs : List Value} {x : DataW H × List MemPlace} (h : DataW.trod enc Try.prog W 0 (fun _ => true) true n 43 cs = some x) :
    ∃ (p : PageD) (pv kv dv gv : Value), cs = pageCells p pv kv dv gv ∧ PageIn [] W p pv kv dv gv ∧ PageWf p := by
  obtain ⟨xs, n', rfl, _, hlen, hxl, hf⟩ := DataW.trod_struct Try.underlying43 h
  have e11 : Try.prog.cellsOf 43 = 11 := by kernel_rfl
  have ei : Try.prog.cellsOf 3 = 1 := by kernel_rfl
  have eu : Try.prog.cellsOf 41 = 1 := by kernel_rfl
  have ep : Try.prog.cellsOf 39 = 1 := by kernel_rfl
  have es : Try.prog.cellsOf 40 = 1 := by kernel_rfl
  have ek : Try.prog.cellsOf 32 = 1 := by kernel_rfl
  rw [e11] at hlen
  have hxl' : xs.length = 11 := hxl
  match cs, hlen with
  | [c0, c1, c2, c3, c4, c5, c6, c7, c8, c9, c10], _ =>
    have h0 := hf 0 _ rfl
    change DataW.trod enc _ W 0 _ true n' 3 ((List.drop 0 _).take (Try.prog.cellsOf 3)) = _ at h0
    have h1 := hf 1 _ rfl
    change DataW.trod enc _ W 0 _ true n' 39 ((List.drop 1 _).take (Try.prog.cellsOf 39)) = _ at h1
    have h2 := hf 2 _ rfl
    change DataW.trod enc _ W 0 _ true n' 40 ((List.drop 2 _).take (Try.prog.cellsOf 40)) = _ at h2
    have h3 := hf 3 _ rfl
    change DataW.trod enc _ W 0 _ true n' 32 ((List.drop 3 _).take (Try.prog.cellsOf 32)) = _ at h3
    have h4 := hf 4 _ rfl
    change DataW.trod enc _ W 0 _ true n' 32 ((List.drop 4 _).take (Try.prog.cellsOf 32)) = _ at h4
    have h5 := hf 5 _ rfl
    change DataW.trod enc _ W 0 _ true n' 3 ((List.drop 5 _).take (Try.prog.cellsOf 3)) = _ at h5
    have h6 := hf 6 _ rfl
    change DataW.trod enc _ W 0 _ true n' 41 ((List.drop 6 _).take (Try.prog.cellsOf 41)) = _ at h6
    have h7 := hf 7 _ rfl
    change DataW.trod enc _ W 0 _ true n' 3 ((List.drop 7 _).take (Try.prog.cellsOf 3)) = _ at h7
    have h8 := hf 8 _ rfl
    change DataW.trod enc _ W 0 _ true n' 3 ((List.drop 8 _).take (Try.prog.cellsOf 3)) = _ at h8
    have h9 := hf 9 _ rfl
    change DataW.trod enc _ W 0 _ true n' 3 ((List.drop 9 _).take (Try.prog.cellsOf 3)) = _ at h9
    have h10 := hf 10 _ rfl
    change DataW.trod enc _ W 0 _ true n' 3 ((List.drop 10 _).take (Try.prog.cellsOf 3)) = _ at h10
    rw [ei, List.getElem?_eq_getElem (by omega)] at h0 h5 h7 h8 h9 h10
    rw [ep, List.getElem?_eq_getElem (by omega)] at h1
    rw [es, List.getElem?_eq_getElem (by omega)] at h2
    rw [ek, List.getElem?_eq_getElem (by omega)] at h3 h4
    rw [eu, List.getElem?_eq_getElem (by omega)] at h6
    simp only [List.drop_zero, List.drop_succ_cons, List.take_succ_cons, List.take_zero] at h0 h1 h2 h3 h4 h5 h6 h7 h8 h9 h10
    obtain ⟨k0, q0, _, w0⟩ := DataW.trod_int Try.underlying3 h0
    obtain ⟨k5, q5, _, w5⟩ := DataW.trod_int Try.underlying3 h5
    obtain ⟨k6, q6, _, w6⟩ := DataW.trod_int Try.underlying41 h6
    obtain ⟨k7, q7, _, w7⟩ := DataW.trod_int Try.underlying3 h7
    obtain ⟨k8, q8, _, w8⟩ := DataW.trod_int Try.underlying3 h8
    obtain ⟨k9, q9, _, w9⟩ := DataW.trod_int Try.underlying3 h9
    obtain ⟨k10, q10, _, w10⟩ := DataW.trod_int Try.underlying3 h10
    obtain ⟨v1, l1, q1, s1, m1, z1⟩ := open_prs h1
    obtain ⟨v2, l2, q2, s2, m2, z2⟩ := open_txts h2
    obtain ⟨v3, l3, q3, s3, y3, m3⟩ := open_row Try.underlying32 Try.underlying3 ei h3
    obtain ⟨v4, l4, q4, s4, y4, m4⟩ := open_row Try.underlying32 Try.underlying3 ei h4
    simp only [List.cons.injEq, and_true] at q0 q1 q2 q3 q4 q5 q6 q7 q8 q9 q10
    subst q0 q1 q2 q3 q4 q5 q6 q7 q8 q9 q10
    exact ⟨⟨k0, l1, l2, l3, l4, k5, k6, k7, k8, k9, k10⟩, c1, c2, c3, c4, rfl, ⟨s1, s2, s3, s4⟩, ⟨w0, w5, w6, w7, w8, w9, w10, y3, y4, ⟨m1, m2, m3, m4⟩, z1, z2⟩⟩
set_option maxRecDepth 100000 in
theorem open_pageV {base : Nat} {v : Value} {d : DataW H} {p : List MemPlace} (hv : Value.okWide Try.prog W .any base 43 v) (h : DataW.Trod enc Try.prog W 0 (fun _ => true) true 43 v d p) :
    ∃ q : PageD, PageAt [] W v q ∧ PageWf q := by
  obtain ⟨cs, rfl, _⟩ := okWide_struct Try.underlying43 hv
  obtain ⟨fuel, hf⟩ := h
  obtain ⟨q, pv, kv, dv, gv, hc, hin, hw⟩ := open_page hf
  refine ⟨q, ⟨pv, kv, dv, gv, ?_, hin⟩, hw⟩
  have hc' : cs.toList = pageCells q pv kv dv gv := by simpa [Value.cells] using hc
  rw [← hc']
end
end Go.Proofs.Ytgpeoonpoogniaa


/- The walk of StoreNil: calls on none. -/
namespace Go.Proofs.Ytgpeoonpoogniaa
open Go.RowKit Go.MapKept

set_option maxRecDepth 100000 in
theorem commit_nil (r d c : Int) (w : World) : Calls Try.prog 21 #[.pointer none, .int .i64 r, .int .i64 d, .int .i64 c] w fun e w' => e = .returned (.int .i64 1) ∧ w = w' := by
  have hn : ∀ w : World, (binOp BinOp.eql 28 (.pointer none) (.pointer none)).run Try.prog w = .ok (.bool true) w := fun _ => by kernel_rfl
  go_enter Try.func21, Try.ntmps21
  go_wp2
  go_ret
  exact ⟨rfl, rfl⟩

set_option maxRecDepth 100000 in
set_option maxHeartbeats 4000000 in
theorem StoreNil_walk (W : World) (n : Int) (_ : (Lit.int .i64 n).wf = true) {v : Value} {p : PageD} (hp : PageAt [] W v p) (_ : PageWf p) :
    Calls Try.prog 6 #[.int .i64 n, v] W fun e w' => e = .returned (.bool true) ∧ Fr [] W w' := by
  have hn1 : ∀ w : World, (binOp BinOp.eql 28 (.pointer none) (.pointer none)).run Try.prog w = .ok (.bool true) w := fun _ => by kernel_rfl
  have hn2 : ∀ w : World, (binOp BinOp.eql 24 (.pointer none) (.pointer none)).run Try.prog w = .ok (.bool true) w := fun _ => by kernel_rfl
  have hfk : ∀ (w : World), (Instr.field 43 (.agg zeroPage.toArray) 0).run Try.prog w = .ok (.int .i64 0) w := fun _ => by kernel_rfl
  unfold zeroPage at hfk
  obtain ⟨pv, kv, dv, gv, rfl, hpi⟩ := hp
  obtain ⟨pa, pc, rfl, _⟩ := Slc.form hpi.pairs
  obtain ⟨ka, kc, rfl, _⟩ := Slc.form hpi.keys
  obtain ⟨da, dc, rfl, _⟩ := Slc.form hpi.kids
  obtain ⟨ga, gc, rfl, _⟩ := Slc.form hpi.pages
  have HPI := Lib.hid hpi
  have hb1 := blk_new W (.cells (pageCells p (.slice pa p.pairs.length pc) (.slice ka p.keys.length kc) (.slice da p.kids.length dc) (.slice ga p.pages.length gc)).toArray 43)
  have hf1 := Fr.alloc1 W (.cells (pageCells p (.slice pa p.pairs.length pc) (.slice ka p.keys.length kc) (.slice da p.kids.length dc) (.slice ga p.pages.length gc)).toArray 43)
  have HB1 := Lib.hid hb1
  have HF1 := Lib.hid hf1
  clear hb1 hf1 hpi
  unfold pageCells
  go_enter Try.func6, Try.ntmps6
  go_wp2_with fail
  refine (awake7_k _).mono ?_
  rintro e w1 ⟨rfl, hf⟩
  have HBK1 := Lib.hid (hf.heap HB1.out (by simp))
  have HPI1 := Lib.hid ((HPI.out.kept HF1.out).kept hf)
  have HFR1 := Lib.hid (HF1.out.trans hf)
  clear hf HB1 HF1 HPI
  go_wp2_with fail
  -- Page
  refine (page_nil n w1).mono ?_
  rintro e w2 ⟨pv2, kv2, dv2, gv2, rfl, hi2, hf2⟩
  have e1 : Slc [] w2 pv2 0 [] := (hi2 [] (by simp)).pairs
  have e2 : Slc [] w2 kv2 0 [] := (hi2 [] (by simp)).keys
  have e3 : Slc [] w2 dv2 0 [] := (hi2 [] (by simp)).kids
  have e4 : Slc [] w2 gv2 0 [] := (hi2 [] (by simp)).pages
  obtain ⟨pa2, pc2, rfl, _⟩ := e1.form
  obtain ⟨ka2, kc2, rfl, _⟩ := e2.form
  obtain ⟨da2, dc2, rfl, _⟩ := e3.form
  obtain ⟨ga2, gc2, rfl, _⟩ := e4.form
  have HB2 : Hid (∀ wb, (w2.alloc (.cells #[.int .i64 0, .slice pa2 0 pc2, .slice ka2 0 kc2, .slice da2 0 dc2, .slice ga2 0 gc2, .int .i64 0, .int .u64 0, .int .i64 0, .int .i64 0, .int .i64 0, .int .i64 0] 43)) = wb →
      Fr [] W wb ∧ wb.cell? ⟨w2.heap.size, 0, none⟩ = some (.int .i64 0) ∧ PageIn [] wb p (.slice pa p.pairs.length pc) (.slice ka p.keys.length kc) (.slice da p.kids.length dc) (.slice ga p.pages.length gc) ∧
      wb.heap[W.heap.size]? = some (.cells (pageCells p (.slice pa p.pairs.length pc) (.slice ka p.keys.length kc) (.slice da p.kids.length dc) (.slice ga p.pages.length gc)).toArray 43 (0, 0))) := Lib.hid fun wb hwb => by
    have hfb : Fr [] w2 wb := by rw [← hwb]; exact Fr.alloc1 _ _
    have hbb : wb.heap[w2.heap.size]? = some (.cells #[.int .i64 0, .slice pa2 0 pc2, .slice ka2 0 kc2, .slice da2 0 dc2, .slice ga2 0 gc2, .int .i64 0, .int .u64 0, .int .i64 0, .int .i64 0, .int .i64 0, .int .i64 0] 43 (0, 0)) := by rw [← hwb]; exact blk_new _ _
    exact ⟨(HFR1.out.trans hf2).trans hfb, by rw [blk_cell hbb 0]; rfl, (HPI1.out.kept hf2).kept hfb, hfb.heap (hf2.heap HBK1.out (by simp)) (by simp)⟩
  clear hi2 hf2 e1 e2 e3 e4
  unfold pageCells pgZero
  dsimp only [List.length_nil]
  have hbW := (HB2.out _ rfl).2.2.2
  have q0 := blk_cell hbW 0
  have q1 := blk_cell hbW 1
  have q2 := blk_cell hbW 2
  have q3 := blk_cell hbW 3
  have q4 := blk_cell hbW 4
  have q5 := blk_cell hbW 5
  have q6 := blk_cell hbW 6
  have q7 := blk_cell hbW 7
  have q8 := blk_cell hbW 8
  have q9 := blk_cell hbW 9
  have q10 := blk_cell hbW 10
  simp only [pageCells, List.getElem?_toArray, List.getElem?_cons_zero, List.getElem?_cons_succ] at q0 q1 q2 q3 q4 q5 q6 q7 q8 q9 q10
  clear hbW
  go_wp2_with fail
  obtain ⟨wb, hwb⟩ : ∃ wb, (w2.alloc (.cells #[.int .i64 0, .slice pa2 0 pc2, .slice ka2 0 kc2, .slice da2 0 dc2, .slice ga2 0 gc2, .int .i64 0, .int .u64 0, .int .i64 0, .int .i64 0, .int .i64 0, .int .i64 0] 43)) = wb := ⟨_, rfl⟩
  obtain ⟨hfb, cK, hpb, _⟩ := HB2.out wb hwb
  rw [hwb]
  clear q0 q1 q2 q3 q4 q5 q6 q7 q8 q9 q10 hwb HB2 HBK1 HPI1
  -- Lay
  refine (lay_nil (S := []) (p := p) n wb ⟨_, _, _, _, rfl, hpb⟩).mono ?_
  rintro e w3 ⟨rfl, hf3⟩
  have HF3 := Lib.hid (hfb.trans hf3)
  have cK3 := hf3.cellSome cK (by simp)
  clear hpb hfb hf3 cK
  go_wp2_with fail
  refine (abort_nil w3).mono ?_
  rintro e w' ⟨rfl, rfl⟩
  go_wp2_with fail
  refine (open_nil w3).mono ?_
  rintro e w' ⟨rfl, rfl⟩
  go_wp2_with fail
  refine (format_nil w3).mono ?_
  rintro e w' ⟨rfl, rfl⟩
  go_wp2_with fail
  refine (poolget_nil w3).mono ?_
  rintro e w4 ⟨rfl, hf4⟩
  have cK4 := hf4.cellSome cK3 (by simp)
  have hP := Fr.alloc1 w4 (.cells #[.int .i64 0, nilV, nilV] 34)
  have cK5 := hP.cellSome cK4 (by simp)
  have HF5 := Lib.hid ((HF3.out.trans hf4).trans hP)
  clear hf4 hP cK3 cK4 HF3
  go_wp2_with fail
  have cP5 : (w4.alloc (.cells #[.int .i64 0, nilV, nilV] 34)).cell? ⟨w4.heap.size, 0, none⟩ = some (.int .i64 0) := by rw [blk_cell (blk_new w4 (.cells #[.int .i64 0, nilV, nilV] 34)) 0]; rfl
  obtain ⟨w5, hw5⟩ : ∃ w5, w4.alloc (.cells #[.int .i64 0, nilV, nilV] 34) = w5 := ⟨_, rfl⟩
  rw [hw5] at HF5 cK5 cP5 ⊢
  clear hw5
  refine (drop_nil n w5).mono ?_
  rintro e w' ⟨rfl, rfl⟩
  go_wp2_with fail
  refine (commit_nil n n n w5).mono ?_
  rintro e w' ⟨rfl, rfl⟩
  go_wp2_with fail
  refine (super_nil w5).mono ?_
  rintro e w6 ⟨rfl, hf6⟩
  unfold zeroPage
  have cP6 := hf6.cellSome cP5 (by simp)
  have HF6 := Lib.hid (HF5.out.trans hf6)
  clear hf6 cP5 cK5 HF5
  go_wp2_with fail
  refine (listsget_nil w6).mono ?_
  rintro e w' ⟨rfl, rfl⟩
  go_wp2_with fail
  refine (device_nil w6).mono ?_
  rintro e w' ⟨rfl, rfl⟩
  go_wp2_with fail
  go_ret
  exact ⟨rfl, HF6.out⟩
end Go.Proofs.Ytgpeoonpoogniaa

