/- Layer 7's law: leaf; what a caller knows of a store of its own. -/
import Derived.Test.YtgpeoonpoogniaaGD
import Derived.LaidEqlPtr
namespace Go.Proofs.Ytgpeoonpoogniaa
open Go.RowKit Go.MapKept

/-- A store that a caller has made. -/
structure Mine (w wr : World) (sb b ml mc fm : Nat) (T : StD) : Prop where
  sto : StoAt wr sb b ml mc fm T
  fr : Fr [] w wr
  lo : w.heap.size ≤ sb ∧ w.heap.size ≤ fm ∧ w.heap.size ≤ b ∧ w.heap.size ≤ ml ∧ w.heap.size ≤ mc
theorem Mine.next {w wr w' : World} {sb b ml mc fm : Nat} {T T' : StD} (h : Mine w wr sb b ml mc fm T) (hr : StoR wr sb b ml mc fm T' w') : ∃ fm', Mine w w' sb b ml mc fm' T' := by
  obtain ⟨fm', hs, hf, hm, _⟩ := hr
  have hz := h.fr.size
  have hl := h.lo
  refine ⟨fm', hs, h.fr.andThen hf (fun x hx => .inr ?_), hl.1, ?_, hl.2.2⟩
  · simp only [List.mem_cons, List.not_mem_nil, or_false] at hx
    rcases hx with h | h | h | h | h <;> omega
  · rcases hm with hm | hm <;> omega
theorem Mine.kept {w wr w' : World} {sb b ml mc fm : Nat} {T : StD} (h : Mine w wr sb b ml mc fm T) (hf : Fr [] wr w') : Mine w w' sb b ml mc fm T := ⟨h.sto.kept hf, h.fr.trans hf, h.lo⟩

theorem leaf_results {tmps : Array Value} {w : World} {g : Nat} {pc : List Value} (h4 : tmps.getD 2 undef = .pointer (some ⟨g, 0, none⟩))
    (hp : w.heap[g]? = some (.cells pc.toArray 43 (0, 0))) (hpl : pc.length = 11) :
    (results Try.f16 tmps).run Try.prog w = .ok (.agg pc.toArray) w := by
  obtain ⟨p0, p1, p2, p3, p4, p5, p6, p7, p8, p9, p10, rfl⟩ : ∃ p0 p1 p2 p3 p4 p5 p6 p7 p8 p9 p10, pc = [p0, p1, p2, p3, p4, p5, p6, p7, p8, p9, p10] := by
    match pc, hpl with
    | [p0, p1, p2, p3, p4, p5, p6, p7, p8, p9, p10], _ => exact ⟨_, _, _, _, _, _, _, _, _, _, _, rfl⟩
  have q0 := blk_cell hp 0
  have q1 := blk_cell hp 1
  have q2 := blk_cell hp 2
  have q3 := blk_cell hp 3
  have q4 := blk_cell hp 4
  have q5 := blk_cell hp 5
  have q6 := blk_cell hp 6
  have q7 := blk_cell hp 7
  have q8 := blk_cell hp 8
  have q9 := blk_cell hp 9
  have q10 := blk_cell hp 10
  rw [Array.getD_eq_getD_getElem?] at h4
  simp only [List.getElem?_toArray, List.getElem?_cons_zero, List.getElem?_cons_succ] at q0 q1 q2 q3 q4 q5 q6 q7 q8 q9 q10
  simp [results, Try.results16, go_sem, h4, q0, q1, q2, q3, q4, q5, q6, q7, q8, q9, q10]

set_option maxRecDepth 100000 in
theorem law_leaf (s : ByteArray) (w : World) : Calls Try.prog 16 #[.string s] w fun e w' => ∃ v, e = .returned v ∧ (∀ S : List Nat, (∀ x, x ∈ S → x < w.heap.size) → PageAt S w' v (leafD s)) ∧ Fr [] w w' := by
  have f1 := Fr.alloc1 w (.cells (pageCells (leafD s) (.slice (some ⟨w.heap.size + 1, 0, none⟩) 1 1) nilV nilV nilV).toArray 43)
  have f2 := Fr.alloc1 (w.alloc (.cells (pageCells (leafD s) (.slice (some ⟨w.heap.size + 1, 0, none⟩) 1 1) nilV nilV nilV).toArray 43)) (.cells #[.string s, .string ⟨#[49]⟩] 66)
  have hb := f2.heap (blk_new w (.cells (pageCells (leafD s) (.slice (some ⟨w.heap.size + 1, 0, none⟩) 1 1) nilV nilV nilV).toArray 43)) (by simp)
  have hb2 := blk_new' (w.alloc (.cells (pageCells (leafD s) (.slice (some ⟨w.heap.size + 1, 0, none⟩) 1 1) nilV nilV nilV).toArray 43)) (.cells #[.string s, .string ⟨#[49]⟩] 66) (b := w.heap.size + 1) (by simp)
  have HB := Lib.hid hb
  have HB2 := Lib.hid hb2
  have HF := Lib.hid (f1.trans f2)
  clear f1 f2 hb hb2
  go_enter Try.func16, Try.ntmps16
  go_wp2
  refine bodyPost_ret (leaf_results (g := w.heap.size) rfl HB.out rfl) rfl ⟨_, rfl, fun S hS => ⟨_, _, _, _, rfl, ⟨?_, Slc.nil _ _, Slc.nil _ _, Slc.nil _ _⟩⟩, HF.out⟩
  have := Slc.ofBlock (S := S) (b := w.heap.size + 1) HB2.out (fun hm => by have := hS _ hm; omega) 1 1 (Nat.le_refl _)
  exact this
end Go.Proofs.Ytgpeoonpoogniaa


/- Layer 7's awake answers true, and leaves all that was as it was. -/
namespace Go.Proofs.Ytgpeoonpoogniaa
open Go.RowKit Go.MapKept

theorem devEql (b : Nat) (w : World) : (binOp BinOp.eql 24 (.pointer (some ⟨b, 0, none⟩)) (devP b)).run Try.prog w = .ok (.bool true) w := by
  obtain ⟨j, hj⟩ := Option.isSome_iff_exists.1 (show (Try.prog.info? 75).isSome = true by kernel_rfl)
  exact run_eql_ptr_same w ⟨b, 0, none⟩ Try.underlying24 hj

set_option maxRecDepth 100000 in
set_option maxHeartbeats 4000000 in
theorem awake7_k (w : World) : Calls Try.prog 9 #[] w fun e w' => e = .returned (.bool true) ∧ Fr [] w w' := by
  obtain ⟨T1, T2, T3, T4, hA⟩ := awk_plain
  have HA := Lib.hid hA
  clear hA
  have hpe := devEql
  have hfe : ∀ (k : Int) (pv kv dv gv : Value) (nx ep rt dp ct hg : Int) (w : World), (Instr.field 43 (.agg #[.int .i64 k, pv, kv, dv, gv, .int .i64 nx, .int .u64 ep, .int .i64 rt, .int .i64 dp, .int .i64 ct, .int .i64 hg]) 6).run Try.prog w = .ok (.int .u64 ep) w := fun _ _ _ _ _ _ _ _ _ _ _ _ => by kernel_rfl
  have hfr : ∀ (k : Int) (pv kv dv gv : Value) (nx ep rt dp ct hg : Int) (w : World), (Instr.field 43 (.agg #[.int .i64 k, pv, kv, dv, gv, .int .i64 nx, .int .u64 ep, .int .i64 rt, .int .i64 dp, .int .i64 ct, .int .i64 hg]) 7).run Try.prog w = .ok (.int .i64 rt) w := fun _ _ _ _ _ _ _ _ _ _ _ _ => by kernel_rfl
  have hfl : ∀ (h : Int) (fv : Value) (a : Option Addr) (n c : Nat) (w : World), (Instr.field 34 (.agg #[.int .i64 h, fv, .slice a n c]) 2).run Try.prog w = .ok (.slice a n c) w := fun _ _ _ _ _ _ => by kernel_rfl
  have hfh : ∀ (h : Int) (fv lv : Value) (w : World), (Instr.field 34 (.agg #[.int .i64 h, fv, lv]) 0).run Try.prog w = .ok (.int .i64 h) w := fun _ _ _ _ => by kernel_rfl
  go_enter Try.func9, Try.ntmps9
  go_wp2_with fail
  refine (new_k 16 _ (by omega) (by omega)).mono ?_
  rintro e w1 ⟨rfl, hd1, hf1⟩
  obtain ⟨b, hb⟩ : ∃ b, w.heap.size + 2 = b := ⟨_, rfl⟩
  obtain ⟨mc, hmc⟩ : ∃ mc, w.heap.size + 1 = mc := ⟨_, rfl⟩
  obtain ⟨ml, hml⟩ : ∃ ml, w.heap.size = ml := ⟨_, rfl⟩
  rw [hb, hmc, hml] at hd1
  rw [hb]
  have HN : Hid (w.heap.size ≤ b ∧ w.heap.size ≤ ml ∧ w.heap.size ≤ mc) := ⟨by omega, by omega, by omega⟩
  have HD1 := Lib.hid hd1
  have HF1 := Lib.hid hf1
  clear hd1 hf1 hb hmc hml
  go_wp2_with fail
  -- Open of none
  refine (open_k w1 HD1.out (flat_new (n := 16) (by decide))).mono ?_
  rw [open_new (n := 16) (by decide)]
  rintro e w2 ⟨hf2, h2⟩
  have h2 := h2.resolve_right (by rintro ⟨T, sb, fm, h, _⟩; cases h)
  obtain ⟨_, rfl⟩ := h2
  have HD2 := Lib.hid (HD1.out.kept hf2)
  have HF2 := Lib.hid (HF1.out.trans hf2)
  clear hf2
  go_wp2_with fail
  -- Format
  refine (format_k w2 HD2.out (by decide)).mono ?_
  rw [HA.out.f0]
  rintro e w3 ⟨hf3, h3⟩
  have h3 := h3.resolve_right (fun h => h.1 rfl)
  obtain ⟨_, fm, hfm, rfl, hs3⟩ := h3
  obtain ⟨sb, hsb⟩ : ∃ sb, w2.heap.size = sb := ⟨_, rfl⟩
  rw [hsb] at hfm hs3 ⊢
  have HM3 : Hid (Mine w w3 sb b ml mc fm T1) := Lib.hid ⟨hs3, HF2.out.andThen hf3 (fun x hx => .inr (by have := HN.out; simp only [List.mem_cons, List.not_mem_nil, or_false] at hx; rcases hx with h | h | h <;> omega)), by have := HN.out; have := HF2.out.size; omega⟩
  clear hfm hs3 hf3 hsb
  go_wp2_with fail
  -- Super
  refine (super_s w3 HM3.out.sto).mono ?_
  rintro e w4 ⟨v, rfl, ⟨pv4, kv4, dv4, gv4, rfl, _⟩, hf4⟩
  unfold pageCells
  rw [HA.out.e1]
  have HM4 := Lib.hid (HM3.out.kept hf4)
  clear hf4
  go_wp2_with fail
  -- Lay(0, leaf("a"))
  refine (law_leaf _ _).mono ?_
  rintro e w5 ⟨v5, rfl, hv5, hf5⟩
  have HP5 := Lib.hid (hv5 [sb, fm, b, ml, mc] (fun x hx => by have := HM4.out.sto.lt; simp only [List.mem_cons, List.not_mem_nil, or_false] at hx; rcases hx with h | h | h | h | h <;> omega))
  have HM5 := Lib.hid (HM4.out.kept hf5)
  clear hv5 hf5
  go_wp2_with fail
  refine (lay_s 0 w5 HM5.out.sto HA.out.g1.1 HP5.out (by refine ⟨?_, ?_, ?_, ?_⟩ <;> simp [leafD, pgLeaf]) (by show (0 : Int) ≤ 0; decide) (by show (0 : Int) < 18446744073709551616; decide)).mono ?_
  rw [HA.out.l2]
  rintro e w6 ⟨rfl, hr6⟩
  obtain ⟨fm6, hm6⟩ := HM5.out.next hr6
  have HM6 := Lib.hid hm6
  clear hr6 hm6
  go_wp2_with fail
  -- Commit(2, 1, 1)
  refine (commit_k 2 1 1 w6 HM6.out.sto HA.out.g2.1 (by rw [HA.out.g2.2.2]; decide) (by rw [HA.out.g2.2.2]; decide) (by have := HA.out.g2.2.1; omega)).mono ?_
  rw [HA.out.c3]
  rintro e w7 ⟨rfl, hr7⟩
  obtain ⟨fm7, hm7⟩ := HM6.out.next hr7
  have HM7 := Lib.hid hm7
  clear hr7 hm7
  go_wp2_with fail
  -- Lay(2, leaf("b"))
  refine (law_leaf _ _).mono ?_
  rintro e w8 ⟨v8, rfl, hv8, hf8⟩
  have HP8 := Lib.hid (hv8 [sb, fm7, b, ml, mc] (fun x hx => by have := HM7.out.sto.lt; simp only [List.mem_cons, List.not_mem_nil, or_false] at hx; rcases hx with h | h | h | h | h <;> omega))
  have HM8 := Lib.hid (HM7.out.kept hf8)
  clear hv8 hf8
  go_wp2_with fail
  refine (lay_s 2 w8 HM8.out.sto HA.out.g3 HP8.out (by refine ⟨?_, ?_, ?_, ?_⟩ <;> simp [leafD, pgLeaf]) (by show (0 : Int) ≤ 0; decide) (by show (0 : Int) < 18446744073709551616; decide)).mono ?_
  rw [HA.out.l4]
  rintro e w9 ⟨rfl, hr9⟩
  obtain ⟨fm9, hm9⟩ := HM8.out.next hr9
  have HM9 := Lib.hid hm9
  clear hr9 hm9
  go_wp2_with fail
  -- Page(2)
  refine (page_s 2 w9 HM9.out.sto).mono ?_
  rw [HA.out.p4]
  rintro e wa ⟨pva, kva, dva, gva, rfl, hia, hfa⟩
  have e1 : Slc [] wa pva 1 [.string ⟨#[97]⟩, .string ⟨#[49]⟩] := (hia [] (by simp)).pairs
  have e2 : Slc [] wa kva 0 [] := (hia [] (by simp)).keys
  have e3 : Slc [] wa dva 0 [] := (hia [] (by simp)).kids
  have e4 : Slc [] wa gva 0 [] := (hia [] (by simp)).pages
  obtain ⟨ka, kc, rfl, _⟩ := e2.form
  obtain ⟨da, dc, rfl, _⟩ := e3.form
  obtain ⟨ga, gc, rfl, _⟩ := e4.form
  obtain ⟨B, o, pc, rfl, hpc, cB⟩ : ∃ B o pc, pva = .slice (some ⟨B, o, none⟩) 1 pc ∧ 1 ≤ pc ∧ wa.cell? ⟨B, o, none⟩ = some (.string ⟨#[97]⟩) := by
    rcases e1 with ⟨_, _, _, h, _⟩ | ⟨B, o, c, h, hc, _, hcs⟩
    · cases h
    · exact ⟨B, o, c, h, hc, hcs 0 _ rfl⟩
  have HMA := Lib.hid (HM9.out.kept hfa)
  clear hia hfa e1 e2 e3 e4
  unfold pageCells leafD pgLeaf
  dsimp only
  have HB : Hid (∀ wb, (wa.alloc (.cells #[.int .i64 1, .slice (some ⟨B, o, none⟩) 1 pc, .slice ka 0 kc, .slice da 0 dc, .slice ga 0 gc, .int .i64 0, .int .u64 0, .int .i64 0, .int .i64 0, .int .i64 0, .int .i64 0] 43)) = wb → Fr [] wa wb ∧ wb.cell? ⟨wa.heap.size, 1, none⟩ = some (.slice (some ⟨B, o, none⟩) 1 pc) ∧ wb.cell? ⟨B, o, none⟩ = some (.string ⟨#[97]⟩)) := Lib.hid fun wb hwb => by
    have hfb : Fr [] wa wb := by rw [← hwb]; exact Fr.alloc1 _ _
    have hbb : wb.heap[wa.heap.size]? = some (.cells #[.int .i64 1, .slice (some ⟨B, o, none⟩) 1 pc, .slice ka 0 kc, .slice da 0 dc, .slice ga 0 gc, .int .i64 0, .int .u64 0, .int .i64 0, .int .i64 0, .int .i64 0, .int .i64 0] 43 (0, 0)) := by rw [← hwb]; exact blk_new _ _
    exact ⟨hfb, by rw [blk_cell hbb 1]; rfl, hfb.cellSome cB (by simp)⟩
  clear cB
  go_wp2_with fail
  obtain ⟨wb, hwb⟩ : ∃ wb, (wa.alloc (.cells #[.int .i64 1, .slice (some ⟨B, o, none⟩) 1 pc, .slice ka 0 kc, .slice da 0 dc, .slice ga 0 gc, .int .i64 0, .int .u64 0, .int .i64 0, .int .i64 0, .int .i64 0, .int .i64 0] 43)) = wb := ⟨_, rfl⟩
  obtain ⟨hfb, cP, cB⟩ := HB.out wb hwb
  rw [hwb]
  have HMB := Lib.hid (HMA.out.kept hfb)
  clear hfb HB hwb
  -- Open
  refine (open_k wb HMB.out.sto.dev HA.out.q4).mono ?_
  obtain ⟨T5, h5, h5e, h5r⟩ := HA.out.o4
  rw [h5]
  rintro e wc ⟨hfc, hc⟩
  have hc := hc.resolve_left (fun h => by cases h.1)
  obtain ⟨T5', sb5, fm5, hT5, _, _, rfl, hs5⟩ := hc
  cases hT5
  have HS5 := Lib.hid hs5
  have HE5 := Lib.hid (And.intro h5e h5r)
  have HMC := Lib.hid (HMB.out.kept hfc)
  have cPc := hfc.cellSome cP (by simp)
  have cBc := hfc.cellSome cB (by simp)
  clear hs5 h5 h5e h5r hfc cP cB
  go_wp2_with fail
  -- Pool
  refine (poolget_s wc HMC.out.sto HA.out.m4.2.2).mono ?_
  rintro e wd ⟨fvd, lvd, rfl, _, hld, hfd⟩
  have e5 := (hld [] (by simp)).form
  rw [HA.out.m4.2.1] at e5
  obtain ⟨lad, lcd, rfl, _⟩ := e5
  have HMD := Lib.hid (HMC.out.kept hfd)
  have HSD := Lib.hid (HS5.out.kept hfd)
  have cPd := hfd.cellSome cPc (by simp)
  have cBd := hfd.cellSome cBc (by simp)
  clear hld hfd cPc cBc HS5
  go_wp2_with fail
  -- Super of the store that Open found
  refine (super_s wd HSD.out).mono ?_
  rintro e we ⟨v, rfl, ⟨pve, kve, dve, gve, rfl, _⟩, hfe'⟩
  unfold pageCells
  rw [HE5.out.1]
  have HME := Lib.hid (HMD.out.kept hfe')
  have HSE := Lib.hid (HSD.out.kept hfe')
  clear hfe' cPd cBd
  go_wp2_with fail
  refine (super_s we HSE.out).mono ?_
  rintro e wf ⟨v, rfl, ⟨pvf, kvf, dvf, gvf, rfl, _⟩, hff⟩
  unfold pageCells
  rw [HE5.out.2]
  have HMF := Lib.hid (HME.out.kept hff)
  clear hff
  go_wp2_with fail
  refine (device_s wf HMF.out.sto).mono ?_
  rintro e w' ⟨rfl, rfl⟩
  go_wp2_with fail
  refine (poolget_s wf HMF.out.sto HA.out.m4.2.2).mono ?_
  rintro e wg ⟨fvg, lvg, rfl, _, _, hfg⟩
  rw [HA.out.m4.1]
  have HMG := Lib.hid (HMF.out.kept hfg)
  clear hfg
  go_wp2_with fail
  go_ret
  exact ⟨rfl, HMG.out.fr⟩
end Go.Proofs.Ytgpeoonpoogniaa

