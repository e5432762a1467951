/- a part. -/
import Derived.Test.YtgpohemcfgepeaaGreatG9
import Derived.Maps.AppendAt
namespace Go.Proofs.YtgpohemcfgepeaaGreat
open Go.RowKit Go.MapKept
def pgZero : PageD := ⟨0, [], [], [], [], 0, 0, 0, 0, 0, 0⟩
theorem zero_in (S : List Nat) (w : World) : PageIn S w pgZero nilV nilV nilV nilV := ⟨Slc.nil _ _, Slc.nil _ _, Slc.nil _ _, Slc.nil _ _⟩
def pageD (D : Dv) (n : Int) : PageD × Int :=
  if useE D n 0 ≠ 0 then (pgZero, useE D n 0)
  else match decP n (D.bytes n) with
    | none => (pgZero, 50)
    | some p => if p.kind = 4 then (pgZero, 50) else (p, 0)
def StD.page (T : StD) (n : Int) : PageD × Int := pageD T.dev n
def PageOut (w : World) (r : PageD × Int) (e : Ending) (w' : World) : Prop := ∃ pv kv dv gv, e = .returned (.tuple #[.agg (pageCells r.1 pv kv dv gv).toArray, .int .i64 r.2]) ∧ (∀ S : List Nat, (∀ x, x ∈ S → x < w.heap.size) → PageIn S w' r.1 pv kv dv gv) ∧ Fr [] w w'
theorem page_results {tmps : Array Value} {w : World} {g : Nat} {pc : List Value} {x : Int} (h4 : tmps.getD 4 undef = .pointer (some ⟨g, 0, none⟩)) (h5 : tmps.getD 5 undef = .int .i64 x)
    (hp : w.heap[g]? = some (.cells pc.toArray 90 (0, 0))) (hpl : pc.length = 11) :
    (results Tryz.f73 tmps).run Tryz.prog w = .ok (.tuple #[.agg pc.toArray, .int .i64 x]) w := by
  obtain ⟨p0, p1, p2, p3, p4, p5, p6, p7, p8, p9, p10, rfl⟩ : ∃ p0 p1 p2 p3 p4 p5 p6 p7 p8 p9 p10, pc = [p0, p1, p2, p3, p4, p5, p6, p7, p8, p9, p10] := by
    match pc, hpl with
    | [p0, p1, p2, p3, p4, p5, p6, p7, p8, p9, p10], _ => exact ⟨_, _, _, _, _, _, _, _, _, _, _, rfl⟩
  have q0 := blk_cell hp 0
  have q1 := blk_cell hp 1
  have q2 := blk_cell hp 2
  have q3 := blk_cell hp 3
  have q4 := blk_cell hp 4
  have q5 := blk_cell hp 5
  have q6 := blk_cell hp 6
  have q7 := blk_cell hp 7
  have q8 := blk_cell hp 8
  have q9 := blk_cell hp 9
  have q10 := blk_cell hp 10
  rw [Array.getD_eq_getD_getElem?] at h4 h5
  simp only [List.getElem?_toArray, List.getElem?_cons_zero, List.getElem?_cons_succ] at q0 q1 q2 q3 q4 q5 q6 q7 q8 q9 q10
  simp [results, Tryz.results73, go_sem, h4, h5, q0, q1, q2, q3, q4, q5, q6, q7, q8, q9, q10]
theorem page_told {tmps : Array Value} {w W4 : World} {p : PageD} {pv kv dv gv : Value} {x : Int} {R : PageD × Int} (hR : R = (p, x))
    (h4 : tmps.getD 4 undef = .pointer (some ⟨w.heap.size, 0, none⟩)) (h5 : tmps.getD 5 undef = .int .i64 x) (hb : W4.heap[w.heap.size]? = some (.cells zeroPage.toArray 90 (0, 0)))
    (hf : Fr [] w W4) (hi : ∀ S : List Nat, (∀ x, x ∈ S → x < w.heap.size + 1) → PageIn S W4 p pv kv dv gv) :
    bodyPost Tryz.prog Tryz.f73 (PageOut w R) Exit.ret { tmps := tmps, defers := [] }
      ((((((((((((W4).setCell ⟨w.heap.size, 0, none⟩ (.int .i64 p.kind)).setCell ⟨w.heap.size, 1, none⟩ pv).setCell ⟨w.heap.size, 2, none⟩ kv).setCell ⟨w.heap.size, 3, none⟩ dv).setCell ⟨w.heap.size, 4, none⟩ gv).setCell ⟨w.heap.size, 5, none⟩ (.int .i64 p.next)).setCell ⟨w.heap.size, 6, none⟩ (.int .u64 p.epoch)).setCell ⟨w.heap.size, 7, none⟩ (.int .i64 p.root)).setCell ⟨w.heap.size, 8, none⟩ (.int .i64 p.depth)).setCell ⟨w.heap.size, 9, none⟩ (.int .i64 p.count)).setCell ⟨w.heap.size, 10, none⟩ (.int .i64 p.high)) := by
  subst hR
  have hs := set11 hb rfl (.int .i64 p.kind) pv kv dv gv (.int .i64 p.next) (.int .u64 p.epoch) (.int .i64 p.root) (.int .i64 p.depth) (.int .i64 p.count) (.int .i64 p.high)
  refine bodyPost_ret (v := .tuple #[.agg (pageCells p pv kv dv gv).toArray, .int .i64 x]) (page_results h4 h5 hs.1 rfl) rfl ⟨pv, kv, dv, gv, rfl, fun S hS => ?_, (hf.nil.trans hs.2).drop (by simp)⟩
  exact ((hi (w.heap.size :: S) (fun x hx => by
    rcases List.mem_cons.1 hx with rfl | hx
    · omega
    · have := hS x hx; omega)).kept (hs.2.mono (by simp))).mono (fun x hx => List.mem_cons_of_mem _ hx)
set_option maxRecDepth 100000 in
set_option maxHeartbeats 2000000 in
theorem page_d {sb b ml mc : Nat} {D : Dv} (n : Int) (w : World) (hc0 : w.cell? ⟨sb, 0, none⟩ = some (.pointer (some ⟨b, 0, none⟩))) (hdv : DevAt w b ml mc D) :
    Calls Tryz.prog 73 #[.pointer (some ⟨sb, 0, none⟩), .int .i64 n] w (PageOut w (pageD D n)) := by
  obtain ⟨W1, hW1⟩ : ∃ W1, w.alloc (.cells zeroPage.toArray 90) = W1 := ⟨_, rfl⟩
  have hal : Fr [] w W1 := by rw [← hW1]; exact Fr.alloc1 w _
  have hbk : W1.heap[w.heap.size]? = some (.cells zeroPage.toArray 90 (0, 0)) := by rw [← hW1]; exact blk_new w _
  have c0' := hal.cellSome hc0 (by simp)
  have HAL := Lib.hid hal
  have HWS : Hid (W1.heap.size = w.heap.size + 1) := Lib.hid (by rw [← hW1]; simp)
  have HBK := Lib.hid hbk
  have HDV := Lib.hid (hdv.kept hal)
  have HPG : Hid (pageD D n = if useE D n 0 ≠ 0 then (pgZero, useE D n 0) else match decP n (D.bytes n) with | none => (pgZero, 50) | some p => if p.kind = 4 then (pgZero, 50) else (p, 0)) := Lib.hid rfl
  have q0 := blk_cell hbk 0
  have q1 := blk_cell hbk 1
  have q2' := blk_cell hbk 2
  have q3' := blk_cell hbk 3
  have q4' := blk_cell hbk 4
  have q5 := blk_cell hbk 5
  have q6 := blk_cell hbk 6
  have q7 := blk_cell hbk 7
  have q8 := blk_cell hbk 8
  have q9 := blk_cell hbk 9
  have q10 := blk_cell hbk 10
  simp only [zeroPage, List.getElem?_toArray, List.getElem?_cons_zero, List.getElem?_cons_succ] at q0 q1 q2' q3' q4' q5 q6 q7 q8 q9 q10
  clear hc0 hdv hal
  unfold zeroPage at hW1
  go_enter Tryz.func73, Tryz.ntmps73
  go_upto_region 3 with fail
  clear hW1
  obtain ⟨u, hu⟩ : ∃ u, useE D n 0 = u := ⟨_, rfl⟩
  by_cases h0 : u = 0
  · subst h0
    have HRD := Lib.hid (read_k n W1 HDV.out hu)
    have hlen := HDV.out.fine.bytes_length n
    obtain ⟨L, hL⟩ : ∃ L, D.bytes n = L := ⟨_, rfl⟩
    rw [hL] at HRD hlen HPG
    rw [hu] at HPG
    have HPG1 : Hid (pageD D n = match decP n L with | none => (pgZero, 50) | some p => if p.kind = 4 then (pgZero, 50) else (p, 0)) := Lib.hid (by rw [HPG.out, if_neg (by simp)])
    have HLN := Lib.hid hlen
    clear hu hL hlen hbk
    go_wp2_with fail
    with_reducible refine HRD.out.mono ?_
    rintro e w2 ⟨rfl, hb2, hf2, hs2⟩
    have HDC := Lib.hid (decode_k n w2 (hb2.bytes (S := []) (by simp) HLN.out) (by rw [HLN.out]; decide))
    have HF2 := Lib.hid (HAL.out.trans hf2)
    have HB2 := Lib.hid (hf2.heap HBK.out (by simp))
    have HSZ : Hid (w.heap.size + 1 ≤ w2.heap.size) := Lib.hid (by have h1 := hf2.size; have h2 := HWS.out; omega)
    clear hb2 hf2 hs2 HRD q0 q1 q2' q3' q4' q5 q6 q7 q8 q9 q10
    go_wp2_with fail
    with_reducible refine HDC.out.mono ?_
    rintro e w3 ⟨hf3, h3⟩
    have HF3 := Lib.hid (HF2.out.trans hf3)
    have hb3 := hf3.heap HB2.out (by simp)
    have HB3 := Lib.hid hb3
    clear HDC
    rcases h3 with ⟨p, hp, pv, kv, dv, gv, rfl, hi⟩ | ⟨hp, rfl⟩
    · obtain ⟨pa, pc, rfl, _⟩ := Slc.form (hi [] (by simp)).pairs
      obtain ⟨ka, kc, rfl, _⟩ := Slc.form (hi [] (by simp)).keys
      obtain ⟨da, dc, rfl, _⟩ := Slc.form (hi [] (by simp)).kids
      obtain ⟨ga, gc, rfl, _⟩ := Slc.form (hi [] (by simp)).pages
      have HI := Lib.hid hi
      have HPG2 : Hid (pageD D n = if p.kind = 4 then (pgZero, 50) else (p, 0)) := Lib.hid (by rw [HPG1.out, hp])
      obtain ⟨W4, hW4⟩ : ∃ W4, w3.alloc (.cells (pageCells p (.slice pa p.pairs.length pc) (.slice ka p.keys.length kc) (.slice da p.kids.length dc) (.slice ga p.pages.length gc)).toArray 90) = W4 := ⟨_, rfl⟩
      have hal4 : Fr [] w3 W4 := by rw [← hW4]; exact Fr.alloc1 w3 _
      have hbk4 : W4.heap[w3.heap.size]? = some (.cells (pageCells p (.slice pa p.pairs.length pc) (.slice ka p.keys.length kc) (.slice da p.kids.length dc) (.slice ga p.pages.length gc)).toArray 90 (0, 0)) := by rw [← hW4]; exact blk_new w3 _
      have hb4 := hal4.heap hb3 (by simp)
      have HI4 : Hid (∀ S : List Nat, (∀ x, x ∈ S → x < w2.heap.size) → PageIn S W4 p (.slice pa p.pairs.length pc) (.slice ka p.keys.length kc) (.slice da p.kids.length dc) (.slice ga p.pages.length gc)) := Lib.hid fun S hS => (hi S hS).kept hal4.nil
      have HB4 := Lib.hid hb4
      have HF4 := Lib.hid (HF3.out.trans hal4)
      unfold pageCells at hW4 hbk4 HI4 ⊢
      clear hi hp hf3 hb3 HI hal4
      obtain ⟨kd, prs, ks, ds, gs, nx, ep, rt, dp, ct, hg⟩ := p
      dsimp only at *
      have z0 := blk_cell hbk4 0
      have z1 := blk_cell hbk4 1
      have z2 := blk_cell hbk4 2
      have z3 := blk_cell hbk4 3
      have z4 := blk_cell hbk4 4
      have z5 := blk_cell hbk4 5
      have z6 := blk_cell hbk4 6
      have z7 := blk_cell hbk4 7
      have z8 := blk_cell hbk4 8
      have z9 := blk_cell hbk4 9
      have z10 := blk_cell hbk4 10
      simp only [List.getElem?_toArray, List.getElem?_cons_zero, List.getElem?_cons_succ] at z0 z1 z2 z3 z4 z5 z6 z7 z8 z9 z10
      have r0 := blk_cell hb4 0
      have r1 := blk_cell hb4 1
      have r2 := blk_cell hb4 2
      have r3 := blk_cell hb4 3
      have r4 := blk_cell hb4 4
      have r5 := blk_cell hb4 5
      have r6 := blk_cell hb4 6
      have r7 := blk_cell hb4 7
      have r8 := blk_cell hb4 8
      have r9 := blk_cell hb4 9
      have r10 := blk_cell hb4 10
      have y0 := blk_free hb4 0
      have y1 := blk_free hb4 1
      have y2 := blk_free hb4 2
      have y3 := blk_free hb4 3
      have y4 := blk_free hb4 4
      have y5 := blk_free hb4 5
      have y6 := blk_free hb4 6
      have y7 := blk_free hb4 7
      have y8 := blk_free hb4 8
      have y9 := blk_free hb4 9
      have y10 := blk_free hb4 10
      simp only [zeroPage, List.getElem?_toArray, List.getElem?_cons_zero, List.getElem?_cons_succ] at r0 r1 r2 r3 r4 r5 r6 r7 r8 r9 r10
      clear hbk4 hb4
      have hsz : w.heap.size + 1 ≤ w2.heap.size := by have h1 := HF2.out.size; exact HSZ.out
      have HI5 : Hid (∀ S : List Nat, (∀ x, x ∈ S → x < w.heap.size + 1) → PageIn S W4 ⟨kd, prs, ks, ds, gs, nx, ep, rt, dp, ct, hg⟩ (.slice pa prs.length pc) (.slice ka ks.length kc) (.slice da ds.length dc) (.slice ga gs.length gc)) := Lib.hid fun S hS => HI4.out S fun x hx => by have := hS x hx; omega
      by_cases h4 : kd = 4
      · subst h4
        have HP : Hid (pageD D n = (pgZero, 50)) := Lib.hid (by rw [HPG2.out, if_pos rfl])
        clear HPG HPG1 HPG2 hsz z1 z2 z3 z4 z5 z6 z7 z8 z9 z10
        go_wp2_with fail
        exact page_told (p := pgZero) (pv := nilV) (kv := nilV) (dv := nilV) (gv := nilV) HP.out rfl rfl HB4.out HF4.out (fun S _ => zero_in S _)
      · have b4 : (kd == 4) = false := by simpa using h4
        have HP : Hid (pageD D n = (⟨kd, prs, ks, ds, gs, nx, ep, rt, dp, ct, hg⟩, 0)) := Lib.hid (by rw [HPG2.out, if_neg h4])
        clear HPG HPG1 HPG2 hsz h4
        go_wp2_with fail
        exact page_told (p := ⟨kd, prs, ks, ds, gs, nx, ep, rt, dp, ct, hg⟩) (pv := .slice pa prs.length pc) (kv := .slice ka ks.length kc) (dv := .slice da ds.length dc) (gv := .slice ga gs.length gc) HP.out rfl rfl HB4.out HF4.out HI5.out
    · have HP : Hid (pageD D n = (pgZero, 50)) := Lib.hid (by rw [HPG1.out, hp])
      obtain ⟨W4, hW4⟩ : ∃ W4, w3.alloc (.cells zeroPage.toArray 90) = W4 := ⟨_, rfl⟩
      have hal4 : Fr [] w3 W4 := by rw [← hW4]; exact Fr.alloc1 w3 _
      have hb4 := hal4.heap hb3 (by simp)
      have HB4 := Lib.hid hb4
      have HF4 := Lib.hid (HF3.out.trans hal4)
      have r0 := blk_cell hb4 0
      have r1 := blk_cell hb4 1
      have r2 := blk_cell hb4 2
      have r3 := blk_cell hb4 3
      have r4 := blk_cell hb4 4
      have r5 := blk_cell hb4 5
      have r6 := blk_cell hb4 6
      have r7 := blk_cell hb4 7
      have r8 := blk_cell hb4 8
      have r9 := blk_cell hb4 9
      have r10 := blk_cell hb4 10
      have y0 := blk_free hb4 0
      have y1 := blk_free hb4 1
      have y2 := blk_free hb4 2
      have y3 := blk_free hb4 3
      have y4 := blk_free hb4 4
      have y5 := blk_free hb4 5
      have y6 := blk_free hb4 6
      have y7 := blk_free hb4 7
      have y8 := blk_free hb4 8
      have y9 := blk_free hb4 9
      have y10 := blk_free hb4 10
      simp only [zeroPage, List.getElem?_toArray, List.getElem?_cons_zero, List.getElem?_cons_succ] at r0 r1 r2 r3 r4 r5 r6 r7 r8 r9 r10
      clear HPG HPG1 hb4 hb3 hf3 hp hal4
      subst hW4
      unfold zeroPage at HB4 HF4 r0 r1 r2 r3 r4 r5 r6 r7 r8 r9 r10 y0 y1 y2 y3 y4 y5 y6 y7 y8 y9 y10 ⊢
      go_wp2_with fail
      exact page_told (p := pgZero) (pv := nilV) (kv := nilV) (dv := nilV) (gv := nilV) HP.out rfl rfl HB4.out HF4.out (fun S _ => zero_in S _)
  · have HRD := Lib.hid (read_no n u W1 HDV.out hu h0)
    have HP : Hid (pageD D n = (pgZero, u)) := Lib.hid (by rw [HPG.out, hu, if_pos h0])
    have b0 : (u != 0) = true := by simpa using h0
    clear hu hbk HPG
    go_wp2_with fail
    with_reducible refine HRD.out.mono ?_
    rintro e w2 ⟨rfl, rfl⟩
    have HB2 := HBK
    have HF2 := HAL
    have hb4 := HB2.out
    have r0 := blk_cell hb4 0
    have r1 := blk_cell hb4 1
    have r2 := blk_cell hb4 2
    have r3 := blk_cell hb4 3
    have r4 := blk_cell hb4 4
    have r5 := blk_cell hb4 5
    have r6 := blk_cell hb4 6
    have r7 := blk_cell hb4 7
    have r8 := blk_cell hb4 8
    have r9 := blk_cell hb4 9
    have r10 := blk_cell hb4 10
    have y0 := blk_free hb4 0
    have y1 := blk_free hb4 1
    have y2 := blk_free hb4 2
    have y3 := blk_free hb4 3
    have y4 := blk_free hb4 4
    have y5 := blk_free hb4 5
    have y6 := blk_free hb4 6
    have y7 := blk_free hb4 7
    have y8 := blk_free hb4 8
    have y9 := blk_free hb4 9
    have y10 := blk_free hb4 10
    simp only [zeroPage, List.getElem?_toArray, List.getElem?_cons_zero, List.getElem?_cons_succ] at r0 r1 r2 r3 r4 r5 r6 r7 r8 r9 r10
    clear hb4 HRD q0 q1 q2' q3' q4' q5 q6 q7 q8 q9 q10 h0
    go_wp2_with fail
    exact page_told (p := pgZero) (pv := nilV) (kv := nilV) (dv := nilV) (gv := nilV) HP.out rfl rfl HB2.out HF2.out (fun S _ => zero_in S _)
theorem page_s {sb b ml mc fm : Nat} {T : StD} (n : Int) (w : World) (h : StoAt w sb b ml mc fm T) :
    Calls Tryz.prog 73 #[.pointer (some ⟨sb, 0, none⟩), .int .i64 n] w (PageOut w (T.page n)) := by
  obtain ⟨qv, q2, q3, q4, lv, bf, bl, pf, pl, hb, hv⟩ := h.blk
  exact page_d n w (by rw [blk_cell hb 0]; rfl) h.dev
end Go.Proofs.YtgpohemcfgepeaaGreat

namespace Go.Proofs.YtgpohemcfgepeaaGreat
open Go.RowKit Go.MapKept
theorem super_results {tmps : Array Value} {w : World} {g : Nat} {pc : List Value} (h4 : tmps.getD 2 undef = .pointer (some ⟨g, 0, none⟩))
    (hp : w.heap[g]? = some (.cells pc.toArray 90 (0, 0))) (hpl : pc.length = 11) :
    (results Tryz.f109 tmps).run Tryz.prog w = .ok (.agg pc.toArray) w := by
  obtain ⟨p0, p1, p2, p3, p4, p5, p6, p7, p8, p9, p10, rfl⟩ : ∃ p0 p1 p2 p3 p4 p5 p6 p7 p8 p9 p10, pc = [p0, p1, p2, p3, p4, p5, p6, p7, p8, p9, p10] := by
    match pc, hpl with
    | [p0, p1, p2, p3, p4, p5, p6, p7, p8, p9, p10], _ => exact ⟨_, _, _, _, _, _, _, _, _, _, _, rfl⟩
  have q0 := blk_cell hp 0
  have q1 := blk_cell hp 1
  have q2 := blk_cell hp 2
  have q3 := blk_cell hp 3
  have q4 := blk_cell hp 4
  have q5 := blk_cell hp 5
  have q6 := blk_cell hp 6
  have q7 := blk_cell hp 7
  have q8 := blk_cell hp 8
  have q9 := blk_cell hp 9
  have q10 := blk_cell hp 10
  rw [Array.getD_eq_getD_getElem?] at h4
  simp only [List.getElem?_toArray, List.getElem?_cons_zero, List.getElem?_cons_succ] at q0 q1 q2 q3 q4 q5 q6 q7 q8 q9 q10
  simp [results, Tryz.results109, go_sem, h4, q0, q1, q2, q3, q4, q5, q6, q7, q8, q9, q10]
set_option maxRecDepth 100000 in
set_option maxHeartbeats 1000000 in
theorem super_s {sb b ml mc fm : Nat} {T : StD} (w : World) (h : StoAt w sb b ml mc fm T) :
    Calls Tryz.prog 109 #[.pointer (some ⟨sb, 0, none⟩)] w fun e w' => ∃ v, e = .returned v ∧ PageAt [sb, fm, b, ml, mc] w' v T.super ∧ Fr [] w w' := by
  obtain ⟨qv, q2, q3, q4, lv, bf, bl, pf, pl, hb, hv⟩ := h.blk
  obtain ⟨⟨qa, qc, rfl⟩, ⟨ra, rc, rfl⟩, ⟨sa, sc, rfl⟩, ⟨ta, tc, rfl⟩, _, _, _, _, _⟩ := hv.sl
  obtain ⟨W1, hW1⟩ : ∃ W1, w.alloc (.cells zeroPage.toArray 90) = W1 := ⟨_, rfl⟩
  have hal : Fr [] w W1 := by rw [← hW1]; exact Fr.alloc1 w _
  have hbk : W1.heap[w.heap.size]? = some (.cells zeroPage.toArray 90 (0, 0)) := by rw [← hW1]; exact blk_new w _
  have hb1 := hal.heap hb (by simp)
  have c1 := blk_cell hb1 1
  have c2 := blk_cell hb1 2
  have c3 := blk_cell hb1 3
  have c4 := blk_cell hb1 4
  have c5 := blk_cell hb1 5
  have c6 := blk_cell hb1 6
  have c7 := blk_cell hb1 7
  have c8 := blk_cell hb1 8
  have c9 := blk_cell hb1 9
  have c10 := blk_cell hb1 10
  have c11 := blk_cell hb1 11
  simp only [stL, List.getElem?_toArray, List.getElem?_cons_zero, List.getElem?_cons_succ] at c1 c2 c3 c4 c5 c6 c7 c8 c9 c10 c11
  have q0 := blk_cell hbk 0
  have q1 := blk_cell hbk 1
  have q2' := blk_cell hbk 2
  have q3' := blk_cell hbk 3
  have q4' := blk_cell hbk 4
  have q5 := blk_cell hbk 5
  have q6 := blk_cell hbk 6
  have q7 := blk_cell hbk 7
  have q8 := blk_cell hbk 8
  have q9 := blk_cell hbk 9
  have q10 := blk_cell hbk 10
  simp only [zeroPage, List.getElem?_toArray, List.getElem?_cons_zero, List.getElem?_cons_succ] at q0 q1 q2' q3' q4' q5 q6 q7 q8 q9 q10
  have y0 := blk_free hbk 0
  have y1 := blk_free hbk 1
  have y2 := blk_free hbk 2
  have y3 := blk_free hbk 3
  have y4 := blk_free hbk 4
  have y5 := blk_free hbk 5
  have y6 := blk_free hbk 6
  have y7 := blk_free hbk 7
  have y8 := blk_free hbk 8
  have y9 := blk_free hbk 9
  have y10 := blk_free hbk 10
  have HAL := Lib.hid hal
  have HBK := Lib.hid hbk
  have hlt := h.lt
  have HV : Hid (PageIn [w.heap.size, sb, fm, b, ml, mc] W1 T.super (.slice qa T.super.pairs.length qc) (.slice ra T.super.keys.length rc) (.slice sa T.super.kids.length sc) (.slice ta T.super.pages.length tc)) :=
    Lib.hid ((hv.super.more (fun x hx => by simp only [List.mem_cons, List.not_mem_nil, or_false] at hx ⊢; omega)).kept hal.nil)
  clear h hb hv hal hbk hb1 hlt
  unfold zeroPage at hW1
  go_enter Tryz.func109, Tryz.ntmps109
  go_wp2_with fail
  have hs := set11 HBK.out rfl (.int .i64 T.super.kind) (.slice qa T.super.pairs.length qc) (.slice ra T.super.keys.length rc) (.slice sa T.super.kids.length sc) (.slice ta T.super.pages.length tc) (.int .i64 T.super.next) (.int .u64 T.super.epoch) (.int .i64 T.super.root) (.int .i64 T.super.depth) (.int .i64 T.super.count) (.int .i64 T.super.high)
  refine bodyPost_ret (v := .agg (pageCells T.super _ _ _ _).toArray) (super_results rfl hs.1 rfl) rfl ⟨_, rfl, ⟨_, _, _, _, rfl, ?_⟩, (HAL.out.nil.trans hs.2).drop (by simp)⟩
  exact (HV.out.kept (hs.2.mono (by simp))).mono (fun x hx => List.mem_cons_of_mem _ hx)
end Go.Proofs.YtgpohemcfgepeaaGreat

namespace Go.Proofs.YtgpohemcfgepeaaGreat
open Go.RowKit Go.MapKept
theorem slc_aside {S R : List Nat} {w w' : World} {v : Value} {n : Nat} {cs : List Value} (h : Slc S w v n cs) (h0 : n = 0 → cs = []) (ha : ∀ B o n' c, v = .slice (some ⟨B, o, none⟩) n' c → n' ≠ 0 → B ∉ R) (hf : Fr R w w') : Slc S w' v n cs := by
  rcases h with h | ⟨B, off, cap, hv, hc, hs, hcs⟩
  · exact .inl h
  · refine .inr ⟨B, off, cap, hv, hc, hs, ?_⟩
    by_cases hn : n = 0
    · rw [h0 hn]; intro i v hv; simp at hv
    · exact hcs.kept hf (ha B off n cap hv hn)
theorem StoAt.aside {R : List Nat} {w w' : World} {sb b ml mc fm : Nat} {T : StD} (h : StoAt w sb b ml mc fm T) (ha : StoAp w sb R) (hf : Fr R w w') (hd : DevAt w' b ml mc T.dev) (h1 : sb ∉ R) (h5 : fm ∉ R) : StoAt w' sb b ml mc fm T := by
  obtain ⟨pv, kv, dv, gv, lv, bf, bl, pf, pl, hb, hv⟩ := h.blk
  have key : ∀ (i : Nat) (v : Value), (stL b fm T.super pv kv dv gv lv T.base.high bf bl T.pool.high pf pl)[i]? = some v → ∀ B o n' c, v = .slice (some ⟨B, o, none⟩) n' c → n' ≠ 0 → B ∉ R := fun i v hi B o n' c hv hn =>
    ha i B o n' c (by rw [blk_cell hb, List.getElem?_toArray, hi, hv]) hn
  have z : ∀ {α : Type} {l : List α} {f : α → Value}, l.length = 0 → l.map f = [] := fun h => by rw [List.eq_nil_of_length_eq_zero h]; rfl
  refine ⟨⟨pv, kv, dv, gv, lv, bf, bl, pf, pl, hf.heap hb h1, ⟨⟨?_, ?_, ?_, ?_⟩, ?_, ?_, ?_, ?_, ?_⟩⟩, h.map.kept hf h5, hd, h.ne⟩
  · exact slc_aside hv.super.pairs (fun h => by rw [List.eq_nil_of_length_eq_zero h]; rfl) (key 2 pv rfl) hf
  · exact slc_aside hv.super.keys (fun h => by rw [List.eq_nil_of_length_eq_zero h]; rfl) (key 3 kv rfl) hf
  · exact slc_aside hv.super.kids (fun h => by rw [List.eq_nil_of_length_eq_zero h]; rfl) (key 4 dv rfl) hf
  · exact slc_aside hv.super.pages (fun h => by rw [List.eq_nil_of_length_eq_zero h]; rfl) (key 5 gv rfl) hf
  · exact slc_aside hv.lists z (key 12 lv rfl) hf
  · exact slc_aside hv.bfree z (key 14 bf rfl) hf
  · exact slc_aside hv.blimbo z (key 15 bl rfl) hf
  · exact slc_aside hv.pfree z (key 17 pf rfl) hf
  · exact slc_aside hv.plimbo z (key 18 pl rfl) hf
theorem slc_lt {S : List Nat} {w : World} {B o n c : Nat} {cs : List Value} {m : Nat} (h : Slc S w (.slice (some ⟨B, o, none⟩) n c) m cs) (h0 : n ≠ 0) (hc : n = 0 ∨ cs ≠ []) : B < w.heap.size := by
  rcases h with ⟨a, c', h, _⟩ | ⟨B', o', c', h, _, hs, hcs⟩
  · cases h; exact absurd rfl h0
  · cases h
    cases hq : cs with
    | nil => rcases hc with hc | hc
             · exact absurd hc h0
             · exact absurd hq hc
    | cons x l =>
      have := lt_of_cell (hcs 0 x (by simp [hq]))
      simpa using this
theorem StoAt.slcLt {w : World} {sb b ml mc fm : Nat} {T : StD} (h : StoAt w sb b ml mc fm T) (i B o n c : Nat) (hc : w.cell? ⟨sb, i, none⟩ = some (.slice (some ⟨B, o, none⟩) n c)) (hn : n ≠ 0) : B < w.heap.size := by
  obtain ⟨pv, kv, dv, gv, lv, bf, bl, pf, pl, hb, hv⟩ := h.blk
  rw [blk_cell hb, List.getElem?_toArray] at hc
  have nz : ∀ {α : Type} {l : List α} {f : α → Value} {v : Value} {cs : List Value}, Slc [sb, fm, b, ml, mc] w v l.length cs → v = .slice (some ⟨B, o, none⟩) n c → l ≠ [] := fun hs hv hl => by
    obtain ⟨a, c', h1, _⟩ := Slc.form hs
    rw [hv] at h1
    rw [hl] at h1
    cases h1
    exact hn rfl
  have key : ∀ {α : Type} {l : List α} {v : Value} {cs : List Value}, Slc [sb, fm, b, ml, mc] w v l.length cs → (l ≠ [] → cs ≠ []) → v = .slice (some ⟨B, o, none⟩) n c → B < w.heap.size := fun hs h0 hv => by
    have h1 := nz (f := fun _ => nilV) hs hv
    rw [hv] at hs
    exact slc_lt hs hn (.inr (h0 h1))
  have mp : ∀ {α : Type} {l : List α} {f : α → Value}, l ≠ [] → l.map f ≠ [] := fun h => by simpa using h
  have hp : T.super.pairs ≠ [] → prCells T.super.pairs ≠ [] := fun h => by
    cases hq : T.super.pairs with
    | nil => exact absurd hq h
    | cons x l => simp [prCells]
  unfold stL at hc
  match i, hc with
  | 2, hc => exact key hv.super.pairs hp (by simpa using hc)
  | 3, hc => exact key hv.super.keys mp (by simpa using hc)
  | 4, hc => exact key hv.super.kids mp (by simpa using hc)
  | 5, hc => exact key hv.super.pages mp (by simpa using hc)
  | 12, hc => exact key hv.lists mp (by simpa using hc)
  | 14, hc => exact key hv.bfree mp (by simpa using hc)
  | 15, hc => exact key hv.blimbo mp (by simpa using hc)
  | 17, hc => exact key hv.pfree mp (by simpa using hc)
  | 18, hc => exact key hv.plimbo mp (by simpa using hc)
  | 0, hc | 1, hc | 6, hc | 7, hc | 8, hc | 9, hc | 10, hc | 11, hc | 13, hc | 16, hc | 19, hc => simp at hc
  | (i + 20), hc => simp at hc
theorem ownI_one {w0 wr : World} {v : Value} {l : List Int} (x : Int) (h : OwnI w0 wr v l) (hl : l.length ≤ 1000000) (hs : w0.heap.size ≤ wr.heap.size) (ty : TypeId) :
    ∃ v' w', (Builtin.append_ #[70, 70] ty #[v, .slice (some ⟨wr.heap.size, 0, none⟩) 1 1]).run Tryz.prog (wr.alloc (.cells #[.int .i64 x] 3)) = .ok v' w' ∧ OwnI w0 w' v' (l ++ [x]) ∧ Fr v.ownBlock.toList (wr.alloc (.cells #[.int .i64 x] 3)) w' ∧
      (v'.ownBlock = v.ownBlock ∨ v'.ownBlock = some (wr.heap.size + 1)) := by
  obtain ⟨i0, hi0, hz0, hz1, hz2⟩ := info_parts Tryz.info3i
  obtain ⟨v', w', hr, ho, hg, _, hw⟩ := run_append_own_at (P := Tryz.prog) (wr.alloc (.cells #[.int .i64 x] 3)) w0.heap.size 70 ty 3 i0 (.int .i64 0) 1 8 Tryz.underlying70 hi0 hz0 hz1 hz2 rfl (by decide) v l.length (l.map intV)
    (ownsKept h (Fr.alloc1 wr (.cells #[.int .i64 x] 3)) (by simp)) ⟨wr.heap.size, 0, none⟩ 1 1 [intV x] rfl (fun j u hj => by
      match j, hj with
      | 0, hj =>
        rw [addr_add, blk_cell (blk_new wr (.cells #[.int .i64 x] 3))]
        exact hj) (fun u hu => by simp at hu; subst hu; rfl) (by unfold maxLen; omega) (by omega) (by simp; omega)
  refine ⟨v', w', hr, ?_, Fr.grown hg, ?_⟩
  · unfold OwnI
    rw [List.length_append, List.map_append]
    exact ho
  · simpa using hw
theorem listsP_len (p : PoolD) : p.listsP.length = (p.free.length + p.limbo.length + 199) / 200 := by
  unfold PoolD.listsP chunkL PoolD.turn
  rw [List.length_map, List.length_range, turnL_length]
theorem take_lists {T : StD} (h : T.take.2.1 = 0) : T.take.2.2.pool.listsP.length ≤ T.pool.listsP.length := by
  rw [listsP_len, listsP_len]
  unfold StD.take at h ⊢
  split
  · show ((T.pool.take T.dev.n).1.free.length + (T.pool.take T.dev.n).1.limbo.length + 199) / 200 ≤ _
    unfold PoolD.take
    split
    · rename_i hq
      simp [hq]
      omega
    · split <;> simp_all
  · rename_i he
    rw [if_neg he] at h
    exact absurd h he
def StD.takes : Nat → List Int → StD → List Int × Int × StD
  | 0, ps, T => (ps, 0, T)
  | f + 1, ps, T => if T.pool.listsP.length ≤ ps.length then (ps, 0, T) else if T.take.2.1 ≠ 0 then ([], T.take.2.1, T.take.2.2) else StD.takes f (ps ++ [T.take.1]) T.take.2.2
theorem takes_stop {T : StD} {ps : List Int} (f : Nat) (h : T.pool.listsP.length ≤ ps.length) : StD.takes f ps T = (ps, 0, T) := by
  cases f with
  | zero => rfl
  | succ f => unfold StD.takes; rw [if_pos h]
def listPg (ps : List Int) (ls : List (List Int)) (i : Nat) : PageD := pgFree 0 (ls.getD i []) (ps.getD (i + 1) 0)
def StD.puts (ps : List Int) (ls : List (List Int)) : Nat → Nat → StD → Int × StD
  | 0, _, T => (0, T)
  | f + 1, i, T => if (T.write (ps.getD i 0) (listPg ps ls i)).1 ≠ 0 then T.write (ps.getD i 0) (listPg ps ls i) else StD.puts ps ls f (i + 1) (T.write (ps.getD i 0) (listPg ps ls i)).2
def StD.listed (T : StD) : List Int × Int × StD :=
  if (StD.takes (T.pool.listsP.length + 1) [] T).2.1 ≠ 0 then StD.takes (T.pool.listsP.length + 1) [] T
  else
    let ps := (StD.takes (T.pool.listsP.length + 1) [] T).1
    let T1 := (StD.takes (T.pool.listsP.length + 1) [] T).2.2
    let R := StD.puts ps T1.pool.listsP ps.length 0 T1
    if R.1 ≠ 0 then ([], R.1, R.2) else (ps, syncE R.2.dev, { R.2 with dev := syncD R.2.dev })
theorem takes_good : ∀ (f : Nat) (ps : List Int) (T : StD), T.good → (StD.takes f ps T).2.2.good ∧ (StD.takes f ps T).2.2.dev = T.dev
  | 0, ps, T, h => ⟨h, rfl⟩
  | f + 1, ps, T, h => by
    unfold StD.takes
    split
    · exact ⟨h, rfl⟩
    · split
      · exact h.take
      · have h1 := takes_good f (ps ++ [T.take.1]) T.take.2.2 h.take.1
        exact ⟨h1.1, h1.2.trans h.take.2⟩
theorem puts_good (ps : List Int) (ls : List (List Int)) : ∀ (f i : Nat) (T : StD), T.good → (StD.puts ps ls f i T).2.good
  | 0, i, T, h => h
  | f + 1, i, T, h => by
    unfold StD.puts
    split
    · exact h.write _ _
    · exact puts_good ps ls f (i + 1) _ (h.write _ _)
end Go.Proofs.YtgpohemcfgepeaaGreat

namespace Go.Proofs.YtgpohemcfgepeaaGreat
open Go.RowKit Go.MapKept
def lenV : Value → Nat
  | .slice _ n _ => n
  | _ => 0
structure TkAt (w wr : World) (sb b ml mc fm : Nat) (T : StD) (v : Value) (ps : List Int) : Prop where
  sto : StoAt wr sb b ml mc fm T
  fr : Fr [sb, fm] w wr
  row : OwnI w wr v ps
  ap : StoAp wr sb v.ownBlock.toList
  apk : ApK w sb wr
  good : T.good
theorem TkAt.grow {w wr w3 : World} {sb b ml mc fm : Nat} {T0 T : StD} {v v' : Value} {ps : List Int} {x : Int} (h0 : StoAt w sb b ml mc fm T0) (h : TkAt w wr sb b ml mc fm T v ps) (hd : T.dev = T0.dev)
    (ho : OwnI w w3 v' (ps ++ [x])) (hf : Fr v.ownBlock.toList (wr.alloc (.cells #[.int .i64 x] 3)) w3) (hw : v'.ownBlock = v.ownBlock ∨ v'.ownBlock = some (wr.heap.size + 1)) : TkAt w w3 sb b ml mc fm T v' (ps ++ [x]) := by
  have hal := Fr.alloc1 wr (.cells #[.int .i64 x] 3)
  have hlt := h0.lt
  have hnew : ∀ y, y ∈ v.ownBlock.toList → w.heap.size ≤ y ∧ y < wr.heap.size := fun y hy => by
    cases hb : v.ownBlock with
    | none => rw [hb] at hy; cases hy
    | some g => rw [hb, Option.toList_some, List.mem_singleton] at hy; rw [hy]; exact h.row.lt g hb
  have hsb : sb ∉ v.ownBlock.toList := fun hm => by have := (hnew sb hm).1; omega
  have hfm : fm ∉ v.ownBlock.toList := fun hm => by have := (hnew fm hm).1; omega
  have hfr : Fr [sb, fm] w w3 := (h.fr.trans hal.nil).andThen hf (fun y hy => .inr (hnew y hy).1)
  have hap : StoAp (wr.alloc (.cells #[.int .i64 x] 3)) sb v.ownBlock.toList := ApK.ofFr hal h.sto.lt.1 (by simp) _ (fun y hy => (hnew y hy).2) h.ap
  have hap3 : StoAp w3 sb v.ownBlock.toList := ApK.ofFr hf (by have := h.sto.lt.1; simp; omega) hsb _ (fun y hy => by have := (hnew y hy).2; simp; omega) hap
  have hdv : DevAt w3 b ml mc T.dev := by
    rw [hd]
    refine h0.dev.apart hfr (fun y hy => ?_) ?_ ?_ ?_
    · simp only [List.mem_cons, List.not_mem_nil, or_false] at hy
      rcases hy with hy | hy <;> rw [hy]
      · exact h0.noByte.1
      · exact h0.noByte.2
    all_goals
      have := h0.apart
      simp
      omega
  have hs3 := (h.sto.kept hal).aside hap hf hdv hsb hfm
  have hak : ApK w sb w3 := (h.apk.trans (ApK.ofFr hal h.sto.lt.1 (by simp)) h.fr.size).trans (ApK.ofFr hf (by have := h.sto.lt.1; simp; omega) hsb) (by have := h.fr.size; simp; omega)
  refine ⟨hs3, hfr, ho, ?_, hak, h.good⟩
  rcases hw with hw | hw
  · rw [hw]; exact hap3
  · rw [hw]
    intro i B o n c hc hn hm
    have hB : B = wr.heap.size + 1 := by simpa using hm
    have h1 : (wr.alloc (.cells #[.int .i64 x] 3)).cell? ⟨sb, i, none⟩ = some (.slice (some ⟨B, o, none⟩) n c) := by
      rw [← hf.cell (a := ⟨sb, i, none⟩) (by have := h.sto.lt.1; simp; omega) hsb]; exact hc
    have h2 : wr.cell? ⟨sb, i, none⟩ = some (.slice (some ⟨B, o, none⟩) n c) := by
      rw [← hal.cell (a := ⟨sb, i, none⟩) h.sto.lt.1 (by simp)]; exact h1
    have hlt2 := h.sto.slcLt i B o n c h2 hn
    omega
def PutAt (w wr : World) (sb b ml mc fm : Nat) (T : StD) (vp : Value) (ps : List Int) (vl : Value) (ls : List (List Int)) (X : List Nat) : Prop :=
  ∃ fm', StoAt wr sb b ml mc fm' T ∧ Fr [sb, fm, b, ml, mc] w wr ∧ ((fm' = fm ∨ w.heap.size ≤ fm') ∧ ApK w sb wr) ∧ Ints ([sb, fm', b, ml, mc] ++ X) wr vp ps ∧ IntRows [sb, fm', b, ml, mc] wr vl ls
theorem IntRows.more {S S' : List Nat} {w : World} {v : Value} {ls : List (List Int)} (h : IntRows S w v ls) (hs : ∀ x, x ∈ S' → x ∈ S ∨ w.heap.size ≤ x) : IntRows S' w v ls := by
  obtain ⟨vs, h1, h2, h3⟩ := h
  exact ⟨vs, h1, Slc.more h2 hs, fun i x l hx hl => Slc.more (h3 i x l hx hl) hs⟩
theorem listPg_small (ps : List Int) (ls : List (List Int)) (i : Nat) (h : ∀ l ∈ ls, l.length ≤ 200) : (listPg ps ls i).small := by
  refine ⟨by simp [listPg, pgFree], by simp [listPg, pgFree], by simp [listPg, pgFree], ?_⟩
  show (ls.getD i []).length ≤ _
  rw [List.getD_eq_getElem?_getD]
  cases hq : ls[i]? with
  | none => simp
  | some l => have := h l (List.mem_of_getElem? hq); simp; omega
theorem listsP_small (p : PoolD) : ∀ l ∈ p.listsP, l.length ≤ 200 := fun l hl => by
  unfold PoolD.listsP chunkL at hl
  obtain ⟨k, _, rfl⟩ := List.mem_map.1 hl
  simp only [List.length_take]
  omega
theorem PutAt.next {w wr W5 w6 : World} {sb b ml mc fm : Nat} {T T' : StD} {vp vl : Value} {ps : List Int} {ls : List (List Int)} {fm1 : Nat} {X : List Nat} (h1 : StoAt wr sb b ml mc fm1 T) (h2 : Fr [sb, fm, b, ml, mc] w wr) (h3 : (fm1 = fm ∨ w.heap.size ≤ fm1) ∧ ApK w sb wr)
    (h4 : Ints ([sb, fm1, b, ml, mc] ++ X) wr vp ps) (h5 : IntRows [sb, fm1, b, ml, mc] wr vl ls) (hf : Fr [] wr W5) (hr : StoR W5 sb b ml mc fm1 T' w6) : PutAt w w6 sb b ml mc fm T' vp ps vl ls X := by
  obtain ⟨fm2, h6, h7, h8'⟩ := hr
  have h8 := h8'.1
  have hs1 := hf.size
  have hs2 := h2.size
  have hm : ∀ x, x ∈ [sb, fm2, b, ml, mc] → x ∈ [sb, fm1, b, ml, mc] ∨ W5.heap.size ≤ x := fun x hx => by
    simp only [List.mem_cons, List.not_mem_nil, or_false] at hx ⊢
    rcases hx with h | h | h | h | h
    · exact .inl (.inl h)
    · rcases h8 with h8 | h8
      · exact .inl (.inr (.inl (h.trans h8)))
      · exact .inr (by rw [h]; exact h8)
    · exact .inl (.inr (.inr (.inl h)))
    · exact .inl (.inr (.inr (.inr (.inl h))))
    · exact .inl (.inr (.inr (.inr (.inr h))))
  have hg := StoR.add (h2.trans hf.nil) ⟨h3.1, h3.2.trans (ApK.ofFr hf h1.lt.1 (by simp)) h2.size⟩ h7 h8'
  have hI := h4.kept hf.nil
  have hR := h5.kept hf.nil
  refine ⟨fm2, h6, hg.1, hg.2, ?_, ?_⟩
  · have e1 : Ints ([sb, fm1, b, ml, mc] ++ ([sb, fm2, b, ml, mc] ++ X)) W5 vp ps := Slc.more hI (fun x hx => by
      rcases List.mem_append.1 hx with h | h
      · exact .inl (List.mem_append.2 (.inl h))
      · rcases List.mem_append.1 h with h | h
        · exact (hm x h).imp (fun h => List.mem_append.2 (.inl h)) id
        · exact .inl (List.mem_append.2 (.inr h)))
    exact (e1.kept (h7.mono (fun x hx _ => List.mem_append.2 (.inl hx)))).mono (fun x hx => List.mem_append.2 (.inr hx))
  · have e1 : IntRows ([sb, fm1, b, ml, mc] ++ [sb, fm2, b, ml, mc]) W5 vl ls := hR.more (fun x hx => by
      rcases List.mem_append.1 hx with h | h
      · exact .inl h
      · exact hm x h)
    exact (e1.kept (h7.mono (fun x hx _ => List.mem_append.2 (.inl hx)))).mono (fun x hx => List.mem_append.2 (.inr hx))
set_option maxRecDepth 100000 in
set_option maxHeartbeats 2000000 in
theorem listed_k {sb b ml mc fm : Nat} {T : StD} (X : List Nat) (w : World) (h : StoAt w sb b ml mc fm T) (hg : T.good) (hX : ∀ x, x ∈ X → x < w.heap.size) :
    Calls Tryz.prog 104 #[.pointer (some ⟨sb, 0, none⟩)] w fun e w' => ∃ v fm', e = .returned (.tuple #[v, .int .i64 T.listed.2.1]) ∧ StoAt w' sb b ml mc fm' T.listed.2.2 ∧ Fr [sb, fm, b, ml, mc] w w' ∧ ((fm' = fm ∨ w.heap.size ≤ fm') ∧ ApK w sb w') ∧ Ints ([sb, fm', b, ml, mc] ++ X) w' v T.listed.1 := by
  have HST0 := Lib.hid h
  have HX := Lib.hid hX
  have H0 : Hid (TkAt w w sb b ml mc fm T nilV []) := Lib.hid ⟨h, Fr.refl _ _, World.ownsRow_nil _ _ _ _, fun _ _ _ _ _ _ _ hm => (by cases hm), ApK.refl _ _, hg⟩
  obtain ⟨R, hR⟩ : ∃ R, StD.takes (T.pool.listsP.length + 1) [] T = R := ⟨_, rfl⟩
  have HTL : Hid (T.listed = if R.2.1 ≠ 0 then R else if (StD.puts R.1 R.2.2.pool.listsP R.1.length 0 R.2.2).1 ≠ 0 then ([], (StD.puts R.1 R.2.2.pool.listsP R.1.length 0 R.2.2).1, (StD.puts R.1 R.2.2.pool.listsP R.1.length 0 R.2.2).2)
      else (R.1, syncE (StD.puts R.1 R.2.2.pool.listsP R.1.length 0 R.2.2).2.dev, { (StD.puts R.1 R.2.2.pool.listsP R.1.length 0 R.2.2).2 with dev := syncD (StD.puts R.1 R.2.2.pool.listsP R.1.length 0 R.2.2).2.dev })) := Lib.hid (by
    unfold StD.listed; rw [hR])
  have HR := Lib.hid hR
  obtain ⟨L0, hL0⟩ : ∃ L0, T.pool.listsP.length = L0 := ⟨_, rfl⟩
  have HL0 : Hid (L0 ≤ 1000) := Lib.hid (by
    have h1 := (hg.ok h.dev.fine.n4).1.1
    have h2 := listsP_len T.pool
    have h3 := h1.1
    have h4 := h1.2
    rw [← hL0, h2]
    omega)
  rw [hL0] at HR
  have HI : Hid (T.pool.listsP.length ≤ L0) := Lib.hid (by omega)
  have HN4 : Hid (T.dev.n ≤ 4096) := Lib.hid h.dev.fine.n4
  clear h hg hR hL0 hX
  go_enter Tryz.func104, Tryz.ntmps104
  go_wp2_with fail
  go_loopw [2] (fun v wr => ∃ T1 ps f, TkAt w wr sb b ml mc fm T1 v ps ∧ StD.takes f ps T1 = R ∧ L0 < f + ps.length ∧ T1.pool.listsP.length ≤ L0 ∧ ps.length ≤ L0 ∧ T1.dev = T.dev) (fun v _ => L0 - (lenV v))
  case atStart => exact ⟨T, [], L0 + 1, H0.out, HR.out, by simp, HI.out, Nat.zero_le _, rfl⟩
  case round =>
    obtain ⟨T1, ps, f, hat, hR, hf, hl1, hps, hdv⟩ := hrel
    have HAT := Lib.hid hat
    have HDV := Lib.hid hdv
    have HRR := Lib.hid hR
    obtain ⟨va, vc, rfl, _⟩ := (hat.row.ints [] (by simp)).form
    obtain ⟨qv, q2, q3, q4, lv, bf, bl, pf, pl, hb, hv⟩ := hat.sto.blk
    obtain ⟨_, _, _, _, _, _, _, ⟨qa, qc, rfl⟩, ⟨ra, rc, rfl⟩⟩ := hv.sl
    have c16 := blk_cell hb 16
    have c17 := blk_cell hb 17
    have c18 := blk_cell hb 18
    simp only [stL, List.getElem?_toArray, List.getElem?_cons_zero, List.getElem?_cons_succ] at c16 c17 c18
    have hok := (hat.good.ok (by rw [hdv]; exact HN4.out)).1
    have HOK := Lib.hid hok
    have HLS := Lib.hid (lists_k (S := []) (p := T1.pool) wr ⟨_, _, rfl, hv.pfree.mono (by simp), hv.plimbo.mono (by simp)⟩ hok.1)
    obtain ⟨M, hM⟩ : ∃ M, T1.pool.listsP.length = M := ⟨_, rfl⟩
    have hM1 : M ≤ 1000 := by have := HL0.out; omega
    have HM := Lib.hid hM
    have HB1 := Lib.hid (And.intro hf (And.intro hl1 hps))
    clear hR hat hdv hb hv hok hf hl1 hM
    go_wp2_with fail
    with_reducible refine HLS.out.mono ?_
    rintro e w1 ⟨v1, rfl, hr1, hf1⟩
    obtain ⟨a1, k1, rfl, _⟩ := (hr1 [] (by simp)).form
    rw [HM.out]
    have HF1 := Lib.hid hf1
    clear hr1 hf1 HLS c16 c17 c18
    by_cases hlt : ps.length < M
    · have hltI : (ps.length : Int) < (M : Int) := by omega
      have HT1 : Hid (StoAt w1 sb b ml mc fm T1) := Lib.hid (HAT.out.sto.kept HF1.out)
      have HTK := Lib.hid (stake_ap w1 HT1.out HOK.out)
      have HLT := Lib.hid hlt
      clear hlt
      go_wp2_with fail
      with_reducible refine HTK.out.mono ?_
      rintro e w2 ⟨rfl, ⟨hs2, hf2⟩, ha2⟩
      obtain ⟨f', rfl⟩ : ∃ f', f = f' + 1 := ⟨f - 1, by have := HB1.out; have := HLT.out; omega⟩
      have hRt : (if M ≤ ps.length then (ps, 0, T1) else if T1.take.2.1 ≠ 0 then ([], T1.take.2.1, T1.take.2.2) else StD.takes f' (ps ++ [T1.take.1]) T1.take.2.2) = R := by
        rw [← HM.out, ← HRR.out]
        rfl
      rw [if_neg (by have := HLT.out; omega)] at hRt
      have hfr2 : Fr [sb, fm] w w2 := (HAT.out.fr.trans HF1.out.nil).trans hf2
      have hown : ∀ y, y ∈ (Value.slice va ps.length vc).ownBlock.toList → w.heap.size ≤ y ∧ y < wr.heap.size := fun y hy => by
        cases hb : (Value.slice va ps.length vc).ownBlock with
        | none => rw [hb] at hy; cases hy
        | some g => rw [hb, Option.toList_some, List.mem_singleton] at hy; rw [hy]; exact HAT.out.row.lt g hb
      have hat2 : TkAt w w2 sb b ml mc fm T1.take.2.2 (.slice va ps.length vc) ps := by
        have hlt0 := HST0.out.lt
        have h1 := ownsKept HAT.out.row HF1.out (by simp)
        have h2 := ownsKept h1 hf2 (fun g hg hm => by
          have := (hown g (by rw [hg]; simp)).1
          simp only [List.mem_cons, List.not_mem_nil, or_false] at hm
          omega)
        refine ⟨hs2, hfr2, h2, ?_, (HAT.out.apk.trans (ApK.ofFr HF1.out HAT.out.sto.lt.1 (by simp)) HAT.out.fr.size).trans ha2 (HAT.out.fr.trans HF1.out.nil).size, HAT.out.good.take.1⟩
        exact ha2 _ (fun y hy => Nat.lt_of_lt_of_le (hown y hy).2 HF1.out.size) (ApK.ofFr HF1.out HAT.out.sto.lt.1 (by simp) _ (fun y hy => (hown y hy).2) HAT.out.ap)
      have HAT2 := Lib.hid hat2
      have HDV2 : Hid (T1.take.2.2.dev = T.dev) := Lib.hid (HAT.out.good.take.2.trans HDV.out)
      have HTLS : Hid (T1.take.2.1 = 0 → T1.take.2.2.pool.listsP.length ≤ T1.pool.listsP.length) := Lib.hid take_lists
      clear hs2 hf2 ha2 hfr2 hown hat2 HTK HT1
      obtain ⟨⟨n1, e1, T2⟩, hTT⟩ : ∃ x, T1.take = x := ⟨_, rfl⟩
      rw [hTT] at HAT2 HDV2 HTLS hRt ⊢
      dsimp only at HAT2 HDV2 HTLS hRt ⊢
      clear hTT
      by_cases h1 : e1 = 0
      · subst h1
        rw [if_neg (by simp)] at hRt
        have HRT := Lib.hid hRt
        obtain ⟨v3, w3, hap, ho3, hf3, hw3⟩ := ownI_one (w0 := w) n1 HAT2.out.row (by have := HB1.out; have := HL0.out; omega) HAT2.out.fr.size 70
        have HA3 := Lib.hid (TkAt.grow HST0.out HAT2.out HDV2.out ho3 hf3 hw3)
        have HAP := Lib.hid hap
        obtain ⟨a3, k3, hv3, _⟩ := (ho3.ints [] (by simp)).form
        rw [show (ps ++ [n1]).length = ps.length + 1 by simp] at hv3
        subst hv3
        clear hap ho3 hf3 hw3 hRt
        go_wp2_with (at_builtin; refine wpList_append_run rfl _ _ _ rfl HAP.out ?_)
        go_roundw
        case rel => exact ⟨T2, ps ++ [n1], f', HA3.out, HRT.out, by have := HB1.out; rw [List.length_append]; simp; omega, Nat.le_trans (HTLS.out rfl) (by rw [HM.out]; have := HB1.out; rw [HM.out] at this; omega), by have := HLT.out; have := HB1.out.2.1; rw [HM.out] at this; rw [List.length_append]; simp; omega, HDV2.out⟩
        case measure => have := HLT.out; have := HB1.out.2.1; rw [HM.out] at this; simp [lenV]; omega
      · rw [if_pos h1] at hRt
        have HRT := Lib.hid hRt
        have b1 : (e1 != 0) = true := by simpa using h1
        have HP : Hid (T.listed = ([], e1, T2)) := Lib.hid (by rw [HTL.out, ← hRt, if_pos h1])
        have HQ : Hid (StoAt w2 sb b ml mc fm T2 ∧ Fr [sb, fm, b, ml, mc] w w2 ∧ ApK w sb w2) := Lib.hid ⟨HAT2.out.sto, HAT2.out.fr.mono (fun x hx _ => by simp at hx ⊢; rcases hx with h | h <;> simp [h]), HAT2.out.apk⟩
        clear h1 hRt
        go_wp2_with fail
        go_ret2
        rw [HP.out]
        exact ⟨_, fm, rfl, HQ.out.1, HQ.out.2.1, ⟨.inl rfl, HQ.out.2.2⟩, Slc.nil _ _⟩
    · have hltI : ¬ (ps.length : Int) < (M : Int) := by omega
      have hRt : R = (ps, 0, T1) := by rw [← HRR.out]; exact takes_stop f (by rw [HM.out]; omega)
      have hT1 : StoAt w1 sb b ml mc fm T1 := HAT.out.sto.kept HF1.out
      obtain ⟨qv, q2, q3, q4, lv, bf, bl, pf, pl, hb, hv⟩ := hT1.blk
      obtain ⟨_, _, _, _, _, _, _, ⟨qa', qc', rfl⟩, ⟨ra', rc', rfl⟩⟩ := hv.sl
      have c0 := blk_cell hb 0
      have c16 := blk_cell hb 16
      have c17 := blk_cell hb 17
      have c18 := blk_cell hb 18
      simp only [stL, List.getElem?_toArray, List.getElem?_cons_zero, List.getElem?_cons_succ] at c0 c16 c17 c18
      have HLS := Lib.hid (lists_k (S := []) (p := T1.pool) w1 ⟨_, _, rfl, hv.pfree.mono (by simp), hv.plimbo.mono (by simp)⟩ HOK.out.1)
      have HT1 := Lib.hid hT1
      subst hRt
      have HLT := Lib.hid hlt
      have HTL1 : Hid (T.listed = if (StD.puts ps T1.pool.listsP ps.length 0 T1).1 ≠ 0 then ([], (StD.puts ps T1.pool.listsP ps.length 0 T1).1, (StD.puts ps T1.pool.listsP ps.length 0 T1).2)
        else (ps, syncE (StD.puts ps T1.pool.listsP ps.length 0 T1).2.dev, { (StD.puts ps T1.pool.listsP ps.length 0 T1).2 with dev := syncD (StD.puts ps T1.pool.listsP ps.length 0 T1).2.dev })) := Lib.hid (by rw [HTL.out, if_neg (by simp)])
      clear hb hv hT1 HTL HR HRR HI H0 hlt
      go_wp2_with fail
      with_reducible refine HLS.out.mono ?_
      rintro e w2 ⟨v2, rfl, hr2, hf2⟩
      obtain ⟨a2, k2, rfl, _⟩ := (hr2 [] (by simp)).form
      have hput : PutAt w w2 sb b ml mc fm T1 (.slice va ps.length vc) ps (.slice a2 T1.pool.listsP.length k2) T1.pool.listsP X := by
        have hlt0 := HST0.out.lt
        have hs1 := HF1.out.size
        have hs0 := HAT.out.fr.size
        refine ⟨fm, HT1.out.kept hf2, ((HAT.out.fr.trans HF1.out.nil).trans hf2.nil).mono (fun x hx _ => by simp at hx ⊢; rcases hx with h | h <;> simp [h]), ⟨.inl rfl, (HAT.out.apk.trans (ApK.ofFr HF1.out HAT.out.sto.lt.1 (by simp)) HAT.out.fr.size).trans (ApK.ofFr hf2 HT1.out.lt.1 (by simp)) (HAT.out.fr.trans HF1.out.nil).size⟩, ?_, ?_⟩
        · exact ((HAT.out.row.ints ([sb, fm, b, ml, mc] ++ X) (fun x hx => by
            rcases List.mem_append.1 hx with hx | hx
            · simp only [List.mem_cons, List.not_mem_nil, or_false] at hx; omega
            · exact HX.out x hx)).kept HF1.out.nil).kept hf2.nil
        · exact hr2 _ (fun x hx => by simp only [List.mem_cons, List.not_mem_nil, or_false] at hx; omega)
      have HPUT := Lib.hid hput
      have HSM := Lib.hid (listsP_small T1.pool)
      have HPB : Hid (ps.length ≤ 1000) := Lib.hid (by have := HB1.out.2.2; have := HL0.out; omega)
      have HR2 : Hid (∃ R2, StD.puts ps T1.pool.listsP ps.length 0 T1 = R2) := Lib.hid ⟨_, rfl⟩
      obtain ⟨R2, hR2⟩ := HR2.out
      rw [hR2] at HTL1
      have HRX := Lib.hid hR2
      rw [HM.out] at hput HPUT ⊢
      obtain ⟨ls, hls⟩ : ∃ ls, T1.pool.listsP = ls := ⟨_, rfl⟩
      rw [hls] at HPUT HSM HRX HM
      clear hr2 hf2 HLS c0 c16 c17 c18 hput HR2 hR2 hls HLT
      go_wp2_with fail
      go_loopw [2, 39] (fun v i wx => ∃ (k : Nat) (T2 : StD), v = .slice va ps.length vc ∧ k ≤ ps.length ∧ i = .int .i64 k ∧ PutAt w wx sb b ml mc fm T2 (.slice va ps.length vc) ps (.slice a2 M k2) ls X ∧ StD.puts ps ls (ps.length - k) k T2 = R2) (fun _ i _ => ps.length - (intOf i).toNat)
      case atStart => exact ⟨0, T1, rfl, Nat.zero_le _, rfl, HPUT.out, HRX.out⟩
      case round =>
        obtain ⟨k, T2, rfl, hk, rfl, hput, hR2⟩ := hrel
        obtain ⟨fm1, hst, hfr, hfm, hip, hil⟩ := hput
        by_cases hlt2 : k < ps.length
        · have hkI : (k : Int) < (ps.length : Int) := by omega
          have hpsb : (ps.length : Int) ≤ 1000 := by have := HPB.out; omega
          obtain ⟨B, off, rfl⟩ : ∃ B off, va = some ⟨B, off, none⟩ := by
            rcases hip with ⟨_, _, _, h0, _⟩ | ⟨B, off, cap, h, _⟩
            · omega
            · cases h; exact ⟨B, off, rfl⟩
          have hnx : StD.puts ps ls (ps.length - k) k T2 = if (T2.write (ps.getD k 0) (listPg ps ls k)).1 ≠ 0 then T2.write (ps.getD k 0) (listPg ps ls k) else StD.puts ps ls (ps.length - (k + 1)) (k + 1) (T2.write (ps.getD k 0) (listPg ps ls k)).2 := by
            obtain ⟨j, hj⟩ : ∃ j, ps.length - k = j + 1 := ⟨ps.length - k - 1, by omega⟩
            rw [hj, show ps.length - (k + 1) = j by omega]
            rfl
          rw [hR2] at hnx
          have hxk : (listPg ps ls k) = pgFree 0 (ls.getD k []) (ps.getD (k + 1) 0) := rfl
          obtain ⟨gl, hgl⟩ : ∃ gl, ls.getD k [] = gl := ⟨_, rfl⟩
          obtain ⟨nx, hnx2⟩ : ∃ nx, ps.getD (k + 1) 0 = nx := ⟨_, rfl⟩
          obtain ⟨x, hx⟩ : ∃ x, ps.getD k 0 = x := ⟨_, rfl⟩
          have hsm := listPg_small ps ls k HSM.out
          have cx : wr.cell? ⟨B, off + k, none⟩ = some (.int .i64 x) := by
            have := hip.at hlt2
            rw [← hx, List.getD_eq_getElem?_getD, List.getElem?_eq_getElem hlt2]
            exact this
          rw [hxk, hgl, hnx2, hx] at hnx
          rw [hxk, hgl, hnx2] at hsm
          have HST2 := Lib.hid hst
          have HPT : Hid (∀ (W5 w6 : World) (T' : StD), Fr [] wr W5 → StoR W5 sb b ml mc fm1 T' w6 → PutAt w w6 sb b ml mc fm T' (.slice (some ⟨B, off, none⟩) ps.length vc) ps (.slice a2 M k2) ls X) := Lib.hid fun W5 w6 T' hf hr => PutAt.next hst hfr hfm hip hil hf hr
          have HNX := Lib.hid hnx
          have HSMP := Lib.hid hsm
          have HPS : Hid (∀ gv gc, Ints [] wr (.slice gv gl.length gc) gl → ∀ W5, wr.alloc (.cells #[.int .i64 3, nilV, nilV, nilV, .slice gv gl.length gc, .int .i64 nx, .int .u64 0, .int .i64 0, .int .i64 0, .int .i64 0, .int .i64 0] 90) = W5 →
              (Calls Tryz.prog 97 #[.pointer (some ⟨sb, 0, none⟩), .int .i64 x, .agg #[.int .i64 3, nilV, nilV, nilV, .slice gv gl.length gc, .int .i64 nx, .int .u64 0, .int .i64 0, .int .i64 0, .int .i64 0, .int .i64 0]] W5 fun e w' => e = .returned (.int .i64 (T2.write x (pgFree 0 gl nx)).1) ∧ StoR W5 sb b ml mc fm1 (T2.write x (pgFree 0 gl nx)).2 w') ∧ Fr [] wr W5) := Lib.hid (by
            intro gv gc hgi W5 hW5
            subst hW5
            have hf05 := Fr.alloc1 wr (.cells #[.int .i64 3, nilV, nilV, nilV, .slice gv gl.length gc, .int .i64 nx, .int .u64 0, .int .i64 0, .int .i64 0, .int .i64 0, .int .i64 0] 90)
            exact ⟨swrite_k (S := []) x _ (HST2.out.kept hf05) ⟨nilV, nilV, nilV, .slice gv gl.length gc, rfl, Slc.nil _ _, Slc.nil _ _, Slc.nil _ _, hgi.kept hf05⟩ HSMP.out (by show (0 : Int) ≤ 0; omega) (by show (0 : Int) < _; omega), hf05⟩)
          have hnl : ∃ gv gc, Ints [] wr (.slice gv gl.length gc) gl ∧ ((k < M ∧ ∃ B2 off2, a2 = some ⟨B2, off2, none⟩ ∧ wr.cell? ⟨B2, off2 + k, none⟩ = some (.slice gv gl.length gc)) ∨ (¬ k < M ∧ Value.slice gv gl.length gc = nilV)) := by
            by_cases hkM : k < M
            · have hkl : k < ls.length := by rw [HM.out]; exact hkM
              obtain ⟨B2, off2, rfl⟩ : ∃ B2 off2, a2 = some ⟨B2, off2, none⟩ := by
                obtain ⟨vs, _, hs, _⟩ := hil
                rcases hs with ⟨_, _, _, h0, _⟩ | ⟨B, off, cap, h, _⟩
                · omega
                · cases h; exact ⟨B, off, rfl⟩
              obtain ⟨xv, hc, hxi⟩ := hil.at hkl
              have hg2 : ls[k] = gl := by rw [← hgl, List.getD_eq_getElem?_getD, List.getElem?_eq_getElem hkl]; rfl
              rw [hg2] at hxi
              obtain ⟨gv, gc, rfl, _⟩ := Slc.form hxi
              exact ⟨gv, gc, hxi.mono (by simp), .inl ⟨hkM, B2, off2, rfl, hc⟩⟩
            · have hg2 : gl = [] := by rw [← hgl, List.getD_eq_getElem?_getD, List.getElem?_eq_none (by rw [HM.out]; omega)]; rfl
              subst hg2
              exact ⟨none, 0, Slc.nil _ _, .inr ⟨hkM, rfl⟩⟩
          have hnn : (k + 1 < ps.length ∧ wr.cell? ⟨B, off + (k + 1), none⟩ = some (.int .i64 nx)) ∨ (¬ k + 1 < ps.length ∧ nx = 0) := by
            by_cases hk1 : k + 1 < ps.length
            · refine .inl ⟨hk1, ?_⟩
              have := hip.at hk1
              rw [← hnx2, List.getD_eq_getElem?_getD, List.getElem?_eq_getElem hk1]
              exact this
            · exact .inr ⟨hk1, by rw [← hnx2, List.getD_eq_getElem?_getD, List.getElem?_eq_none (by omega)]; rfl⟩
          obtain ⟨gv, gc, hgi, hcase⟩ := hnl
          have HPS2 := Lib.hid (HPS.out gv gc hgi)
          have HNN := Lib.hid hnn
          have hal := fun o => Fr.alloc1 wr o
          generalize gl.length = gn at *
          clear hst hfr hfm hip hil hR2 hxk hgl hnx2 hx hsm hnx hnn hgi HPS
          rcases hcase with ⟨hkM, B2, off2, rfl, cv⟩ | ⟨hkM, hgv⟩
          · have hkMI : (k : Int) < (M : Int) := by omega
            have cv2 := fun o => (hal o).cellSome cv (by simp)
            rcases HNN.out with ⟨hk1, cn⟩ | ⟨hk1, rfl⟩
            · have hk1I : (k : Int) + 1 < (ps.length : Int) := by omega
              have cn2 := fun o => (hal o).cellSome cn (by simp)
              clear hal
              go_upto_region 15 with fail
              obtain ⟨W5, hW5⟩ : ∃ W5, wr.alloc (.cells #[.int .i64 3, nilV, nilV, nilV, .slice gv gn gc, .int .i64 nx, .int .u64 0, .int .i64 0, .int .i64 0, .int .i64 0, .int .i64 0] 90) = W5 := ⟨_, rfl⟩
              have hb5 : W5.heap[wr.heap.size]? = some (.cells #[.int .i64 3, nilV, nilV, nilV, .slice gv gn gc, .int .i64 nx, .int .u64 0, .int .i64 0, .int .i64 0, .int .i64 0, .int .i64 0] 90 (0, 0)) := by
                rw [← hW5]
                exact blk_new wr _
              have HC5 := Lib.hid (HPS2.out W5 hW5)
              have z0 := blk_cell hb5 0
              have z1 := blk_cell hb5 1
              have z2 := blk_cell hb5 2
              have z3 := blk_cell hb5 3
              have z4 := blk_cell hb5 4
              have z5 := blk_cell hb5 5
              have z6 := blk_cell hb5 6
              have z7 := blk_cell hb5 7
              have z8 := blk_cell hb5 8
              have z9 := blk_cell hb5 9
              have z10 := blk_cell hb5 10
              simp only [List.getElem?_toArray, List.getElem?_cons_zero, List.getElem?_cons_succ] at z0 z1 z2 z3 z4 z5 z6 z7 z8 z9 z10
              clear hb5 HPS2
              rw [hW5]
              go_wp2_with fail
              with_reducible refine HC5.out.1.mono ?_
              rintro e w6 ⟨rfl, hr6⟩
              have HPN := Lib.hid (HPT.out W5 w6 _ HC5.out.2 hr6)
              clear hr6 HC5 z0 z1 z2 z3 z4 z5 z6 z7 z8 z9 z10 hW5
              obtain ⟨⟨e2, T3⟩, hTW⟩ : ∃ y, T2.write x (pgFree 0 gl nx) = y := ⟨_, rfl⟩
              rw [hTW] at HPN HNX ⊢
              dsimp only at HPN HNX ⊢
              clear hTW
              by_cases hE : e2 = 0
              · subst hE
                have HNY : Hid (StD.puts ps ls (ps.length - (k + 1)) (k + 1) T3 = R2) := Lib.hid (by have := HNX.out; rw [if_neg (by simp)] at this; exact this.symm)
                go_wp2_with fail
                go_roundw
                case rel => exact ⟨k + 1, T3, rfl, by omega, by go_num, HPN.out, HNY.out⟩
                case measure => simp [intOf]; omega
              · have bE : (e2 != 0) = true := by simpa using hE
                have HP : Hid (T.listed = ([], e2, T3)) := Lib.hid (by
                  have := HNX.out
                  rw [if_pos hE] at this
                  rw [HTL1.out, this, if_pos hE])
                clear hE
                go_wp2_with fail
                go_ret2
                rw [HP.out]
                obtain ⟨fm3, g1, g2, g3, _, _⟩ := HPN.out
                exact ⟨_, fm3, rfl, g1, g2, g3, Slc.nil _ _⟩
            · have hk1I : ¬ (k : Int) + 1 < (ps.length : Int) := by omega
              clear hal
              go_upto_region 15 with fail
              obtain ⟨W5, hW5⟩ : ∃ W5, wr.alloc (.cells #[.int .i64 3, nilV, nilV, nilV, .slice gv gn gc, .int .i64 0, .int .u64 0, .int .i64 0, .int .i64 0, .int .i64 0, .int .i64 0] 90) = W5 := ⟨_, rfl⟩
              have hb5 : W5.heap[wr.heap.size]? = some (.cells #[.int .i64 3, nilV, nilV, nilV, .slice gv gn gc, .int .i64 0, .int .u64 0, .int .i64 0, .int .i64 0, .int .i64 0, .int .i64 0] 90 (0, 0)) := by
                rw [← hW5]
                exact blk_new wr _
              have HC5 := Lib.hid (HPS2.out W5 hW5)
              have z0 := blk_cell hb5 0
              have z1 := blk_cell hb5 1
              have z2 := blk_cell hb5 2
              have z3 := blk_cell hb5 3
              have z4 := blk_cell hb5 4
              have z5 := blk_cell hb5 5
              have z6 := blk_cell hb5 6
              have z7 := blk_cell hb5 7
              have z8 := blk_cell hb5 8
              have z9 := blk_cell hb5 9
              have z10 := blk_cell hb5 10
              simp only [List.getElem?_toArray, List.getElem?_cons_zero, List.getElem?_cons_succ] at z0 z1 z2 z3 z4 z5 z6 z7 z8 z9 z10
              clear hb5 HPS2
              rw [hW5]
              go_wp2_with fail
              with_reducible refine HC5.out.1.mono ?_
              rintro e w6 ⟨rfl, hr6⟩
              have HPN := Lib.hid (HPT.out W5 w6 _ HC5.out.2 hr6)
              clear hr6 HC5 z0 z1 z2 z3 z4 z5 z6 z7 z8 z9 z10 hW5
              obtain ⟨⟨e2, T3⟩, hTW⟩ : ∃ y, T2.write x (pgFree 0 gl 0) = y := ⟨_, rfl⟩
              rw [hTW] at HPN HNX ⊢
              dsimp only at HPN HNX ⊢
              clear hTW
              by_cases hE : e2 = 0
              · subst hE
                have HNY : Hid (StD.puts ps ls (ps.length - (k + 1)) (k + 1) T3 = R2) := Lib.hid (by have := HNX.out; rw [if_neg (by simp)] at this; exact this.symm)
                go_wp2_with fail
                go_roundw
                case rel => exact ⟨k + 1, T3, rfl, by omega, by go_num, HPN.out, HNY.out⟩
                case measure => simp [intOf]; omega
              · have bE : (e2 != 0) = true := by simpa using hE
                have HP : Hid (T.listed = ([], e2, T3)) := Lib.hid (by
                  have := HNX.out
                  rw [if_pos hE] at this
                  rw [HTL1.out, this, if_pos hE])
                clear hE
                go_wp2_with fail
                go_ret2
                rw [HP.out]
                obtain ⟨fm3, g1, g2, g3, _, _⟩ := HPN.out
                exact ⟨_, fm3, rfl, g1, g2, g3, Slc.nil _ _⟩
          · have hkMI : ¬ (k : Int) < (M : Int) := by omega
            cases hgv
            rcases HNN.out with ⟨hk1, cn⟩ | ⟨hk1, rfl⟩
            · have hk1I : (k : Int) + 1 < (ps.length : Int) := by omega
              have cn2 := fun o => (hal o).cellSome cn (by simp)
              clear hal
              go_upto_region 15 with fail
              obtain ⟨W5, hW5⟩ : ∃ W5, wr.alloc (.cells #[.int .i64 3, nilV, nilV, nilV, nilV, .int .i64 nx, .int .u64 0, .int .i64 0, .int .i64 0, .int .i64 0, .int .i64 0] 90) = W5 := ⟨_, rfl⟩
              have hb5 : W5.heap[wr.heap.size]? = some (.cells #[.int .i64 3, nilV, nilV, nilV, nilV, .int .i64 nx, .int .u64 0, .int .i64 0, .int .i64 0, .int .i64 0, .int .i64 0] 90 (0, 0)) := by
                rw [← hW5]
                exact blk_new wr _
              have HC5 := Lib.hid (HPS2.out W5 hW5)
              have z0 := blk_cell hb5 0
              have z1 := blk_cell hb5 1
              have z2 := blk_cell hb5 2
              have z3 := blk_cell hb5 3
              have z4 := blk_cell hb5 4
              have z5 := blk_cell hb5 5
              have z6 := blk_cell hb5 6
              have z7 := blk_cell hb5 7
              have z8 := blk_cell hb5 8
              have z9 := blk_cell hb5 9
              have z10 := blk_cell hb5 10
              simp only [List.getElem?_toArray, List.getElem?_cons_zero, List.getElem?_cons_succ] at z0 z1 z2 z3 z4 z5 z6 z7 z8 z9 z10
              clear hb5 HPS2
              rw [hW5]
              go_wp2_with fail
              with_reducible refine HC5.out.1.mono ?_
              rintro e w6 ⟨rfl, hr6⟩
              have HPN := Lib.hid (HPT.out W5 w6 _ HC5.out.2 hr6)
              clear hr6 HC5 z0 z1 z2 z3 z4 z5 z6 z7 z8 z9 z10 hW5
              obtain ⟨⟨e2, T3⟩, hTW⟩ : ∃ y, T2.write x (pgFree 0 gl nx) = y := ⟨_, rfl⟩
              rw [hTW] at HPN HNX ⊢
              dsimp only at HPN HNX ⊢
              clear hTW
              by_cases hE : e2 = 0
              · subst hE
                have HNY : Hid (StD.puts ps ls (ps.length - (k + 1)) (k + 1) T3 = R2) := Lib.hid (by have := HNX.out; rw [if_neg (by simp)] at this; exact this.symm)
                go_wp2_with fail
                go_roundw
                case rel => exact ⟨k + 1, T3, rfl, by omega, by go_num, HPN.out, HNY.out⟩
                case measure => simp [intOf]; omega
              · have bE : (e2 != 0) = true := by simpa using hE
                have HP : Hid (T.listed = ([], e2, T3)) := Lib.hid (by
                  have := HNX.out
                  rw [if_pos hE] at this
                  rw [HTL1.out, this, if_pos hE])
                clear hE
                go_wp2_with fail
                go_ret2
                rw [HP.out]
                obtain ⟨fm3, g1, g2, g3, _, _⟩ := HPN.out
                exact ⟨_, fm3, rfl, g1, g2, g3, Slc.nil _ _⟩
            · have hk1I : ¬ (k : Int) + 1 < (ps.length : Int) := by omega
              clear hal
              go_upto_region 15 with fail
              obtain ⟨W5, hW5⟩ : ∃ W5, wr.alloc (.cells #[.int .i64 3, nilV, nilV, nilV, nilV, .int .i64 0, .int .u64 0, .int .i64 0, .int .i64 0, .int .i64 0, .int .i64 0] 90) = W5 := ⟨_, rfl⟩
              have hb5 : W5.heap[wr.heap.size]? = some (.cells #[.int .i64 3, nilV, nilV, nilV, nilV, .int .i64 0, .int .u64 0, .int .i64 0, .int .i64 0, .int .i64 0, .int .i64 0] 90 (0, 0)) := by
                rw [← hW5]
                exact blk_new wr _
              have HC5 := Lib.hid (HPS2.out W5 hW5)
              have z0 := blk_cell hb5 0
              have z1 := blk_cell hb5 1
              have z2 := blk_cell hb5 2
              have z3 := blk_cell hb5 3
              have z4 := blk_cell hb5 4
              have z5 := blk_cell hb5 5
              have z6 := blk_cell hb5 6
              have z7 := blk_cell hb5 7
              have z8 := blk_cell hb5 8
              have z9 := blk_cell hb5 9
              have z10 := blk_cell hb5 10
              simp only [List.getElem?_toArray, List.getElem?_cons_zero, List.getElem?_cons_succ] at z0 z1 z2 z3 z4 z5 z6 z7 z8 z9 z10
              clear hb5 HPS2
              rw [hW5]
              go_wp2_with fail
              with_reducible refine HC5.out.1.mono ?_
              rintro e w6 ⟨rfl, hr6⟩
              have HPN := Lib.hid (HPT.out W5 w6 _ HC5.out.2 hr6)
              clear hr6 HC5 z0 z1 z2 z3 z4 z5 z6 z7 z8 z9 z10 hW5
              obtain ⟨⟨e2, T3⟩, hTW⟩ : ∃ y, T2.write x (pgFree 0 gl 0) = y := ⟨_, rfl⟩
              rw [hTW] at HPN HNX ⊢
              dsimp only at HPN HNX ⊢
              clear hTW
              by_cases hE : e2 = 0
              · subst hE
                have HNY : Hid (StD.puts ps ls (ps.length - (k + 1)) (k + 1) T3 = R2) := Lib.hid (by have := HNX.out; rw [if_neg (by simp)] at this; exact this.symm)
                go_wp2_with fail
                go_roundw
                case rel => exact ⟨k + 1, T3, rfl, by omega, by go_num, HPN.out, HNY.out⟩
                case measure => simp [intOf]; omega
              · have bE : (e2 != 0) = true := by simpa using hE
                have HP : Hid (T.listed = ([], e2, T3)) := Lib.hid (by
                  have := HNX.out
                  rw [if_pos hE] at this
                  rw [HTL1.out, this, if_pos hE])
                clear hE
                go_wp2_with fail
                go_ret2
                rw [HP.out]
                obtain ⟨fm3, g1, g2, g3, _, _⟩ := HPN.out
                exact ⟨_, fm3, rfl, g1, g2, g3, Slc.nil _ _⟩
        · have hkI : ¬ (k : Int) < (ps.length : Int) := by omega
          have hR3 : R2 = (0, T2) := by rw [← hR2, show ps.length - k = 0 by omega]; rfl
          obtain ⟨qv, q2, q3, q4, lv, bf, bl, pf, pl, hb, hv⟩ := hst.blk
          have c0 := blk_cell hb 0
          simp only [stL, List.getElem?_toArray, List.getElem?_cons_zero] at c0
          have HSY := Lib.hid (sync_k wr hst.dev)
          have HP : Hid (T.listed = (ps, syncE T2.dev, { T2 with dev := syncD T2.dev })) := Lib.hid (by rw [HTL1.out, hR3, if_neg (by simp)])
          have HQ := Lib.hid (And.intro hst (And.intro hfr (And.intro hfm hip)))
          clear hb hv hst hfr hfm hip hil hR2 hR3
          go_wp2_with fail
          with_reducible refine HSY.out.mono ?_
          rintro e w6 ⟨rfl, hd6, hf6⟩
          have HE : Hid (StoAt w6 sb b ml mc fm1 { T2 with dev := syncD T2.dev } ∧ Fr [sb, fm, b, ml, mc] w w6 ∧ ((fm1 = fm ∨ w.heap.size ≤ fm1) ∧ ApK w sb w6) ∧ Ints ([sb, fm1, b, ml, mc] ++ X) w6 (.slice va ps.length vc) ps) := Lib.hid (by
            obtain ⟨h1, h2, h3, h4⟩ := HQ.out
            exact ⟨h1.devIs hf6 hd6, h2.trans (hf6.mono (fun x hx _ => by simp only [List.mem_cons, List.not_mem_nil, or_false] at hx ⊢; rcases hx with h | h | h <;> simp [h])), ⟨h3.1, h3.2.trans (ApK.ofFr hf6 h1.lt.1 (by have := h1.apart; simp; omega)) h2.size⟩, h4.kept (hf6.mono (fun x hx _ => List.mem_append.2 (.inl (by simp only [List.mem_cons, List.not_mem_nil, or_false] at hx ⊢; rcases hx with h | h | h <;> simp [h]))))⟩)
          clear hd6 hf6 HSY
          go_wp2_with fail
          go_ret2
          rw [HP.out]
          exact ⟨_, fm1, rfl, HE.out⟩
end Go.Proofs.YtgpohemcfgepeaaGreat
