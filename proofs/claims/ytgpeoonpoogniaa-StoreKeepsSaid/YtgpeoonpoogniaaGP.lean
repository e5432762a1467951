/- The walk of StoreKeeps. -/
import Derived.Test.YtgpeoonpoogniaaGJ
import Derived.Deep.RegionHeld3
namespace Go.Proofs.Ytgpeoonpoogniaa
open Go.RowKit Go.MapKept

theorem Fr_cells12 {S : List Nat} {w w' : World} {B o0 o1 o2 o3 o4 o5 o6 o7 o8 o9 o10 o11 : Nat} {v0 v1 v2 v3 v4 v5 v6 v7 v8 v9 v10 v11 : Value} (hf : Fr S w w') (hB : B ∉ S)
    (h : w.cell? ⟨B, o0, none⟩ = some v0 ∧ w.cell? ⟨B, o1, none⟩ = some v1 ∧ w.cell? ⟨B, o2, none⟩ = some v2 ∧ w.cell? ⟨B, o3, none⟩ = some v3 ∧ w.cell? ⟨B, o4, none⟩ = some v4 ∧ w.cell? ⟨B, o5, none⟩ = some v5 ∧ w.cell? ⟨B, o6, none⟩ = some v6 ∧ w.cell? ⟨B, o7, none⟩ = some v7 ∧ w.cell? ⟨B, o8, none⟩ = some v8 ∧ w.cell? ⟨B, o9, none⟩ = some v9 ∧ w.cell? ⟨B, o10, none⟩ = some v10 ∧ w.cell? ⟨B, o11, none⟩ = some v11) :
    w'.cell? ⟨B, o0, none⟩ = some v0 ∧ w'.cell? ⟨B, o1, none⟩ = some v1 ∧ w'.cell? ⟨B, o2, none⟩ = some v2 ∧ w'.cell? ⟨B, o3, none⟩ = some v3 ∧ w'.cell? ⟨B, o4, none⟩ = some v4 ∧ w'.cell? ⟨B, o5, none⟩ = some v5 ∧ w'.cell? ⟨B, o6, none⟩ = some v6 ∧ w'.cell? ⟨B, o7, none⟩ = some v7 ∧ w'.cell? ⟨B, o8, none⟩ = some v8 ∧ w'.cell? ⟨B, o9, none⟩ = some v9 ∧ w'.cell? ⟨B, o10, none⟩ = some v10 ∧ w'.cell? ⟨B, o11, none⟩ = some v11 := by
  obtain ⟨h0, h1, h2, h3, h4, h5, h6, h7, h8, h9, h10, h11⟩ := h
  exact ⟨hf.cellSome h0 hB, hf.cellSome h1 hB, hf.cellSome h2 hB, hf.cellSome h3 hB, hf.cellSome h4 hB, hf.cellSome h5 hB, hf.cellSome h6 hB, hf.cellSome h7 hB, hf.cellSome h8 hB, hf.cellSome h9 hB, hf.cellSome h10 hB, hf.cellSome h11 hB⟩
set_option maxRecDepth 100000 in
set_option maxHeartbeats 8000000 in
theorem StoreKeeps_walk (W : World) {v : Value} {cs : List CallS} (hs : Scr7 [] W v cs) (_ : cs.length ≤ maxLen) {mv : Value} {ms : List CallS} (hms : Scr7 [] W mv ms) (_ : ms.length ≤ maxLen) :
    Calls Try.prog 8 #[v, mv] W fun e w' => e = .returned (.bool true) ∧ Fr [] W w' := by
  obtain ⟨ma, mcap, rfl⟩ := hms.form
  have HMS := Lib.hid hms
  clear hms
  obtain ⟨a, cap, rfl⟩ := hs.form
  have HS := Lib.hid hs
  clear hs
  obtain ⟨hF0, hF1, hF2, hF3⟩ := StD.Live.format (n := 60) (by decide) (by decide)
  have hF4 := StD.clean.format (n := 60) (by decide) (by decide)
  obtain ⟨⟨x1, T1⟩, hF⟩ : ∃ R, formatD (Dv.new 60) = R := ⟨_, rfl⟩
  rw [hF] at hF0 hF1 hF2 hF3 hF4
  simp only at hF0 hF1 hF2 hF3 hF4
  subst hF0
  have HFM := Lib.hid hF
  have HT1 := Lib.hid (And.intro hF1 hF2)
  have HTN := Lib.hid hF3
  have HTC := Lib.hid hF4
  clear hF hF1 hF2 hF3 hF4
  go_enter Try.func8, Try.ntmps8
  go_wp2_with fail
  refine (awake7_k _).mono ?_
  rintro e w0 ⟨rfl, hf0⟩
  have HF0 := Lib.hid hf0
  clear hf0
  go_wp2_with fail
  refine (new_k 60 _ (by omega) (by omega)).mono ?_
  rintro e w1 ⟨rfl, hd1, hf1⟩
  obtain ⟨b, hb⟩ : ∃ b, w0.heap.size + 2 = b := ⟨_, rfl⟩
  obtain ⟨mc, hmc⟩ : ∃ mc, w0.heap.size + 1 = mc := ⟨_, rfl⟩
  obtain ⟨ml, hml⟩ : ∃ ml, w0.heap.size = ml := ⟨_, rfl⟩
  rw [hb, hmc, hml] at hd1
  rw [hb]
  have HN : Hid (W.heap.size ≤ b ∧ W.heap.size ≤ ml ∧ W.heap.size ≤ mc) := by have := HF0.out.size; exact ⟨by omega, by omega, by omega⟩
  have HD1 := Lib.hid hd1
  have HF1 := Lib.hid (HF0.out.trans hf1)
  clear hd1 hf1 hb hmc hml
  go_wp2_with fail
  refine (format_k w1 HD1.out (by decide)).mono ?_
  rw [HFM.out]
  rintro e w3 ⟨hf3, h3⟩
  have h3 := h3.resolve_right (fun h => h.1 rfl)
  obtain ⟨_, fm, hfm, rfl, hs3⟩ := h3
  obtain ⟨sb, hsb⟩ : ∃ sb, w1.heap.size = sb := ⟨_, rfl⟩
  rw [hsb] at hfm hs3 ⊢
  have HM3 : Hid (Mine W w3 sb b ml mc fm T1) := Lib.hid ⟨hs3, HF1.out.andThen hf3 (fun x hx => .inr (by have := HN.out; simp only [List.mem_cons, List.not_mem_nil, or_false] at hx; rcases hx with h | h | h <;> omega)), by have := HN.out; have := HF1.out.size; omega⟩
  clear hfm hs3 hf3 hsb
  go_wp2_with fail
  -- done
  have HSC := Lib.hid ((HS.out.more (S' := [sb, fm, b, ml, mc]) (fun x hx => .inr (by
    have h1 := HM3.out.lo
    simp only [List.mem_cons, List.not_mem_nil, or_false] at hx
    rcases hx with h | h | h | h | h <;> omega))).kept HM3.out.fr.nil)
  refine (done7_k w3 HM3.out.sto HT1.out.1 (by rw [HT1.out.2]; decide) HSC.out).mono ?_
  rintro e w4 ⟨rfl, hr4⟩
  obtain ⟨fm4, hm4⟩ := HM3.out.next hr4
  have HM4 := Lib.hid hm4
  have HL4 : Hid ((doneT T1 cs).Live ∧ (doneT T1 cs).dev.n = 60) := Lib.hid (by
    have h := HT1.out.1.foldT 1000 (cs.take 40) (by omega) (by rw [List.length_take]; omega) (by rw [HT1.out.2]; decide)
    exact ⟨h.1, h.2.2.trans HTN.out⟩)
  have HCL4 : Hid (doneT T1 cs).clean := Lib.hid (StD.clean.fold (cs.take 40) T1 1 HTC.out HT1.out.1 (by rw [HT1.out.2]; decide) (by rw [List.length_take]; omega))
  obtain ⟨T4, hT4⟩ : ∃ T, doneT T1 cs = T := ⟨_, rfl⟩
  rw [hT4] at HM4 HL4 HCL4
  clear hr4 hm4 hT4
  go_wp2_with fail
  refine (abort_k w4 HM4.out.sto).mono ?_
  rintro e w5 ⟨rfl, hr5⟩
  obtain ⟨fm5, hm5⟩ := HM4.out.next hr5
  have HM5 := Lib.hid hm5
  have HL5 : Hid T4.abort.Live := Lib.hid (HL4.out.1.step (HL4.out.1.run.toAbort HL4.out.1.calm))
  have HN5 : Hid (T4.abort.dev.n = 60) := Lib.hid HL4.out.2
  have HB5 : Hid (T4.abort.pool = T4.abort.base) := Lib.hid rfl
  have HC5 : Hid (T4.abort.clean) := Lib.hid (HCL4.out.step (HL4.out.1.run.toAbort HL4.out.1.calm))
  obtain ⟨T5, hT5⟩ : ∃ T, T4.abort = T := ⟨_, rfl⟩
  rw [hT5] at HM5 HL5 HB5 HN5 HC5
  clear hr5 hm5 hT5
  go_wp2_with fail
  refine (super_s w5 HM5.out.sto).mono ?_
  rintro e w6 ⟨vs, rfl, ⟨pvs, kvs, dvs, gvs, rfl, his⟩, hf6⟩
  obtain ⟨za, zc, zb, zk, zd, ze, zf, zh, rfl, rfl, rfl, rfl⟩ := his.bare HL5.out.bare
  have HIS : Hid (∀ S' w', PageIn S' w' T5.super (.slice za 0 zc) (.slice zb 0 zk) (.slice zd 0 ze) (.slice zf 0 zh)) := Lib.hid fun S' w' => his.bareAny HL5.out.bare
  have HLT5 := Lib.hid HM5.out.sto.lt
  obtain ⟨W7, hW7⟩ : ∃ W7, w6.alloc (.cells (pageCells T5.super (.slice za 0 zc) (.slice zb 0 zk) (.slice zd 0 ze) (.slice zf 0 zh)).toArray 43) = W7 := ⟨_, rfl⟩
  obtain ⟨u, hu⟩ : ∃ u, w6.heap.size = u := ⟨_, rfl⟩
  have f7 : Fr [] w6 W7 := by rw [← hW7]; exact Fr.alloc1 _ _
  have b7 : W7.heap[u]? = some (.cells (pageCells T5.super (.slice za 0 zc) (.slice zb 0 zk) (.slice zd 0 ze) (.slice zf 0 zh)).toArray 43 (0, 0)) := by rw [← hW7, ← hu]; exact blk_new _ _
  have HM7 := Lib.hid ((HM5.out.kept hf6).kept f7)
  have HB7 := Lib.hid b7
  have HZ7 : Hid (w5.heap.size ≤ u) := Lib.hid (by rw [← hu]; exact hf6.size)
  have HF7 := Lib.hid (hf6.trans f7)
  unfold pageCells at hW7 ⊢
  clear his hf6 f7 b7
  go_wp2_with fail
  clear hW7
  have hsm := (HL5.out.run.good.ok HL5.out.calm.fine.n4).1.1
  have hgd := HL5.out.run.good.pool
  refine (poolget_s W7 HM7.out.sto hsm).mono ?_
  obtain ⟨B, hB⟩ : ∃ B, T5.pool = B := ⟨_, rfl⟩
  have hbb := HB5.out
  rw [hB] at hsm hbb hgd ⊢
  have HSM := Lib.hid hsm
  have HBB : Hid (T5.base = B ∧ B.limbo = []) := Lib.hid ⟨hbb.symm, by rw [hbb]; exact HL5.out.run.blimbo⟩
  have HGD : Hid (2 ≤ B.high ∧ B.high ≤ 60) := Lib.hid ⟨hgd.lo, by have := hgd.hi; rw [HN5.out] at this; exact this⟩
  clear hsm hB hbb hgd HB5
  rintro e w8 ⟨fv, lv0, rfl, hfv, hlv, hf8⟩
  obtain ⟨fa, fc, rfl, _⟩ := hfv.form
  obtain ⟨la, lc, rfl, _⟩ := hlv.form
  obtain ⟨W9, hW9⟩ : ∃ W9, w8.alloc (.cells #[.int .i64 B.high, .slice fa B.free.length fc, .slice la B.limbo.length lc] 34) = W9 := ⟨_, rfl⟩
  obtain ⟨g, hg⟩ : ∃ g, w8.heap.size = g := ⟨_, rfl⟩
  have f9 : Fr [] w8 W9 := by rw [← hW9]; exact Fr.alloc1 _ _
  have b9 : W9.heap[g]? = some (.cells #[.int .i64 B.high, .slice fa B.free.length fc, .slice la B.limbo.length lc] 34 (0, 0)) := by rw [← hW9, ← hg]; exact blk_new _ _
  have HB9 := Lib.hid b9
  have HF89 := Lib.hid (hf8.trans f9)
  have HS5 : Hid (∀ x, x ∈ [sb, fm5, b, ml, mc] → x < w5.heap.size) := Lib.hid (fun x hx => by
    have hlt := HLT5.out
    simp only [List.mem_cons, List.not_mem_nil, or_false] at hx
    rcases hx with h | h | h | h | h <;> omega)
  have HPA : Hid (PoolAt [sb, fm5, b, ml, mc] W9 (.agg #[.int .i64 B.high, .slice fa B.free.length fc, .slice la B.limbo.length lc]) B) := Lib.hid (by
    have hS : ∀ x, x ∈ [sb, fm5, b, ml, mc] → x < W7.heap.size := fun x hx => Nat.lt_of_lt_of_le (HS5.out x hx) HF7.out.size
    exact PoolAt.kept ⟨_, _, rfl, hfv _ hS, hlv _ hS⟩ f9.nil)
  have HM9 := Lib.hid (HM7.out.kept HF89.out)
  have HZ9 : Hid (w5.heap.size ≤ g) := Lib.hid (by rw [← hg]; exact Nat.le_trans HF7.out.size hf8.size)
  clear hfv hlv hf8 f9 b9
  go_wp2_with fail
  clear hW9 hg hu
  refine (listsget_s W9 HM9.out.sto (by have := HL5.out.len; omega)).mono ?_
  rintro e wA ⟨lv, rfl, hlv, hfA⟩
  obtain ⟨lva, lvc, rfl, _⟩ := hlv.form
  have HKB : Hid (∀ w' hv hs', Fr [] wA w' → Txts [sb, fm5, b, ml, mc] w' hv hs' → KepAt W w' sb b ml mc fm5 u g T5 T5.super B T5.lists hs' ms za zb zd zf zc zk ze zh fa la fc lc (.slice lva T5.lists.length lvc) hv (.slice ma ms.length mcap)) := Lib.hid fun w' hv hs' hf ht => by
    have hz7 := HZ7.out
    have hz9 := HZ9.out
    have hS := HS5.out
    have hfA' := hfA.trans hf
    refine ⟨HM9.out.kept hfA', (HF89.out.trans hfA').heap HB7.out (by simp), hfA'.heap HB9.out (by simp), HPA.out.kept hfA'.nil, ?_, ht, ?_, fun hm => by have := hS _ hm; omega, fun hm => by have := hS _ hm; omega⟩
    · exact (hlv _ (fun x hx => by have := hS x hx; have := HF7.out.size; have := HF89.out.size; omega)).kept hf.nil
    · have h1 := HMS.out.more (S' := [sb, fm5, b, ml, mc]) (fun x hx => .inr (by
        have h1 := HM5.out.lo
        simp only [List.mem_cons, List.not_mem_nil, or_false] at hx
        rcases hx with h | h | h | h | h <;> omega))
      exact h1.kept ((HM9.out.kept hfA').fr.nil)
  have HAS : Hid (∀ x, x ∈ [sb, fm5, b, ml, mc] → x < wA.heap.size) := Lib.hid fun x hx => by have := HS5.out x hx; have := HF7.out.size; have := HF89.out.size; have := hfA.size; omega
  have HMA := Lib.hid (HM9.out.kept hfA)
  have HMA_pool := Lib.hid (hfA.heap HB9.out (by simp))
  clear hlv hfA
  go_wp2_with fail
  go_loopw [13, 14] (fun v i wr => ∃ n : Nat, (n : Int) + 2 ≤ B.high ∧ i = .int .i64 (n + 2) ∧ OwnS wA wr v (heldL T5.dev n) ∧ Fr [] wA wr) (fun _ i _ => B.high.toNat - (intOf i).toNat)
  case atStart => exact ⟨0, by have := HGD.out.1; omega, rfl, World.ownsRow_nil _ _ _ _, Fr.refl _ _⟩
  case round =>
    obtain ⟨n, hn2, rfl, how, hfr⟩ := hrel
    have HOW := Lib.hid how
    have HFR := Lib.hid hfr
    obtain ⟨hva, hvc, rfl, hvle⟩ := how.form
    rw [heldL_length] at hvle
    clear how hfr
    have hg0 := blk_cell (HFR.out.heap (HMA_pool.out) (by simp)) 0
    simp only [List.getElem?_toArray, List.getElem?_cons_zero] at hg0
    obtain ⟨hgd1, hgd2⟩ := HGD.out
    by_cases hlt : (n : Int) + 2 < B.high
    · go_wp2_with fail
      have HMR := Lib.hid (HMA.out.kept HFR.out)
      refine (read_k (n + 2) wr HMR.out.sto.dev (HL5.out.calm.use (by omega) (by rw [HN5.out]; omega) (by omega))).mono ?_
      rintro e w1 ⟨rfl, hbk, hf1, hz1⟩
      have hlen : (T5.dev.bytes ((n : Int) + 2)).length = 1024 := HL5.out.calm.fine.len _
      have hcv : (convert 47 9 (.slice (some ⟨wr.heap.size, 0, none⟩) 1024 1024)).run Try.prog w1 = .ok (.string (strOf T5.dev n)) w1 :=
        run_string_bytes (S := []) Try.underlying47 Try.underlying5 Try.underlying9 (hbk.bytes (by simp) hlen)
      obtain ⟨v2, w2, hap, ho2, hf2⟩ := ownS_one (strOf T5.dev n) (ownsKept HOW.out hf1 (by simp)) (by rw [heldL_length]; omega) (Nat.le_trans HFR.out.size hf1.size) 40
      have HAP := Lib.hid hap
      have HO2 : Hid (OwnS wA w2 v2 (heldL T5.dev (n + 1))) := Lib.hid (by rw [heldL_succ]; exact ho2)
      have HF2 := Lib.hid (OwnS.after HOW.out HFR.out (hf1.trans (Fr.alloc1 _ _)) hf2)
      obtain ⟨v2a, v2c, rfl, _⟩ := HO2.out.form
      clear hap ho2 hf2 hf1 hz1 hbk hg0
      go_wp2_with (at_builtin; refine wpList_append_run rfl _ _ _ rfl HAP.out ?_)
      go_roundw
      case rel => exact ⟨n + 1, by omega, by go_num, HO2.out, HF2.out⟩
      case measure => simp [intOf]; omega
    · have HK0 := Lib.hid (HKB.out wr _ _ HFR.out (HOW.out.txts _ HAS.out))
      have HN2 : Hid ((n : Int) + 2 = B.high) := Lib.hid (by omega)
      obtain ⟨NL, hNL⟩ : ∃ NL, (heldL T5.dev n).length = NL := ⟨_, rfl⟩
      rw [heldL_length] at hNL
      rw [heldL_length] at HK0 ⊢
      clear hNL
      go_wp2_with fail
      clear hlt hn2 hg0
      go_loopw [17] (fun i wr => ∃ (k : Nat) (fm1 : Nat) (E : StD), k ≤ ms.length ∧ k ≤ 40 ∧ i = .int .i64 k ∧ KepAt W wr sb b ml mc fm1 u g E T5.super B T5.lists (heldL T5.dev n) ms za zb zd zf zc zk ze zh fa la fc lc (.slice lva T5.lists.length lvc) (.slice hva n hvc) (.slice ma ms.length mcap) ∧ T5.Step E) (fun i _ => ms.length - (intOf i).toNat)
      case atStart => exact ⟨0, fm5, T5, by omega, by omega, rfl, HK0.out, .refl HL5.out.run HL5.out.calm⟩
      case round =>
        obtain ⟨k, fm1, E, hkl, hk40, rfl, hat, hst⟩ := hrel
        have HAT := Lib.hid hat
        have HST := Lib.hid (And.intro hst (HL5.out.step hst))
        clear hat hst
        by_cases hin : k < ms.length ∧ k < 40
        · obtain ⟨hlt, hlt4⟩ := hin
          have hkI : (k : Int) < (ms.length : Int) := by omega
          have hk4 : (k : Int) < 40 := by omega
          rcases HAT.out.more with ⟨_, _, _, h0⟩ | ⟨Bm, off, cap', hv, hall⟩
          · exfalso; rw [h0] at hlt; simp at hlt
          · obtain ⟨rfl, rfl⟩ : ma = some ⟨Bm, off, none⟩ ∧ mcap = cap' := by simp only [Value.slice.injEq] at hv; exact ⟨hv.1, hv.2.2⟩
            have hca := hall k ms[k] (List.getElem?_eq_getElem hlt)
            generalize ms[k] = c at *
            obtain ⟨pa, pc, ka, kc, da, dc, ga, gc, d0, d1, xa, xl, xc, ya, yl, yc, d4, d5, hca⟩ := hca
            have HCA := Lib.hid hca
            have q0 := hca.cells 0 _ rfl
            have q1 := hca.cells 1 _ rfl
            have q4 := hca.cells 4 _ rfl
            have q5 := hca.cells 5 _ rfl
            have q6 := hca.cells 6 _ rfl
            have q7 := hca.cells 7 _ rfl
            have q8 := hca.cells 8 _ rfl
            have q9 := hca.cells 9 _ rfl
            have q10 := hca.cells 10 _ rfl
            have q11 := hca.cells 11 _ rfl
            have q12 := hca.cells 12 _ rfl
            have q13 := hca.cells 13 _ rfl
            have q14 := hca.cells 14 _ rfl
            rw [Nat.add_zero] at q0
            clear hca hall hv
            have HPG := Lib.hid (PageIn.at (S' := []) HCA.out.page (Fr.refl _ _) (by simp))
            have HBS : Hid (Bm ∉ [sb, fm1, b, ml, mc]) := Lib.hid HCA.out.out
            go_wp2_with fail
            refine (few_k (S := []) (p := c.p) wr ⟨_, _, _, _, rfl, HPG.out⟩ rfl).mono ?_
            rintro e w2 ⟨rfl, hf2⟩
            have HA2 := Lib.hid (HAT.out.kept hf2)
            have HPG2 := Lib.hid (HCA.out.page.kept hf2.nil)
            have p0 := hf2.cellSome q0 (by simp)
            have p1 := hf2.cellSome q1 (by simp)
            have p4 := hf2.cellSome q4 (by simp)
            have p5 := hf2.cellSome q5 (by simp)
            have p6 := hf2.cellSome q6 (by simp)
            have p7 := hf2.cellSome q7 (by simp)
            have p8 := hf2.cellSome q8 (by simp)
            have p9 := hf2.cellSome q9 (by simp)
            have p10 := hf2.cellSome q10 (by simp)
            have p11 := hf2.cellSome q11 (by simp)
            have p12 := hf2.cellSome q12 (by simp)
            have p13 := hf2.cellSome q13 (by simp)
            have p14 := hf2.cellSome q14 (by simp)
            clear hf2 q0 q1 q4 q5 q6 q7 q8 q9 q10 q11 q12 q13 q14
            by_cases hfw : fewB c.p = true
            · rw [hfw]
              by_cases h1 : c.kind = 1
              · rw [h1] at p0
                go_upto_region 26 with fail
                have hdr : Fr [] w2 w2.drew := (Fr.refl [] w2).drew
                have HAD := Lib.hid (HA2.out.kept hdr)
                have HPGD := Lib.hid (HPG2.out.kept hdr.nil)
                have HKD := Lib.hid (show ((fun w' => w'.cell? ⟨Bm, off + k * 21 + 1, none⟩ = some (.int .i64 c.n) ∧ w'.cell? ⟨Bm, off + k * 21 + 4, none⟩ = some (.int .i64 c.p.kind) ∧ w'.cell? ⟨Bm, off + k * 21 + 5, none⟩ = some (.slice pa c.p.pairs.length pc) ∧ w'.cell? ⟨Bm, off + k * 21 + 6, none⟩ = some (.slice ka c.p.keys.length kc) ∧ w'.cell? ⟨Bm, off + k * 21 + 7, none⟩ = some (.slice da c.p.kids.length dc) ∧ w'.cell? ⟨Bm, off + k * 21 + 8, none⟩ = some (.slice ga c.p.pages.length gc) ∧ w'.cell? ⟨Bm, off + k * 21 + 9, none⟩ = some (.int .i64 c.p.next) ∧ w'.cell? ⟨Bm, off + k * 21 + 10, none⟩ = some (.int .u64 c.p.epoch) ∧ w'.cell? ⟨Bm, off + k * 21 + 11, none⟩ = some (.int .i64 c.p.root) ∧ w'.cell? ⟨Bm, off + k * 21 + 12, none⟩ = some (.int .i64 c.p.depth) ∧ w'.cell? ⟨Bm, off + k * 21 + 13, none⟩ = some (.int .i64 c.p.count) ∧ w'.cell? ⟨Bm, off + k * 21 + 14, none⟩ = some (.int .i64 c.p.high))) w2.drew from ⟨hdr.cellSome p1 (by simp), hdr.cellSome p4 (by simp), hdr.cellSome p5 (by simp), hdr.cellSome p6 (by simp), hdr.cellSome p7 (by simp), hdr.cellSome p8 (by simp), hdr.cellSome p9 (by simp), hdr.cellSome p10 (by simp), hdr.cellSome p11 (by simp), hdr.cellSome p12 (by simp), hdr.cellSome p13 (by simp), hdr.cellSome p14 (by simp)⟩)
                have r0 := hdr.cellSome p0 (by simp)
                have HR0 := Lib.hid r0
                clear hdr r0 p0 p1 p4 p5 p6 p7 p8 p9 p10 p11 p12 p13 p14
                go_region_held3 (fun w' => w'.cell? ⟨Bm, off + k * 21 + 1, none⟩ = some (.int .i64 c.n) ∧ w'.cell? ⟨Bm, off + k * 21 + 4, none⟩ = some (.int .i64 c.p.kind) ∧ w'.cell? ⟨Bm, off + k * 21 + 5, none⟩ = some (.slice pa c.p.pairs.length pc) ∧ w'.cell? ⟨Bm, off + k * 21 + 6, none⟩ = some (.slice ka c.p.keys.length kc) ∧ w'.cell? ⟨Bm, off + k * 21 + 7, none⟩ = some (.slice da c.p.kids.length dc) ∧ w'.cell? ⟨Bm, off + k * 21 + 8, none⟩ = some (.slice ga c.p.pages.length gc) ∧ w'.cell? ⟨Bm, off + k * 21 + 9, none⟩ = some (.int .i64 c.p.next) ∧ w'.cell? ⟨Bm, off + k * 21 + 10, none⟩ = some (.int .u64 c.p.epoch) ∧ w'.cell? ⟨Bm, off + k * 21 + 11, none⟩ = some (.int .i64 c.p.root) ∧ w'.cell? ⟨Bm, off + k * 21 + 12, none⟩ = some (.int .i64 c.p.depth) ∧ w'.cell? ⟨Bm, off + k * 21 + 13, none⟩ = some (.int .i64 c.p.count) ∧ w'.cell? ⟨Bm, off + k * 21 + 14, none⟩ = some (.int .i64 c.p.high))
                  (first | with_reducible exact HKD.out | with_reducible exact HK3.out)
                  (first
                  | (go_at_call 15
                     refine (lay_s c.n w2.drew HAD.out.mine.sto HST.out.2.run.good ⟨_, _, _, _, rfl, HPGD.out⟩ (fewB_small hfw) (u64_bd HCA.out.wf.epoch).1 (u64_bd HCA.out.wf.epoch).2).mono ?_
                     intro e w3 hw3
                     obtain ⟨rfl, hr3⟩ := hw3
                     have hf3 : Fr [sb, fm1, b, ml, mc] w2.drew w3 := by obtain ⟨_, _, h, _⟩ := hr3; exact h
                     obtain ⟨fm2, hn2⟩ := HAD.out.next hr3
                     have HA3 := Lib.hid hn2
                     have r0 := hf3.cellSome HR0.out HBS.out
                     have HK3 := Lib.hid (Fr_cells12 hf3 HBS.out HKD.out)
                     clear hf3 hr3 hn2))
                go_wp2_with fail
                have hst3 := HST.out.1.trans (HST.out.2.run.lay HST.out.2.calm c.n c.p).1
                go_roundw
                case rel => exact ⟨k + 1, fm2, _, by omega, by omega, by go_num, HA3.out, hst3⟩
                case measure => simp [intOf]; omega
              · by_cases h2 : c.kind = 2
                · rw [h2] at p0
                  go_wp2_with fail
                  refine (sdrop_k c.n w2 HA2.out.mine.sto (HST.out.2.run.good.ok HST.out.2.calm.fine.n4).1).mono ?_
                  rintro e w3 ⟨rfl, hr3⟩
                  obtain ⟨fm2, hn2⟩ := HA2.out.next hr3
                  have HA3 := Lib.hid hn2
                  have hst3 := HST.out.1.trans (HST.out.2.run.toDrop HST.out.2.calm c.n)
                  clear hr3 hn2
                  go_wp2_with fail
                  go_roundw
                  case rel => exact ⟨k + 1, fm2, _, by omega, by omega, by go_num, HA3.out, hst3⟩
                  case measure => simp [intOf]; omega
                · go_wp2_with fail
                  go_roundw
                  case rel => exact ⟨k + 1, fm1, E, by omega, by omega, by go_num, HA2.out, HST.out.1⟩
                  case measure => simp [intOf]; omega
            · rw [Bool.not_eq_true] at hfw
              rw [hfw]
              go_wp2_with fail
              go_roundw
              case rel => exact ⟨k + 1, fm1, E, by omega, by omega, by go_num, HA2.out, HST.out.1⟩
              case measure => simp [intOf]; omega
        · have hge : (¬ (k : Int) < (ms.length : Int)) ∨ ((k : Int) < (ms.length : Int) ∧ ¬ (k : Int) < 40) := by omega
          rcases hge with hge | ⟨hge, hge4⟩
          all_goals
            go_wp2_with fail
            clear hge
            go_loopw [19] (fun i w' => ∃ m : Nat, (m : Int) + 2 ≤ B.high ∧ i = .int .i64 (m + 2) ∧ Fr [] wr w') (fun i _ => B.high.toNat - (intOf i).toNat)
            case atStart => exact ⟨0, by have := HGD.out.1; omega, rfl, Fr.refl _ _⟩
            case round =>
              obtain ⟨m, hm2, rfl, hfr⟩ := hrel
              have HAM := Lib.hid (HAT.out.kept hfr)
              have HFM' := Lib.hid hfr
              have hg0 := blk_cell HAM.out.pool 0
              simp only [List.getElem?_toArray, List.getElem?_cons_zero] at hg0
              obtain ⟨hgd1, hgd2⟩ := HGD.out
              clear hfr
              by_cases hlt : (m : Int) + 2 < B.high
              · go_wp2_with fail
                have hmn : m < n := by have := HN2.out; omega
                have hn60 : E.dev.n = 60 := HST.out.1.n.trans HN5.out
                refine (read_k (m + 2) wr HAM.out.mine.sto.dev (HST.out.2.calm.use (by omega) (by rw [hn60]; omega) (by omega))).mono ?_
                rintro e w1 ⟨rfl, hbk, hf1, hz1⟩
                have HA1 := Lib.hid (HAM.out.kept hf1)
                have hlen : (E.dev.bytes ((m : Int) + 2)).length = 1024 := HST.out.2.calm.fine.len _
                have HBY := Lib.hid (hbk.bytes (S := []) (by simp) hlen)
                have HF1' := Lib.hid (HFM'.out.trans hf1)
                clear hf1 hz1 hbk hg0
                have g0 := blk_cell HA1.out.pool 0
                have g1 := blk_cell HA1.out.pool 1
                have g2 := blk_cell HA1.out.pool 2
                simp only [List.getElem?_toArray, List.getElem?_cons_zero, List.getElem?_cons_succ] at g0 g1 g2
                obtain ⟨kb, hkb⟩ : ∃ kb, (decide (((m : Int) + 2) ∈ B.free) || decide (((m : Int) + 2) ∈ B.limbo)) = kb := ⟨_, rfl⟩
                go_wp2_with fail
                refine (known_k (b := kb) (m + 2) w1 HA1.out.held HSM.out hkb).mono ?_
                rintro e w2 ⟨rfl, hf2⟩
                have HA2 := Lib.hid (HA1.out.kept hf2)
                have hcv : ∀ nq, (convert 47 9 (.slice (some ⟨wr.heap.size, 0, none⟩) 1024 1024)).run Try.prog (w2.drewN nq) = .ok (.string (strOf E.dev m)) (w2.drewN nq) := fun nq =>
                  run_string_bytes (S := []) Try.underlying47 Try.underlying5 Try.underlying9 ((HBY.out.kept hf2).kept (frDrewN [] _ _))
                have HF2' := Lib.hid (HF1'.out.trans hf2)
                clear hf2 g0 g1 g2
                cases kb
                · obtain ⟨Bh, oh, hva', hce⟩ : ∃ Bh oh, hva = some ⟨Bh, oh, none⟩ ∧ w2.cell? ⟨Bh, oh + m, none⟩ = some (.string (strOf T5.dev m)) := by
                    have ht := HA2.out.txts
                    have hlen2 : m < (heldL T5.dev n).length := by rw [heldL_length]; exact hmn
                    rcases ht with ⟨_, _, _, h0, _⟩ | ⟨Bh, oh, cap, h, hrest⟩
                    · rw [heldL_length] at h0; omega
                    · have h' : hva = some ⟨Bh, oh, none⟩ := by simp only [Value.slice.injEq] at h; exact h.1
                      refine ⟨Bh, oh, h', ?_⟩
                      subst h'
                      have hc := Txts.at (S := [sb, fm1, b, ml, mc]) (w := w2) (B := Bh) (off := oh) (n := n) (cap := hvc) (l := heldL T5.dev n) (HA2.out.txts) hlen2
                      have he := heldL_get T5.dev hmn
                      rw [List.getElem?_eq_getElem hlen2] at he
                      rw [hc]
                      exact congrArg (fun x => some (Value.string x)) (Option.some.inj he)
                  have hse : strOf E.dev m = strOf T5.dev m := by
                    unfold strOf
                    have hno : ¬ T5.base.opn ((m : Int) + 2) := fun ho => by
                      rw [HBB.out.1] at ho
                      simp only [Bool.or_eq_false_iff, decide_eq_false_iff_not] at hkb
                      rcases ho.2 with h | h
                      · omega
                      · exact hkb.1 h
                    rw [(HST.out.1.bytes _ hno).1]
                  subst hva'
                  rw [hse] at hcv
                  have hmI : (m : Int) < (n : Int) := by omega
                  go_wp2_with fail
                  go_quiet (fail)
                  go_wp2
                  go_roundw
                  case rel => exact ⟨m + 1, by omega, by go_num, HF2'.out.trans (frDrewN [] _ _)⟩
                  case measure => simp [intOf]; omega
                · clear hcv
                  go_wp2_with fail
                  go_quiet (fail)
                  go_wp2
                  go_roundw
                  case rel => exact ⟨m + 1, by omega, by go_num, HF2'.out.trans (frDrewN [] _ _)⟩
                  case measure => simp [intOf]; omega
              · go_wp2_with fail
                clear hlt hm2 hg0
                have HH : Hid (Holds (restartD E.dev [] (-1) 0) T5.super T5.lists T5.base) := Lib.hid (keeps_holds HL5.out HC5.out HST.out.1)
                refine (restart_k (keep := []) (-1) 0 wr HAM.out.mine.sto.dev (Slc.nil _ _) (by simp)).mono ?_
                rintro e w1 ⟨rfl, hd1, hf1⟩
                have hf1' : Fr [sb, fm1, b, ml, mc] wr w1 := hf1.mono (fun x hx _ => by
                  simp only [List.mem_cons, List.not_mem_nil, or_false] at hx ⊢
                  rcases hx with h | h | h <;> simp [h])
                have HD1 := Lib.hid hd1
                have HU1 := Lib.hid (hf1'.heap HAM.out.sup HAM.out.neu)
                have HG1 := Lib.hid (hf1'.heap HAM.out.pool HAM.out.neg)
                have HP1 := Lib.hid (HAM.out.held.kept hf1')
                have HLI1 : Hid (Ints [sb, fm1, b, ml, mc] w1 (.slice lva T5.lists.length lvc) T5.lists) := Lib.hid (Slc.kept HAM.out.lists hf1')
                have HW1 : Hid (Fr [] W w1) := Lib.hid (HAM.out.mine.fr.andThen hf1' (fun x hx => .inr (by
                  have h1 := HAM.out.mine.lo
                  simp only [List.mem_cons, List.not_mem_nil, or_false] at hx
                  rcases hx with h | h | h | h | h <;> omega)))
                have HOF : Hid ((restartD E.dev [] (-1) 0).off = false) := Lib.hid (restart_n _ _ _ _).2.1
                clear hd1 hf1 hf1'
                obtain ⟨D6, hD6⟩ : ∃ D6, restartD E.dev [] (-1) 0 = D6 := ⟨_, rfl⟩
                rw [hD6] at HH HD1 HOF
                clear hD6
                go_wp2_with fail
                refine (open_k w1 HD1.out (HH.out.flat HOF.out HD1.out.fine)).mono ?_
                rw [HH.out.open HOF.out HD1.out.fine]
                rintro e w2 ⟨hf2, h2⟩
                have h2 := h2.resolve_left (fun h => by cases h.1)
                obtain ⟨T6, sb6, fm6, hT6, _, _, rfl, hs6⟩ := h2
                cases hT6
                rw [HBB.out.1] at hs6
                have hd2 : Fr [] w2 w2.drew := (Fr.refl [] w2).drew
                have hf2' := hf2.trans hd2
                have HS6 := Lib.hid (hs6.kept hd2)
                have HF6 := Lib.hid (HW1.out.trans hf2')
                have HU2 := Lib.hid (hf2'.heap HU1.out (by simp))
                have HKC : Hid (∀ w' : World, w'.heap[u]? = some (.cells (pageCells T5.super (.slice za 0 zc) (.slice zb 0 zk) (.slice zd 0 ze) (.slice zf 0 zh)).toArray 43 (0, 0)) → (fun w' : World => w'.cell? ⟨u, 0, none⟩ = some (.int .i64 T5.super.kind) ∧ w'.cell? ⟨u, 1, none⟩ = some (.slice za 0 zc) ∧ w'.cell? ⟨u, 2, none⟩ = some (.slice zb 0 zk) ∧ w'.cell? ⟨u, 3, none⟩ = some (.slice zd 0 ze) ∧ w'.cell? ⟨u, 4, none⟩ = some (.slice zf 0 zh) ∧ w'.cell? ⟨u, 5, none⟩ = some (.int .i64 T5.super.next) ∧ w'.cell? ⟨u, 6, none⟩ = some (.int .u64 T5.super.epoch) ∧ w'.cell? ⟨u, 7, none⟩ = some (.int .i64 T5.super.root) ∧ w'.cell? ⟨u, 8, none⟩ = some (.int .i64 T5.super.depth) ∧ w'.cell? ⟨u, 9, none⟩ = some (.int .i64 T5.super.count) ∧ w'.cell? ⟨u, 10, none⟩ = some (.int .i64 T5.super.high)) w') := Lib.hid fun w' h => ⟨blk_cell h 0, blk_cell h 1, blk_cell h 2, blk_cell h 3, blk_cell h 4, blk_cell h 5, blk_cell h 6, blk_cell h 7, blk_cell h 8, blk_cell h 9, blk_cell h 10⟩
                have HK2 := Lib.hid (HKC.out _ HU2.out)
                have HG2 := Lib.hid (hf2'.heap HG1.out (by simp))
                have HP2 := Lib.hid (HP1.out.kept hf2'.nil)
                have HLI2 := Lib.hid (Slc.kept HLI1.out hf2'.nil)
                clear hf2 hd2 hf2' hs6
                go_upto_region 40 with fail
                go_region_held3 (fun w' => w'.cell? ⟨u, 0, none⟩ = some (.int .i64 T5.super.kind) ∧ w'.cell? ⟨u, 1, none⟩ = some (.slice za 0 zc) ∧ w'.cell? ⟨u, 2, none⟩ = some (.slice zb 0 zk) ∧ w'.cell? ⟨u, 3, none⟩ = some (.slice zd 0 ze) ∧ w'.cell? ⟨u, 4, none⟩ = some (.slice zf 0 zh) ∧ w'.cell? ⟨u, 5, none⟩ = some (.int .i64 T5.super.next) ∧ w'.cell? ⟨u, 6, none⟩ = some (.int .u64 T5.super.epoch) ∧ w'.cell? ⟨u, 7, none⟩ = some (.int .i64 T5.super.root) ∧ w'.cell? ⟨u, 8, none⟩ = some (.int .i64 T5.super.depth) ∧ w'.cell? ⟨u, 9, none⟩ = some (.int .i64 T5.super.count) ∧ w'.cell? ⟨u, 10, none⟩ = some (.int .i64 T5.super.high))
                  (first | with_reducible exact HK2.out | with_reducible exact HK3.out | with_reducible exact HK4.out)
                  (first
                  | (go_at_call 19
                     refine (super_s w2.drew HS6.out).mono ?_
                     intro e w3 h3
                     obtain ⟨v3, rfl, hp3, hf3⟩ := h3
                     have HP3 := Lib.hid hp3
                     have HF3 := Lib.hid hf3
                     have HU3 := Lib.hid (hf3.heap HU2.out (by simp))
                     have HK3 := Lib.hid (HKC.out _ HU3.out)
                     clear hp3 hf3)
                  | (go_at_call 23
                     refine (same5_k (S' := []) (b := true) w3 HP3.out ⟨_, _, _, _, rfl, HIS.out [] w3⟩ HL5.out.bare HL5.out.bare (eqSuper_refl _)).mono ?_
                     intro e w4 h4
                     obtain ⟨rfl, hf4⟩ := h4
                     have HF4 := Lib.hid (HF3.out.trans hf4)
                     have HK4 := Lib.hid (HKC.out _ (hf4.heap HU3.out (by simp)))
                     clear hf4))
                have hd4 : Fr [] w4 w4.drew := (Fr.refl [] w4).drew
                have hf4 := HF4.out.trans hd4
                have HS7 := Lib.hid (HS6.out.kept hf4)
                have HG7 := Lib.hid (hf4.heap HG2.out (by simp))
                have HP7 := Lib.hid (HP2.out.kept hf4.nil)
                have HLI7 := Lib.hid (Slc.kept HLI2.out hf4.nil)
                have HF7 := Lib.hid (HF6.out.trans hf4)
                have HKG : Hid (∀ w' : World, w'.heap[g]? = some (.cells #[.int .i64 B.high, .slice fa B.free.length fc, .slice la B.limbo.length lc] 34 (0, 0)) → (fun w' : World => w'.cell? ⟨g, 0, none⟩ = some (.int .i64 B.high) ∧ w'.cell? ⟨g, 1, none⟩ = some (.slice fa B.free.length fc) ∧ w'.cell? ⟨g, 2, none⟩ = some (.slice la B.limbo.length lc)) w') := Lib.hid fun w' h => ⟨blk_cell h 0, blk_cell h 1, blk_cell h 2⟩
                have HK7 := Lib.hid (HKG.out _ HG7.out)
                clear hd4 hf4
                go_upto_region 41 with fail
                go_region_held3 (fun w' => w'.cell? ⟨g, 0, none⟩ = some (.int .i64 B.high) ∧ w'.cell? ⟨g, 1, none⟩ = some (.slice fa B.free.length fc) ∧ w'.cell? ⟨g, 2, none⟩ = some (.slice la B.limbo.length lc))
                  (first | with_reducible exact HK7.out | with_reducible exact HK8.out | with_reducible exact HK9.out)
                  (first
                  | (go_at_call 14
                     refine (poolget_s w4.drew HS7.out HSM.out).mono ?_
                     intro e w8 h8
                     obtain ⟨fv8, lv8, rfl, hfv8, hlv8, hf8⟩ := h8
                     have HFV8 := Lib.hid hfv8
                     have HLV8 := Lib.hid hlv8
                     have HF8 := Lib.hid hf8
                     have HG8 := Lib.hid (hf8.heap HG7.out (by simp))
                     have HK8 := Lib.hid (HKG.out _ HG8.out)
                     clear hfv8 hlv8 hf8)
                  | (go_at_call 30
                     refine (same6_k (S := []) (S' := [sb, fm1, b, ml, mc]) (p := B) (q := B) (b := true) w8 ⟨_, _, rfl, HFV8.out [] (by simp), HLV8.out [] (by simp)⟩ (HP7.out.kept HF8.out.nil) HSM.out HSM.out (by simp [eqInts])).mono ?_
                     intro e w9 h9
                     obtain ⟨rfl, hf9⟩ := h9
                     have HF9 := Lib.hid (HF8.out.trans hf9)
                     have HK9 := Lib.hid (HKG.out _ (hf9.heap HG8.out (by simp)))
                     clear hf9))
                have HS9 := Lib.hid (HS7.out.kept HF9.out)
                have HLI9 := Lib.hid (Slc.kept HLI7.out HF9.out.nil)
                have HF99 := Lib.hid (HF7.out.trans HF9.out)
                have hll : T5.lists.length ≤ 1048576 := by have := HL5.out.len; omega
                go_wp2_with fail
                refine (listsget_s w9 HS9.out hll).mono ?_
                rintro e wa ⟨va, rfl, hva, hfa⟩
                have HVA := Lib.hid hva
                have HLIA := Lib.hid (Slc.kept HLI9.out hfa.nil)
                have HFA := Lib.hid (HF99.out.trans hfa)
                clear hva hfa
                go_wp2_with fail
                refine (ints6_k (S := []) (S' := [sb, fm1, b, ml, mc]) (l := T5.lists) (l' := T5.lists) (b := true) wa (HVA.out [] (by simp)) HLIA.out hll hll (by simp [eqInts])).mono ?_
                rintro e wb ⟨rfl, nb, rfl⟩
                go_wp2_with fail
                go_ret
                exact ⟨rfl, HFA.out.trans (frDrewN [] _ _)⟩
end Go.Proofs.Ytgpeoonpoogniaa

