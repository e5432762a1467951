/- The walk of StoreTakes. -/
import Derived.Test.YtgpeoonpoogniaaGJ
import Derived.Deep.RegionHeld3
namespace Go.Proofs.Ytgpeoonpoogniaa
open Go.RowKit Go.MapKept

theorem leaf_small {s : ByteArray} : (leafD s).small := ⟨by show 1 ≤ 10000; omega, by show 0 ≤ 10000; omega, by show 0 ≤ 10000; omega, by show 0 ≤ 10000; omega⟩
theorem leafA_chk : (leafD ⟨#[97]⟩).check = true := by decide +kernel
theorem leafB_chk : (leafD ⟨#[98]⟩).check = true := by decide +kernel
set_option maxRecDepth 100000 in
set_option maxHeartbeats 8000000 in
theorem StoreTakes_walk (W : World) {v : Value} {cs : List CallS} (hs : Scr7 [] W v cs) (_ : cs.length ≤ maxLen) (c0 : Int) (hc0 : (Lit.int .i64 c0).wf = true) :
    Calls Try.prog 4 #[v, .int .i64 c0] W fun e w' => e = .returned (.bool true) ∧ Fr [] W w' := by
  obtain ⟨hcl, hch⟩ : -9223372036854775808 ≤ c0 ∧ c0 ≤ 9223372036854775807 := by simp [Lit.wf, IntKind.min, IntKind.max, IntKind.bits, IntKind.signed] at hc0; omega
  clear hc0
  have hmk := run_mkB61
  obtain ⟨a, cap, rfl⟩ := hs.form
  have HS := Lib.hid hs
  clear hs
  obtain ⟨hF0, hF1, hF2, hF3⟩ := StD.Live.format (n := 60) (by decide) (by decide)
  obtain ⟨⟨x1, T1⟩, hF⟩ : ∃ R, formatD (Dv.new 60) = R := ⟨_, rfl⟩
  rw [hF] at hF0 hF1 hF2 hF3
  simp only at hF0 hF1 hF2 hF3
  subst hF0
  have HFM := Lib.hid hF
  have HT1 := Lib.hid (And.intro hF1 hF2)
  have HTN := Lib.hid hF3
  clear hF hF1 hF2 hF3
  go_enter Try.func4, Try.ntmps4
  go_wp2_with fail
  refine (awake7_k _).mono ?_
  rintro e w0 ⟨rfl, hf0⟩
  have HF0 := Lib.hid hf0
  clear hf0
  go_wp2_with fail
  refine (new_k 60 _ (by omega) (by omega)).mono ?_
  rintro e w1 ⟨rfl, hd1, hf1⟩
  obtain ⟨b, hb⟩ : ∃ b, w0.heap.size + 2 = b := ⟨_, rfl⟩
  obtain ⟨mc, hmc⟩ : ∃ mc, w0.heap.size + 1 = mc := ⟨_, rfl⟩
  obtain ⟨ml, hml⟩ : ∃ ml, w0.heap.size = ml := ⟨_, rfl⟩
  rw [hb, hmc, hml] at hd1
  rw [hb]
  have HN : Hid (W.heap.size ≤ b ∧ W.heap.size ≤ ml ∧ W.heap.size ≤ mc) := by have := HF0.out.size; exact ⟨by omega, by omega, by omega⟩
  have HD1 := Lib.hid hd1
  have HF1 := Lib.hid (HF0.out.trans hf1)
  clear hd1 hf1 hb hmc hml
  go_wp2_with fail
  refine (format_k w1 HD1.out (by decide)).mono ?_
  rw [HFM.out]
  rintro e w3 ⟨hf3, h3⟩
  have h3 := h3.resolve_right (fun h => h.1 rfl)
  obtain ⟨_, fm, hfm, rfl, hs3⟩ := h3
  obtain ⟨sb, hsb⟩ : ∃ sb, w1.heap.size = sb := ⟨_, rfl⟩
  rw [hsb] at hfm hs3 ⊢
  have HM3 : Hid (Mine W w3 sb b ml mc fm T1) := Lib.hid ⟨hs3, HF1.out.andThen hf3 (fun x hx => .inr (by have := HN.out; simp only [List.mem_cons, List.not_mem_nil, or_false] at hx; rcases hx with h | h | h <;> omega)), by have := HN.out; have := HF1.out.size; omega⟩
  clear hfm hs3 hf3 hsb
  go_wp2_with fail
  -- done
  have HSC := Lib.hid ((HS.out.more (S' := [sb, fm, b, ml, mc]) (fun x hx => .inr (by
    have h1 := HM3.out.lo
    simp only [List.mem_cons, List.not_mem_nil, or_false] at hx
    rcases hx with h | h | h | h | h <;> omega))).kept HM3.out.fr.nil)
  refine (done7_k w3 HM3.out.sto HT1.out.1 (by rw [HT1.out.2]; decide) HSC.out).mono ?_
  rintro e w4 ⟨rfl, hr4⟩
  obtain ⟨fm4, hm4⟩ := HM3.out.next hr4
  have HM4 := Lib.hid hm4
  have HL4 : Hid ((doneT T1 cs).Live ∧ (doneT T1 cs).dev.n = 60) := Lib.hid (by
    have h := HT1.out.1.foldT 1000 (cs.take 40) (by omega) (by rw [List.length_take]; omega) (by rw [HT1.out.2]; decide)
    exact ⟨h.1, h.2.2.trans HTN.out⟩)
  obtain ⟨T4, hT4⟩ : ∃ T, doneT T1 cs = T := ⟨_, rfl⟩
  rw [hT4] at HM4 HL4
  clear hr4 hm4 hT4
  go_wp2_with fail
  refine (abort_k w4 HM4.out.sto).mono ?_
  rintro e w5 ⟨rfl, hr5⟩
  obtain ⟨fm5, hm5⟩ := HM4.out.next hr5
  have HM5 := Lib.hid hm5
  have HL5 : Hid T4.abort.Live := Lib.hid (HL4.out.1.step (HL4.out.1.run.toAbort HL4.out.1.calm))
  have HN5 : Hid (T4.abort.dev.n = 60) := Lib.hid HL4.out.2
  have HB5 : Hid (T4.abort.pool = T4.abort.base ∧ T4.abort.fresh = (fun _ => false) ∧ T4.abort.base.limbo = []) := Lib.hid ⟨rfl, rfl, HL5.out.run.blimbo⟩
  obtain ⟨T5, hT5⟩ : ∃ T, T4.abort = T := ⟨_, rfl⟩
  rw [hT5] at HM5 HL5 HB5 HN5
  clear hr5 hm5 hT5
  go_wp2_with fail
  have hsm := (HL5.out.run.good.ok HL5.out.calm.fine.n4).1.1
  have HLT5 := Lib.hid HM5.out.sto.lt
  refine (poolget_s w5 HM5.out.sto hsm).mono ?_
  obtain ⟨hb1, hb2, hb3⟩ := HB5.out
  obtain ⟨B, hB⟩ : ∃ B, T5.pool = B := ⟨_, rfl⟩
  rw [hB] at hsm hb1 ⊢
  rw [← hb1] at hb3
  have HSM := Lib.hid hsm
  have HBB : Hid (T5.base = B ∧ B.limbo = [] ∧ T5.fresh = fun _ => false) := Lib.hid ⟨hb1.symm, hb3, hb2⟩
  clear hsm hb1 hb2 hb3 hB HB5
  rintro e w6 ⟨fv, lv, rfl, hfv, hlv, hf6⟩
  obtain ⟨fa, fc, rfl, _⟩ := hfv.form
  obtain ⟨la, lc, rfl, _⟩ := hlv.form
  obtain ⟨W7, hW7⟩ : ∃ W7, w6.alloc (.cells #[.int .i64 B.high, .slice fa B.free.length fc, .slice la B.limbo.length lc] 34) = W7 := ⟨_, rfl⟩
  obtain ⟨W8, hW8⟩ : ∃ W8, W7.alloc (.cells (rowT fun _ => false) 4) = W8 := ⟨_, rfl⟩
  obtain ⟨g, hg⟩ : ∃ g, w6.heap.size = g := ⟨_, rfl⟩
  obtain ⟨q, hq⟩ : ∃ q, W7.heap.size = q := ⟨_, rfl⟩
  have f7 : Fr [] w6 W7 := by rw [← hW7]; exact Fr.alloc1 _ _
  have f8 : Fr [] W7 W8 := by rw [← hW8]; exact Fr.alloc1 _ _
  have z7 : W7.heap.size = w6.heap.size + 1 := by rw [← hW7]; simp
  have b7 : W7.heap[g]? = some (.cells #[.int .i64 B.high, .slice fa B.free.length fc, .slice la B.limbo.length lc] 34 (0, 0)) := by rw [← hW7, ← hg]; exact blk_new _ _
  have b8 : W8.heap[q]? = some (.cells (rowT fun _ => false) 4 (0, 0)) := by rw [← hW8, ← hq]; exact blk_new _ _
  have HT8 : Hid (TkpAt W W8 sb b ml mc fm5 q g T5 B (fun _ => false) fa la fc lc) := Lib.hid (by
    have hz6 := hf6.size
    have hlt := HLT5.out
    have hw := HM5.out.fr.size
    refine ⟨((HM5.out.kept hf6).kept f7).kept f8, b8, f8.heap b7 (by simp), ?_, ?_, ?_, ?_, by omega⟩
    · have h0 : PoolAt [sb, fm5, b, ml, mc] w6 (.agg #[.int .i64 B.high, .slice fa B.free.length fc, .slice la B.limbo.length lc]) B := by
        have hS : ∀ x, x ∈ [sb, fm5, b, ml, mc] → x < w5.heap.size := fun x hx => by
          simp only [List.mem_cons, List.not_mem_nil, or_false] at hx
          rcases hx with h | h | h | h | h <;> omega
        exact ⟨_, _, rfl, hfv _ hS, hlv _ hS⟩
      refine ((h0.kept f7.nil).more (fun x hx => ?_)).kept f8.nil
      simp only [List.mem_cons, List.not_mem_nil, or_false] at hx ⊢
      rcases hx with h | h | h | h | h | h
      · exact .inl (.inl h)
      · exact .inl (.inr (.inl h))
      · exact .inl (.inr (.inr (.inl h)))
      · exact .inl (.inr (.inr (.inr (.inl h))))
      · exact .inl (.inr (.inr (.inr (.inr h))))
      · exact .inr (by omega)
    · intro i Bk o n c hc h0 hm
      have h1 : w5.cell? ⟨sb, i, none⟩ = some (.slice (some ⟨Bk, o, none⟩) n c) := (((hf6.trans f7).trans f8).cell (a := ⟨sb, i, none⟩) hlt.1 (by simp)).symm.trans hc
      have h2 := HM5.out.sto.slcLt i Bk o n c h1 h0
      have h4 : Bk = q := by simpa using hm
      omega
    · simp only [List.mem_cons, List.not_mem_nil, or_false, not_or]; omega
    · simp only [List.mem_cons, List.not_mem_nil, or_false, not_or]; omega)
  clear f7 f8 z7 b7 b8 hfv hlv hf6
  go_upto_if 41 with fail
  go_cut [1] from 40 to 44 (fun p wx => ∃ c : Int, 0 ≤ c ∧ c ≤ 9223372036854775807 ∧ p = .int .i64 c ∧ W8 = wx)
  case first =>
    by_cases hn : c0 < 0
    · go_wp2_with fail
      go_meet
      exact ⟨-(c0 + 1), by omega, by omega, rfl, rfl⟩
    · go_wp2_with fail
      go_meet
      exact ⟨c0, by omega, by omega, rfl, rfl⟩
  case rest =>
    obtain ⟨c, hc1, hc2, rfl, rfl⟩ := hcut
    go_wp2_with fail
    go_loopw [12] (fun i wr => ∃ (k : Nat) (fm1 : Nat) (E : StD), k ≤ 40 ∧ i = .int .i64 k ∧ TkpAt W wr sb b ml mc fm1 q g E B E.fresh fa la fc lc ∧ E.Live ∧ E.base = B ∧ E.dev.n = 60) (fun i _ => 40 - (intOf i).toNat)
    case atStart => exact ⟨0, fm5, T5, by omega, rfl, by rw [HBB.out.2.2]; exact HT8.out, HL5.out, HBB.out.1, HN5.out⟩
    case round =>
      obtain ⟨k, fm1, E, hk40, rfl, hat, hE⟩ := hrel
      have HAT := Lib.hid hat
      have HE := Lib.hid hE
      clear hat hE
      have hr0 : 0 ≤ c % 40 ∧ c % 40 < 40 := by omega
      by_cases hlt : (k : Int) < c % 40
      · have hk39 : (k : Int) < 40 := by omega
        go_wp2_with fail
        refine (law_leaf ⟨#[97]⟩ wr).mono ?_
        rintro e wa ⟨v1, rfl, hp1, hfa⟩
        have HA1 := Lib.hid (HAT.out.kept hfa)
        have HP1 := Lib.hid (hp1 [sb, fm1, b, ml, mc] (fun x hx => by
          have h := HAT.out.mine.sto.lt
          simp only [List.mem_cons, List.not_mem_nil, or_false] at hx
          rcases hx with h | h | h | h | h <;> omega))
        clear hp1 hfa
        go_wp2_with fail
        refine (lay_s 0 wa HA1.out.mine.sto HE.out.1.run.good HP1.out leaf_small (by decide) (by decide)).mono ?_
        have hL := HE.out.1.run.lay_new HE.out.1.calm (p := leafD ⟨#[97]⟩) leafA_chk (by decide)
        have hLs := (HE.out.1.run.lay HE.out.1.calm 0 (leafD ⟨#[97]⟩))
        obtain ⟨⟨n1, e1, E1⟩, hR⟩ : ∃ R, E.lay 0 (leafD ⟨#[97]⟩) = R := ⟨_, rfl⟩
        rw [hR] at hL hLs ⊢
        rintro e w1 ⟨rfl, hr1⟩
        obtain ⟨fm2, h2⟩ := HA1.out.next hr1
        have HA2 := Lib.hid h2
        dsimp only at hL hLs HA2
        have HLS := Lib.hid hLs
        clear hr1 h2 hR hLs
        rcases hL with rfl | ⟨rfl, hfr, hn60, hfx⟩
        · go_wp2_with fail
          go_ret
          exact ⟨rfl, HA2.out.mine.fr⟩
        · have hop := (HLS.out.2 rfl).1
          rw [HE.out.2.1] at hop
          rw [HE.out.2.2] at hn60
          obtain ⟨m, rfl⟩ : ∃ m : Nat, n1 = m := ⟨n1.toNat, by have := hop.1; omega⟩
          have hm2 : (2 : Int) ≤ m := hop.1
          have hm60 : (m : Int) < 60 := by omega
          have hm61 : m < 61 := by omega
          have HOP := Lib.hid hop
          have HFX := Lib.hid hfx
          have hc1 : w1.cell? ⟨q, m, none⟩ = some (.bool false) := by rw [blk_cell HA2.out.row, rowT_get _ hm61, hfr]
          have hmI : (m : Int) < 61 := by omega
          go_upto_region 22 with fail
          have hfz : w1.frozen? ⟨q, m, none⟩ = false := blk_free HA2.out.row m
          obtain ⟨W2, hW2⟩ : ∃ W2, w1.setCell ⟨q, m, none⟩ (.bool true) = W2 := ⟨_, rfl⟩
          have hM := HA2.out.mark hm61
          rw [hW2, show (fun k => decide (k = (m : Int)) || E.fresh k) = E1.fresh from funext fun k => (HFX.out k).symm] at hM
          have HM := Lib.hid hM
          clear hM
          go_upto_region 23 with fail
          clear hfz hW2 hc1
          have g0 := blk_cell HM.out.pool 0
          have g1 := blk_cell HM.out.pool 1
          have g2 := blk_cell HM.out.pool 2
          simp only [List.getElem?_toArray, List.getElem?_cons_zero, List.getElem?_cons_succ] at g0 g1 g2
          go_wp2_with fail
          refine (known_k (b := decide ((m : Int) ∈ B.free) || decide ((m : Int) ∈ B.limbo)) m W2 HM.out.held HSM.out (Eq.refl _)).mono ?_
          rintro e w3 ⟨rfl, hf3⟩
          have HM3' := Lib.hid (HM.out.kept hf3)
          clear hf3 g0 g1 g2
          go_wp2_with fail
          refine (law_leaf ⟨#[98]⟩ w3).mono ?_
          rintro e w4 ⟨v2, rfl, hp2, hf4⟩
          have HM4' := Lib.hid (HM3'.out.kept hf4)
          have HP2 := Lib.hid (hp2 [sb, fm2, b, ml, mc] (fun x hx => by
            have h := HM3'.out.mine.sto.lt
            simp only [List.mem_cons, List.not_mem_nil, or_false] at hx
            rcases hx with h | h | h | h | h <;> omega))
          clear hp2 hf4
          go_wp2_with fail
          have HE1 : Hid (E1.Live ∧ E1.base = B ∧ E1.dev.n = 60 ∧ E1.fresh m = true) := Lib.hid ⟨HE.out.1.step HLS.out.1, HLS.out.1.base.trans HE.out.2.1, HLS.out.1.n.trans HE.out.2.2, (HLS.out.2 (by trivial)).2.1⟩
          refine (lay_s m w4 HM4'.out.mine.sto HE1.out.1.run.good HP2.out leaf_small (by decide) (by decide)).mono ?_
          have hL2 := HE1.out.1.run.lay_again HE1.out.1.calm (p := leafD ⟨#[98]⟩) leafB_chk (by decide) HE1.out.2.2.2
          have hLs2 := (HE1.out.1.run.lay HE1.out.1.calm m (leafD ⟨#[98]⟩)).1
          obtain ⟨⟨n2, e2, E2⟩, hR⟩ : ∃ R, E1.lay m (leafD ⟨#[98]⟩) = R := ⟨_, rfl⟩
          rw [hR] at hL2 hLs2 ⊢
          dsimp only at hL2 hLs2 ⊢
          obtain ⟨rfl, rfl, hfx2⟩ := hL2
          rintro e w5 ⟨rfl, hr5⟩
          obtain ⟨fm3, h3⟩ := HM4'.out.next hr5
          rw [show E1.fresh = E2.fresh from funext fun k => (hfx2 k).symm] at h3
          have HA5 := Lib.hid h3
          have HE2 : Hid (E2.Live ∧ E2.base = B ∧ E2.dev.n = 60) := Lib.hid ⟨HE1.out.1.step hLs2, hLs2.base.trans HE1.out.2.1, hLs2.n.trans HE1.out.2.2.1⟩
          clear hr5 h3 hR hLs2 hfx2
          have k0 := blk_cell HA5.out.pool 0
          simp only [List.getElem?_toArray, List.getElem?_cons_zero] at k0
          have hkn : (decide ((m : Int) ∈ B.free) || decide ((m : Int) ∈ B.limbo)) = true ∨ ((decide ((m : Int) ∈ B.free) || decide ((m : Int) ∈ B.limbo)) = false ∧ ¬ (m : Int) < B.high) := by
            rcases HOP.out.2 with h | h
            · by_cases hf : (m : Int) ∈ B.free
              · left; simp [hf]
              · refine .inr ⟨by rw [HBB.out.2.1]; simp [hf], by omega⟩
            · left; simp [h]
          rcases hkn with hkn | ⟨hkn, hlo⟩
          · rw [hkn]
            go_wp2_with fail
            go_roundw
            case rel => exact ⟨k + 1, fm3, E2, by omega, by go_num, HA5.out, HE2.out⟩
            case measure => simp [intOf]; omega
          · rw [hkn]
            go_wp2_with fail
            go_roundw
            case rel => exact ⟨k + 1, fm3, E2, by omega, by go_num, HA5.out, HE2.out⟩
            case measure => simp [intOf]; omega
      · go_wp2_with fail
        go_ret
        exact ⟨rfl, HAT.out.mine.fr⟩
end Go.Proofs.Ytgpeoonpoogniaa

