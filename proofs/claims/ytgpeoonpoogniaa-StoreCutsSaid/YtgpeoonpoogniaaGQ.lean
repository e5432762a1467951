/- The walk of StoreCuts. -/
import Derived.Test.YtgpeoonpoogniaaGJ
import Derived.Test.YtgpeoonpoogniaaGI
import Derived.Deep.RegionHeld3
namespace Go.Proofs.Ytgpeoonpoogniaa
open Go.RowKit Go.MapKept

theorem leaf_small' {s : ByteArray} : (leafD s).small := ⟨by show 1 ≤ 10000; omega, by show 0 ≤ 10000; omega, by show 0 ≤ 10000; omega, by show 0 ≤ 10000; omega⟩
set_option maxRecDepth 100000 in
set_option maxHeartbeats 8000000 in
theorem StoreCuts_walk (W : World) {v : Value} {cs : List CallS} (hs : Scr7 [] W v cs) (_ : cs.length ≤ maxLen) (key : ByteArray) (hkm : key.size ≤ 140737488355328) (fuse : Int) (hfu : (Lit.int .i64 fuse).wf = true) {kv : Value} {keep : List Int} (hkp : Ints [] W kv keep) (hkl : keep.length ≤ maxLen) (torn : Int) (_ : (Lit.int .i64 torn).wf = true) (cut : Int) (_ : (Lit.int .i64 cut).wf = true) :
    Calls Try.prog 7 #[v, .string key, .int .i64 fuse, kv, .int .i64 torn, .int .i64 cut] W fun e w' => e = .returned (.bool true) ∧ Fr [] W w' := by
  obtain ⟨hfu1, hfu2⟩ : -9223372036854775808 ≤ fuse ∧ fuse ≤ 9223372036854775807 := by simp [Lit.wf, IntKind.min, IntKind.max, IntKind.bits, IntKind.signed] at hfu; omega
  obtain ⟨ka, kc, rfl, _⟩ := Slc.form hkp
  have HKP := Lib.hid hkp
  have HKM := Lib.hid (And.intro hkm hkl)
  have HFU := Lib.hid (And.intro hfu1 hfu2)
  clear hkp hkm hkl hfu hfu1 hfu2
  have hfe : ∀ (k : Int) (pv kv dv gv : Value) (nx ep rt dp ct hg : Int) (w : World), (Instr.field 43 (.agg #[.int .i64 k, pv, kv, dv, gv, .int .i64 nx, .int .u64 ep, .int .i64 rt, .int .i64 dp, .int .i64 ct, .int .i64 hg]) 6).run Try.prog w = .ok (.int .u64 ep) w := fun _ _ _ _ _ _ _ _ _ _ _ _ => by kernel_rfl
  have hfr : ∀ (k : Int) (pv kv dv gv : Value) (nx ep rt dp ct hg : Int) (w : World), (Instr.field 43 (.agg #[.int .i64 k, pv, kv, dv, gv, .int .i64 nx, .int .u64 ep, .int .i64 rt, .int .i64 dp, .int .i64 ct, .int .i64 hg]) 7).run Try.prog w = .ok (.int .i64 rt) w := fun _ _ _ _ _ _ _ _ _ _ _ _ => by kernel_rfl
  obtain ⟨a, cap, rfl⟩ := hs.form
  have HS := Lib.hid hs
  clear hs
  obtain ⟨hF0, hF1, hF2, hF3⟩ := StD.Live.format (n := 60) (by decide) (by decide)
  have hF4 := StD.clean.format (n := 60) (by decide) (by decide)
  obtain ⟨⟨x1, T1⟩, hF⟩ : ∃ R, formatD (Dv.new 60) = R := ⟨_, rfl⟩
  rw [hF] at hF0 hF1 hF2 hF3 hF4
  simp only at hF0 hF1 hF2 hF3 hF4
  subst hF0
  have HFM := Lib.hid hF
  have HT1 := Lib.hid (And.intro hF1 hF2)
  have HTN := Lib.hid hF3
  have HTC := Lib.hid hF4
  clear hF hF1 hF2 hF3 hF4
  go_enter Try.func7, Try.ntmps7
  go_wp2_with fail
  refine (awake7_k _).mono ?_
  rintro e w0 ⟨rfl, hf0⟩
  have HF0 := Lib.hid hf0
  clear hf0
  go_wp2_with fail
  refine (new_k 60 _ (by omega) (by omega)).mono ?_
  rintro e w1 ⟨rfl, hd1, hf1⟩
  obtain ⟨b, hb⟩ : ∃ b, w0.heap.size + 2 = b := ⟨_, rfl⟩
  obtain ⟨mc, hmc⟩ : ∃ mc, w0.heap.size + 1 = mc := ⟨_, rfl⟩
  obtain ⟨ml, hml⟩ : ∃ ml, w0.heap.size = ml := ⟨_, rfl⟩
  rw [hb, hmc, hml] at hd1
  rw [hb]
  have HN : Hid (W.heap.size ≤ b ∧ W.heap.size ≤ ml ∧ W.heap.size ≤ mc) := by have := HF0.out.size; exact ⟨by omega, by omega, by omega⟩
  have HD1 := Lib.hid hd1
  have HF1 := Lib.hid (HF0.out.trans hf1)
  clear hd1 hf1 hb hmc hml
  go_wp2_with fail
  refine (format_k w1 HD1.out (by decide)).mono ?_
  rw [HFM.out]
  rintro e w3 ⟨hf3, h3⟩
  have h3 := h3.resolve_right (fun h => h.1 rfl)
  obtain ⟨_, fm, hfm, rfl, hs3⟩ := h3
  obtain ⟨sb, hsb⟩ : ∃ sb, w1.heap.size = sb := ⟨_, rfl⟩
  rw [hsb] at hfm hs3 ⊢
  have HM3 : Hid (Mine W w3 sb b ml mc fm T1) := Lib.hid ⟨hs3, HF1.out.andThen hf3 (fun x hx => .inr (by have := HN.out; simp only [List.mem_cons, List.not_mem_nil, or_false] at hx; rcases hx with h | h | h <;> omega)), by have := HN.out; have := HF1.out.size; omega⟩
  clear hfm hs3 hf3 hsb
  by_cases hk5 : 500 < keep.length
  · have hk5I : (500 : Int) < (keep.length : Int) := by omega
    go_wp2_with fail
    go_ret
    exact ⟨rfl, HM3.out.fr⟩
  · have hk5I : ¬ (500 : Int) < (keep.length : Int) := by omega
    go_wp2_with fail
    -- done
    have HSC := Lib.hid ((HS.out.more (S' := [sb, fm, b, ml, mc]) (fun x hx => .inr (by
      have h1 := HM3.out.lo
      simp only [List.mem_cons, List.not_mem_nil, or_false] at hx
      rcases hx with h | h | h | h | h <;> omega))).kept HM3.out.fr.nil)
    refine (done7_k w3 HM3.out.sto HT1.out.1 (by rw [HT1.out.2]; decide) HSC.out).mono ?_
    rintro e w4 ⟨rfl, hr4⟩
    obtain ⟨fm4, hm4⟩ := HM3.out.next hr4
    have HM4 := Lib.hid hm4
    have HL4 : Hid ((doneT T1 cs).Live ∧ (doneT T1 cs).dev.n = 60) := Lib.hid (by
      have h := HT1.out.1.foldT 1000 (cs.take 40) (by omega) (by rw [List.length_take]; omega) (by rw [HT1.out.2]; decide)
      exact ⟨h.1, h.2.2.trans HTN.out⟩)
    have HCL4 : Hid (doneT T1 cs).clean := Lib.hid (StD.clean.fold (cs.take 40) T1 1 HTC.out HT1.out.1 (by rw [HT1.out.2]; decide) (by rw [List.length_take]; omega))
    have HE4 : Hid ((doneT T1 cs).super.epoch ≤ 41) := Lib.hid (by
      have h := (HT1.out.1.foldT 1000 (cs.take 40) (by omega) (by rw [List.length_take]; omega) (by rw [HT1.out.2]; decide)).2.1
      have h2 : (cs.take 40).length ≤ 40 := by rw [List.length_take]; omega
      show ((cs.take 40).foldl stepT T1).super.epoch ≤ 41
      omega)
    obtain ⟨T4, hT4⟩ : ∃ T, doneT T1 cs = T := ⟨_, rfl⟩
    rw [hT4] at HM4 HL4 HCL4 HE4
    clear hr4 hm4 hT4
    go_wp2_with fail
    refine (abort_k w4 HM4.out.sto).mono ?_
    rintro e w5 ⟨rfl, hr5⟩
    obtain ⟨fm5, hm5⟩ := HM4.out.next hr5
    have HM5 := Lib.hid hm5
    have HL5 : Hid T4.abort.Live := Lib.hid (HL4.out.1.step (HL4.out.1.run.toAbort HL4.out.1.calm))
    have HN5 : Hid (T4.abort.dev.n = 60) := Lib.hid HL4.out.2
    have HB5 : Hid (T4.abort.pool = T4.abort.base) := Lib.hid rfl
    have HEP : Hid (T4.abort.super.epoch ≤ 41) := Lib.hid HE4.out
    have HC5 : Hid (T4.abort.clean) := Lib.hid (HCL4.out.step (HL4.out.1.run.toAbort HL4.out.1.calm))
    obtain ⟨T5, hT5⟩ : ∃ T, T4.abort = T := ⟨_, rfl⟩
    rw [hT5] at HM5 HL5 HB5 HN5 HC5 HEP
    clear hr5 hm5 hT5
    go_wp2_with fail
    refine (super_s w5 HM5.out.sto).mono ?_
    rintro e w6 ⟨vs, rfl, ⟨pvs, kvs, dvs, gvs, rfl, his⟩, hf6⟩
    obtain ⟨za, zc, zb, zk, zd, ze, zf, zh, rfl, rfl, rfl, rfl⟩ := his.bare HL5.out.bare
    have HIS : Hid (∀ S' w', PageIn S' w' T5.super (.slice za 0 zc) (.slice zb 0 zk) (.slice zd 0 ze) (.slice zf 0 zh)) := Lib.hid fun S' w' => his.bareAny HL5.out.bare
    have HLT5 := Lib.hid HM5.out.sto.lt
    obtain ⟨W7, hW7⟩ : ∃ W7, w6.alloc (.cells (pageCells T5.super (.slice za 0 zc) (.slice zb 0 zk) (.slice zd 0 ze) (.slice zf 0 zh)).toArray 43) = W7 := ⟨_, rfl⟩
    obtain ⟨u, hu⟩ : ∃ u, w6.heap.size = u := ⟨_, rfl⟩
    have f7 : Fr [] w6 W7 := by rw [← hW7]; exact Fr.alloc1 _ _
    have b7 : W7.heap[u]? = some (.cells (pageCells T5.super (.slice za 0 zc) (.slice zb 0 zk) (.slice zd 0 ze) (.slice zf 0 zh)).toArray 43 (0, 0)) := by rw [← hW7, ← hu]; exact blk_new _ _
    have HM7 := Lib.hid ((HM5.out.kept hf6).kept f7)
    have HB7 := Lib.hid b7
    have HZ7 : Hid (w5.heap.size ≤ u) := Lib.hid (by rw [← hu]; exact hf6.size)
    have HF7 := Lib.hid (hf6.trans f7)
    unfold pageCells at hW7 ⊢
    clear his hf6 f7 b7
    have hks : ¬ (9223372036854775807 < 1 + key.size) := by have := HKM.out.1; omega
    go_wp2_with fail
    clear hW7 hks
    obtain ⟨kk, hkk⟩ : ∃ kk, (⟨#[107]⟩ : ByteArray) ++ key = kk := ⟨_, rfl⟩
    rw [hkk]
    have HKK := Lib.hid hkk
    clear hkk
    refine (law_leaf kk W7).mono ?_
    rintro e w8 ⟨v8, rfl, hp8, hf8⟩
    have HA8 := Lib.hid (HM7.out.kept hf8)
    have HB8 := Lib.hid (hf8.heap HB7.out (by simp))
    have HP8 := Lib.hid (hp8 [sb, fm5, b, ml, mc] (fun x hx => by
      have h := HM7.out.sto.lt
      simp only [List.mem_cons, List.not_mem_nil, or_false] at hx
      rcases hx with h | h | h | h | h <;> omega))
    clear hp8 hf8
    go_wp2_with fail
    refine (lay_s 0 w8 HA8.out.sto HL5.out.run.good HP8.out leaf_small' (by show (0 : Int) ≤ 0; omega) (by show (0 : Int) < 18446744073709551616; omega)).mono ?_
    have hLs := (HL5.out.run.lay HL5.out.calm 0 (leafD kk))
    obtain ⟨⟨n1, e1, E1⟩, hR⟩ : ∃ R, T5.lay 0 (leafD kk) = R := ⟨_, rfl⟩
    rw [hR] at hLs ⊢
    rintro e w9 ⟨rfl, hr9⟩
    have hf9 : Fr [sb, fm5, b, ml, mc] w8 w9 := by obtain ⟨_, _, h, _⟩ := hr9; exact h
    obtain ⟨fm9, h9⟩ := HA8.out.next hr9
    have HA9 := Lib.hid h9
    have HNU : Hid (u ∉ [sb, fm5, b, ml, mc]) := Lib.hid (fun hm => by
      have h := HLT5.out
      have hz := HZ7.out
      simp only [List.mem_cons, List.not_mem_nil, or_false] at hm
      rcases hm with h | h | h | h | h <;> omega)
    have HB9 := Lib.hid (hf9.heap HB8.out HNU.out)
    dsimp only at hLs HA9
    have HLS := Lib.hid hLs
    clear hr9 h9 hR hLs hf9
    by_cases he1 : e1 = 0
    · subst he1
      have HE : Hid (E1.Live ∧ E1.clean ∧ E1.super = T5.super ∧ E1.super.epoch ≤ 41 ∧ E1.dev.n = 60) := Lib.hid ⟨HL5.out.step HLS.out.1, HC5.out.step HLS.out.1, HLS.out.1.super, by rw [HLS.out.1.super]; exact HEP.out, HLS.out.1.n.trans HN5.out⟩
      have HNF := Lib.hid (HLS.out.2 rfl)
      go_wp2_with fail
      refine (fuse_k fuse w9 HA9.out.sto.dev HFU.out.1 HFU.out.2).mono ?_
      rintro e wa ⟨rfl, hda, hfa, _⟩
      have HSA : Hid (StoAt wa sb b ml mc fm9 (E1.on (E1.dev.fused fuse))) := Lib.hid (HA9.out.sto.devIs (hfa.mono (fun x hx _ => by rw [List.mem_singleton.1 hx]; simp)) hda)
      have HNU9 : Hid (u ∉ [sb, fm9, b, ml, mc]) := Lib.hid (fun hm => by
        have h := HNU.out
        have h2 := HA9.out.sto.map.notCells HB9.out
        simp only [List.mem_cons, List.not_mem_nil, or_false, not_or] at hm h
        omega)
      have hfa5 : Fr [sb, fm9, b, ml, mc] w9 wa := hfa.mono (fun x hx _ => by rw [List.mem_singleton.1 hx]; simp)
      have HBA := Lib.hid (hfa5.heap HB9.out HNU9.out)
      have HFA : Hid (Fr [] W wa) := Lib.hid (HA9.out.fr.andThen hfa5 (fun x hx => .inr (by
        have h1 := HA9.out.lo
        simp only [List.mem_cons, List.not_mem_nil, or_false] at hx
        rcases hx with h | h | h | h | h <;> omega)))
      clear hda hfa hfa5
      go_wp2_with fail
      refine (commit_k n1 1 1 wa HSA.out (HE.out.1.run.good.on rfl) (by show 0 ≤ E1.super.epoch; have := HE.out.1.holds.ep; omega) (by show E1.super.epoch < _; have := HE.out.2.2.2.1; omega) (by show E1.lists.length ≤ _; have := HE.out.1.len; omega)).mono ?_
      have hcut := HE.out.1.cut HE.out.2.1 (by have := HE.out.2.2.2.1; omega) n1 1 1 fuse
      obtain ⟨⟨f2, T7⟩, hR⟩ : ∃ R, (E1.on (E1.dev.fused fuse)).commit n1 1 1 = R := ⟨_, rfl⟩
      rw [hR] at hcut ⊢
      dsimp only at hcut ⊢
      rintro e wb ⟨rfl, fmb, hsb, hfb, _, _⟩
      have HDB := Lib.hid hsb.dev
      have HBB := Lib.hid (hfb.heap HBA.out HNU9.out)
      have HFB : Hid (Fr [] W wb) := Lib.hid (HFA.out.andThen hfb (fun x hx => .inr (by
        have h1 := HA9.out.lo
        simp only [List.mem_cons, List.not_mem_nil, or_false] at hx
        rcases hx with h | h | h | h | h <;> omega)))
      have HCUT := Lib.hid hcut
      clear hsb hfb hcut hR
      have HKB : Hid (Ints [b, ml, mc] wb (.slice ka keep.length kc) keep) := Lib.hid (by
        have h1 := HA9.out.lo
        have h2 : Ints [b, ml, mc] W (.slice ka keep.length kc) keep := Slc.more HKP.out (fun x hx => .inr (by
          simp only [List.mem_cons, List.not_mem_nil, or_false] at hx
          rcases hx with h | h | h <;> omega))
        exact Slc.kept h2 HFB.out.nil)
      go_wp2_with fail
      refine (restart_k torn cut wb HDB.out HKB.out HKM.out.2).mono ?_
      rintro e wc ⟨rfl, hdc, hfc⟩
      have HDC := Lib.hid hdc
      have HBC := Lib.hid (hfc.heap HBB.out (fun hm => HNU9.out (by
        simp only [List.mem_cons, List.not_mem_nil, or_false] at hm ⊢
        rcases hm with h | h | h <;> simp [h])))
      have HFC : Hid (Fr [] W wc) := Lib.hid (HFB.out.andThen hfc (fun x hx => .inr (by
        have h1 := HA9.out.lo
        simp only [List.mem_cons, List.not_mem_nil, or_false] at hx
        rcases hx with h | h | h <;> omega)))
      clear hdc hfc
      obtain ⟨T6, hop, hfl, hbare, hdev, hcase⟩ := HCUT.out.opens HE.out.1 HE.out.2.1 keep torn cut HDC.out.fine
      obtain ⟨D6, hD6⟩ : ∃ D6, restartD T7.dev keep torn cut = D6 := ⟨_, rfl⟩
      have HCM : Hid (D6.calm) := Lib.hid (by rw [← hD6]; exact ⟨(restart_n _ _ _ _).2.1, (restart_n _ _ _ _).2.2.1, HDC.out.fine⟩)
      have HDN : Hid (D6.n = E1.dev.n) := Lib.hid (by rw [← hD6]; exact (restart_n _ _ _ _).1.trans HCUT.out.n)
      rw [hD6] at hop hfl hdev HDC
      have HFI := Lib.hid hcase
      have HBR := Lib.hid hbare
      have HDV := Lib.hid hdev
      clear hD6 hcase hbare hdev HCUT
      go_wp2_with fail
      refine (open_k wc HDC.out hfl).mono ?_
      rw [hop]
      rintro e wd ⟨hfd, h2⟩
      have h2 := h2.resolve_left (fun h => by cases h.1)
      obtain ⟨T6', sb6, fm6, hT6, _, _, rfl, hs6⟩ := h2
      cases hT6
      have hdd : Fr [] wd wd.drew := (Fr.refl [] wd).drew
      have hfd' := hfd.trans hdd
      have HS6 := Lib.hid (hs6.kept hdd)
      have HF6 := Lib.hid (HFC.out.trans hfd')
      have HU2 := Lib.hid (hfd'.heap HBC.out (by simp))
      have HKC : Hid (∀ w' : World, w'.heap[u]? = some (.cells (pageCells T5.super (.slice za 0 zc) (.slice zb 0 zk) (.slice zd 0 ze) (.slice zf 0 zh)).toArray 43 (0, 0)) → (fun w' : World => w'.cell? ⟨u, 0, none⟩ = some (.int .i64 T5.super.kind) ∧ w'.cell? ⟨u, 1, none⟩ = some (.slice za 0 zc) ∧ w'.cell? ⟨u, 2, none⟩ = some (.slice zb 0 zk) ∧ w'.cell? ⟨u, 3, none⟩ = some (.slice zd 0 ze) ∧ w'.cell? ⟨u, 4, none⟩ = some (.slice zf 0 zh) ∧ w'.cell? ⟨u, 5, none⟩ = some (.int .i64 T5.super.next) ∧ w'.cell? ⟨u, 6, none⟩ = some (.int .u64 T5.super.epoch) ∧ w'.cell? ⟨u, 7, none⟩ = some (.int .i64 T5.super.root) ∧ w'.cell? ⟨u, 8, none⟩ = some (.int .i64 T5.super.depth) ∧ w'.cell? ⟨u, 9, none⟩ = some (.int .i64 T5.super.count) ∧ w'.cell? ⟨u, 10, none⟩ = some (.int .i64 T5.super.high)) w') := Lib.hid fun w' h => ⟨blk_cell h 0, blk_cell h 1, blk_cell h 2, blk_cell h 3, blk_cell h 4, blk_cell h 5, blk_cell h 6, blk_cell h 7, blk_cell h 8, blk_cell h 9, blk_cell h 10⟩
      have HK2 := Lib.hid (HKC.out _ HU2.out)
      clear hfd hdd hfd' hs6 hop hfl
      obtain ⟨ob, hob⟩ : ∃ ob, eqSuper T6.super T5.super = ob := ⟨_, rfl⟩
      have HOB := Lib.hid hob
      clear hob
      go_upto_region 20 with fail
      go_region_held3 (fun w' : World => w'.cell? ⟨u, 0, none⟩ = some (.int .i64 T5.super.kind) ∧ w'.cell? ⟨u, 1, none⟩ = some (.slice za 0 zc) ∧ w'.cell? ⟨u, 2, none⟩ = some (.slice zb 0 zk) ∧ w'.cell? ⟨u, 3, none⟩ = some (.slice zd 0 ze) ∧ w'.cell? ⟨u, 4, none⟩ = some (.slice zf 0 zh) ∧ w'.cell? ⟨u, 5, none⟩ = some (.int .i64 T5.super.next) ∧ w'.cell? ⟨u, 6, none⟩ = some (.int .u64 T5.super.epoch) ∧ w'.cell? ⟨u, 7, none⟩ = some (.int .i64 T5.super.root) ∧ w'.cell? ⟨u, 8, none⟩ = some (.int .i64 T5.super.depth) ∧ w'.cell? ⟨u, 9, none⟩ = some (.int .i64 T5.super.count) ∧ w'.cell? ⟨u, 10, none⟩ = some (.int .i64 T5.super.high))
        (first | with_reducible exact HK2.out | with_reducible exact HK3.out | with_reducible exact HK4.out)
        (first
        | (go_at_call 19
           refine (super_s wd.drew HS6.out).mono ?_
           intro e w3 h3
           obtain ⟨v3, rfl, hp3, hf3⟩ := h3
           have HP3 := Lib.hid hp3
           have HF3 := Lib.hid hf3
           have HU3 := Lib.hid (hf3.heap HU2.out (by simp))
           have HK3 := Lib.hid (HKC.out _ HU3.out)
           clear hp3 hf3)
        | (go_at_call 23
           refine (same5_k (S' := []) (b := ob) w3 HP3.out ⟨_, _, _, _, rfl, HIS.out [] w3⟩ HBR.out HL5.out.bare HOB.out).mono ?_
           intro e w4 h4
           obtain ⟨rfl, hf4⟩ := h4
           have HF4 := Lib.hid (HF3.out.trans hf4)
           have HU4 := Lib.hid (hf4.heap HU3.out (by simp))
           have HK4 := Lib.hid (HKC.out _ HU4.out)
           clear hf4))
      have hd4 : Fr [] w4 w4.drew := (Fr.refl [] w4).drew
      have hf4 := HF4.out.trans hd4
      have HS7 := Lib.hid (HS6.out.kept hf4)
      have HU7 := Lib.hid (hd4.heap HU4.out (by simp))
      have HF7 := Lib.hid (HF6.out.trans hf4)
      have HQ7 := Lib.hid (HKC.out _ HU7.out).2.2.2.2.2.2.1
      clear hd4 hf4
      have hep0 : 0 ≤ T5.super.epoch := by have := HL5.out.holds.ep; omega
      have hep1 : T5.super.epoch ≤ 41 := HEP.out
      have hw64 : IntKind.u64.wrap (T5.super.epoch + 1) = T5.super.epoch + 1 := by simp [IntKind.wrap, IntKind.bits, IntKind.signed]; omega
      have hne1 : (T5.super.epoch == T5.super.epoch + 1) = false := by simp only [beq_eq_false_iff_ne, ne_eq]; omega
      go_upto_region 21 with fail
      rcases HFI.out with ⟨hold, hf2⟩ | ⟨T2, htold, hnew, hbytes⟩
      · have hq : T6.super.epoch = T5.super.epoch := by rw [hold, HE.out.2.2.1]
        have HOT : Hid (ob = true) := Lib.hid (by rw [← HOB.out, hold, HE.out.2.2.1]; exact eqSuper_refl _)
        clear hold
        refine wp_region_held_drew (S := (fun w' : World => w'.cell? ⟨u, 6, none⟩ = some (.int .u64 T5.super.epoch))) (by kernel_rfl) HQ7.out (fun hHeld => ?_)
        refine wpAnyH_do (i := 0) (d := some 92) (.pointer (some ⟨sb6, 0, none⟩)) (by kernel_rfl) (by kernel_rfl) (by kernel_rfl) (by kernel_rfl) (by kernel_rfl) (fun _ _ _ h => h) ?_ (by assumption) ?_
        · intro w o hSw ho
          simp only [List.getElem?_toArray, List.getElem?_cons_zero, Option.some.injEq] at ho
          subst ho
          (try dsimp only at hSw)
          go_simp
        try simp only [Act.put, List.setIfInBounds_toArray, List.set_cons_zero, List.set_cons_succ]
        refine wpAnyH_do (i := 3) (d := some 95) (.pointer (some ⟨u, 6, none⟩)) (by kernel_rfl) (by kernel_rfl) (by kernel_rfl) (by kernel_rfl) (by kernel_rfl) (fun _ _ _ h => h) ?_ (by assumption) ?_
        · intro w o hSw ho
          simp only [List.getElem?_toArray, List.getElem?_cons_succ, List.getElem?_cons_zero, Option.some.injEq] at ho
          subst ho
          (try dsimp only at hSw)
          go_simp
        try simp only [Act.put, List.setIfInBounds_toArray, List.set_cons_zero, List.set_cons_succ]
        refine wpAnyH_do (i := 4) (d := some 96) (.int .u64 T5.super.epoch) (by kernel_rfl) (by kernel_rfl) (by kernel_rfl) (by kernel_rfl) (by kernel_rfl) (fun _ _ _ h => h) ?_ (by assumption) ?_
        · intro w o hSw ho
          simp only [List.getElem?_toArray, List.getElem?_cons_succ, List.getElem?_cons_zero, Option.some.injEq] at ho
          subst ho
          (try dsimp only at hSw)
          go_simp
        try simp only [Act.put, List.setIfInBounds_toArray, List.set_cons_zero, List.set_cons_succ]
        refine wpAnyH_do (i := 5) (d := some 97) (.int .u64 (T5.super.epoch + 1)) (by kernel_rfl) (by kernel_rfl) (by kernel_rfl) (by kernel_rfl) (by kernel_rfl) (fun _ _ _ h => h) ?_ (by assumption) ?_
        · intro w o hSw ho
          simp only [List.getElem?_toArray, List.getElem?_cons_succ, List.getElem?_cons_zero, Option.some.injEq] at ho
          subst ho
          (try dsimp only at hSw)
          go_simp
        try simp only [Act.put, List.setIfInBounds_toArray, List.set_cons_zero, List.set_cons_succ]
        refine wpAnyH_ready (rs := [1]) (by kernel_rfl) (by simp) ?_
        refine AllReadyH.cons (o := { dst := some 93, op := Op.call { callee := Callee.value (Operand.func 19), args := #[Operand.tmp 92], argTypes := #[28] }, type := 43, pos := "law.go:240", after := #[{ on := 0, ground := Ground.data }], guard := none }) rfl (fun K hK => ?_) AllReadyH.nil
        go_simp
        go_at_call 19
        refine (super_s w4.drew HS7.out).mono ?_
        intro e w8' h8
        obtain ⟨v8', rfl, ⟨xp, xk, xd, xg, rfl, _⟩, hf8⟩ := h8
        unfold pageCells
        rw [hq]
        have HF8 := Lib.hid hf8
        have HU8 := Lib.hid (hf8.heap HU7.out (by simp))
        have HQ8 := Lib.hid (HKC.out _ HU8.out).2.2.2.2.2.2.1
        clear hf8
        go_wp2_with fail
        refine hK.out _ _ HQ8.out (fun hHeld => ?_)
        clear hK
        try simp only [Act.put, List.setIfInBounds_toArray, List.set_cons_zero, List.set_cons_succ]
        refine wpAnyH_do (i := 2) (d := some 94) (.int .u64 T5.super.epoch) (by kernel_rfl) (by kernel_rfl) (by kernel_rfl) (by kernel_rfl) (by kernel_rfl) (fun _ _ _ h => h) ?_ (by assumption) ?_
        · intro w o hSw ho
          simp only [List.getElem?_toArray, List.getElem?_cons_succ, List.getElem?_cons_zero, Option.some.injEq] at ho
          subst ho
          (try dsimp only at hSw)
          go_simp
        try simp only [Act.put, List.setIfInBounds_toArray, List.set_cons_zero, List.set_cons_succ]
        refine wpAnyH_do (i := 6) (d := some 98) (.bool false) (by kernel_rfl) (by kernel_rfl) (by kernel_rfl) (by kernel_rfl) (by kernel_rfl) (fun _ _ _ h => h) ?_ (by assumption) ?_
        · intro w o hSw ho
          simp only [List.getElem?_toArray, List.getElem?_cons_succ, List.getElem?_cons_zero, Option.some.injEq] at ho
          subst ho
          (try dsimp only at hSw)
          go_simp
        try simp only [Act.put, List.setIfInBounds_toArray, List.set_cons_zero, List.set_cons_succ]
        refine wpAnyH_do (i := 7) (d := some 99) (.bool false) (by kernel_rfl) (by kernel_rfl) (by kernel_rfl) (by kernel_rfl) (by kernel_rfl) (fun _ _ _ h => h) ?_ (by assumption) ?_
        · intro w o hSw ho
          simp only [List.getElem?_toArray, List.getElem?_cons_succ, List.getElem?_cons_zero, Option.some.injEq] at ho
          subst ho
          (try dsimp only at hSw)
          go_simp
        try simp only [Act.put, List.setIfInBounds_toArray, List.set_cons_zero, List.set_cons_succ]
        refine wpAnyH_skip (i := 8) (d := some 100) (by kernel_rfl) (by kernel_rfl) (by kernel_rfl) (by kernel_rfl) (by kernel_rfl) (fun _ _ _ h => h) (by assumption) ?_
        try simp only [Act.put, List.setIfInBounds_toArray, List.set_cons_zero, List.set_cons_succ]
        refine wpAnyH_skip (i := 9) (d := some 101) (by kernel_rfl) (by kernel_rfl) (by kernel_rfl) (by kernel_rfl) (by kernel_rfl) (fun _ _ _ h => h) (by assumption) ?_
        try simp only [Act.put, List.setIfInBounds_toArray, List.set_cons_zero, List.set_cons_succ]
        refine wpAnyH_skip (i := 10) (d := some 102) (by kernel_rfl) (by kernel_rfl) (by kernel_rfl) (by kernel_rfl) (by kernel_rfl) (fun _ _ _ h => h) (by assumption) ?_
        try simp only [Act.put, List.setIfInBounds_toArray, List.set_cons_zero, List.set_cons_succ]
        refine wpAnyH_skip (i := 11) (d := some 103) (by kernel_rfl) (by kernel_rfl) (by kernel_rfl) (by kernel_rfl) (by kernel_rfl) (fun _ _ _ h => h) (by assumption) ?_
        try simp only [Act.put, List.setIfInBounds_toArray, List.set_cons_zero, List.set_cons_succ]
        refine wpAnyH_skip (i := 12) (d := some 104) (by kernel_rfl) (by kernel_rfl) (by kernel_rfl) (by kernel_rfl) (by kernel_rfl) (fun _ _ _ h => h) (by assumption) ?_
        try simp only [Act.put, List.setIfInBounds_toArray, List.set_cons_zero, List.set_cons_succ]
        refine wpAnyH_do (i := 13) (d := some 105) (.bool false) (by kernel_rfl) (by kernel_rfl) (by kernel_rfl) (by kernel_rfl) (by kernel_rfl) (fun _ _ _ h => h) ?_ (by assumption) ?_
        · intro w o hSw ho
          simp only [List.getElem?_toArray, List.getElem?_cons_succ, List.getElem?_cons_zero, Option.some.injEq] at ho
          subst ho
          (try dsimp only at hSw)
          go_simp
        try simp only [Act.put, List.setIfInBounds_toArray, List.set_cons_zero, List.set_cons_succ]
        refine wpAnyH_do (i := 14) (d := some 25) (.bool false) (by kernel_rfl) (by kernel_rfl) (by kernel_rfl) (by kernel_rfl) (by kernel_rfl) (fun _ _ _ h => h) ?_ (by assumption) ?_
        · intro w o hSw ho
          simp only [List.getElem?_toArray, List.getElem?_cons_succ, List.getElem?_cons_zero, Option.some.injEq] at ho
          subst ho
          (try dsimp only at hSw)
          go_simp
        try simp only [Act.put, List.setIfInBounds_toArray, List.set_cons_zero, List.set_cons_succ]
        refine wpAnyH_done (by kernel_rfl) ?_ _
        obtain rfl := HOT.out
        have hf2' : (f2 != 0) = true := by simpa using hf2
        go_wp2_with fail
        go_ret
        exact ⟨rfl, HF7.out.trans HF8.out⟩
      · have hq : T6.super.epoch = T5.super.epoch + 1 := by rw [hnew, htold.super, ← HE.out.2.2.1]; rfl
        have hq2 : T6.super.root = n1 := by rw [hnew, htold.super]; rfl
        have HPN : Hid (2 ≤ n1 ∧ T6.page n1 = (leafD kk, 0)) := Lib.hid (by
          have hn := HNF.out
          have hn2 : 2 ≤ n1 := hn.1.1
          refine ⟨hn2, ?_⟩
          have hhi := HE.out.1.run.good.pool.hi
          have hnn : D6.n = E1.dev.n := by
            exact HDN.out
          show pageD T6.dev n1 = _
          rw [HDV.out]
          refine page_read HCM.out (by omega) (by rw [hnn]; have := hn.2.2.1; omega) ?_ (by show (1 : Int) ≠ 4; decide)
          rw [← HDV.out, hbytes n1, htold.bytes n1 hn2 (.inr hn.2.1), hn.2.2.2.1]
          exact dec_leaf hn.2.2.2.2)
        go_region_held3 (fun w' : World => w'.cell? ⟨u, 6, none⟩ = some (.int .u64 T5.super.epoch))
          (first | with_reducible exact HQ7.out | with_reducible exact HQ8.out | with_reducible exact HQ9.out)
          (first
          | (go_at_call 19
             refine (super_s w4.drew HS7.out).mono ?_
             intro e w8' h8
             obtain ⟨v8', rfl, ⟨xp, xk, xd, xg, rfl, _⟩, hf8⟩ := h8
             unfold pageCells
             rw [hq, hq2]
             have HF8 := Lib.hid hf8
             have HS8 := Lib.hid (HS7.out.kept hf8)
             have HU8 := Lib.hid (hf8.heap HU7.out (by simp))
             have HQ8 := Lib.hid (HKC.out _ HU8.out).2.2.2.2.2.2.1
             clear hf8)
          | (go_at_call 19
             refine (super_s w8' HS8.out).mono ?_
             intro e w9' h9
             obtain ⟨v9', rfl, ⟨yp, yk, yd, yg, rfl, _⟩, hf9⟩ := h9
             unfold pageCells
             rw [hq, hq2]
             have HF9 := Lib.hid (HF8.out.trans hf9)
             have HQ9 := Lib.hid (HKC.out _ (hf9.heap HU8.out (by simp))).2.2.2.2.2.2.1
             clear hf9))
        have HS9 := Lib.hid (HS7.out.kept HF9.out)
        have HFX := Lib.hid (HF7.out.trans HF9.out)
        go_wp2_with fail
        refine (page_s n1 w9' HS9.out).mono ?_
        rw [HPN.out.2]
        rintro e wa ⟨pva, kva, dva, gva, rfl, hia, hfa⟩
        have e1 : Slc [] wa pva 1 [.string kk, .string ⟨#[49]⟩] := (hia [] (by simp)).pairs
        have e2 : Slc [] wa kva 0 [] := (hia [] (by simp)).keys
        have e3 : Slc [] wa dva 0 [] := (hia [] (by simp)).kids
        have e4 : Slc [] wa gva 0 [] := (hia [] (by simp)).pages
        obtain ⟨ka2, kc2, rfl, _⟩ := e2.form
        obtain ⟨da, dc, rfl, _⟩ := e3.form
        obtain ⟨ga, gc, rfl, _⟩ := e4.form
        obtain ⟨Bp, o, pc, rfl, hpc, cB⟩ : ∃ B o pc, pva = .slice (some ⟨B, o, none⟩) 1 pc ∧ 1 ≤ pc ∧ wa.cell? ⟨B, o, none⟩ = some (.string kk) := by
          rcases e1 with ⟨_, _, _, h, _⟩ | ⟨B, o, c, h, hc, _, hcs⟩
          · cases h
          · exact ⟨B, o, c, h, hc, hcs 0 _ rfl⟩
        have HFA2 := Lib.hid (HFX.out.trans hfa)
        clear hia hfa e1 e2 e3 e4
        unfold pageCells leafD pgLeaf
        dsimp only
        have HB : Hid (∀ wb', wa.alloc (.cells #[.int .i64 1, .slice (some ⟨Bp, o, none⟩) 1 pc, .slice ka2 0 kc2, .slice da 0 dc, .slice ga 0 gc, .int .i64 0, .int .u64 0, .int .i64 0, .int .i64 0, .int .i64 0, .int .i64 0] 43) = wb' → Fr [] wa wb' ∧ wb'.cell? ⟨wa.heap.size, 1, none⟩ = some (.slice (some ⟨Bp, o, none⟩) 1 pc) ∧ wb'.cell? ⟨Bp, o, none⟩ = some (.string kk)) := Lib.hid fun wb' hwb => by
          have hfb : Fr [] wa wb' := by rw [← hwb]; exact Fr.alloc1 _ _
          have hbb : wb'.heap[wa.heap.size]? = some (.cells #[.int .i64 1, .slice (some ⟨Bp, o, none⟩) 1 pc, .slice ka2 0 kc2, .slice da 0 dc, .slice ga 0 gc, .int .i64 0, .int .u64 0, .int .i64 0, .int .i64 0, .int .i64 0, .int .i64 0] 43 (0, 0)) := by rw [← hwb]; exact blk_new _ _
          exact ⟨hfb, by rw [blk_cell hbb 1]; rfl, hfb.cellSome cB (by simp)⟩
        clear cB
        go_upto_region 24 with fail
        obtain ⟨wb', hwb⟩ : ∃ wb', wa.alloc (.cells #[.int .i64 1, .slice (some ⟨Bp, o, none⟩) 1 pc, .slice ka2 0 kc2, .slice da 0 dc, .slice ga 0 gc, .int .i64 0, .int .u64 0, .int .i64 0, .int .i64 0, .int .i64 0, .int .i64 0] 43) = wb' := ⟨_, rfl⟩
        obtain ⟨hfb, cP, cB⟩ := HB.out wb' hwb
        rw [hwb]
        have HFB2 := Lib.hid (HFA2.out.trans hfb)
        have hkk' := HKK.out
        have hks : ¬ (9223372036854775807 < 1 + key.size) := by have := HKM.out.1; omega
        clear hfb HB hwb
        go_wp2_with fail
        go_ret
        exact ⟨rfl, HFB2.out⟩
    · have he1' : (e1 == 0) = false := by simpa using he1
      have he1'' : (e1 != 0) = true := by simpa using he1
      go_wp2_with fail
      go_ret
      exact ⟨rfl, HA9.out.fr⟩
end Go.Proofs.Ytgpeoonpoogniaa

