/- DeviceLasts, walked. -/
import Derived.Test.YtgockpichhgijaaPLas4
import Derived.Test.YtgockpichhgijaaAwk4
import Derived.StillTailTactics
namespace Go.Proofs.Ytgockpichhgijaa
open Go.RowKit Go.MapKept

theorem lasting_lasts {D E : Dv} (h1 : E.last = D.last) (h2 : E.n = D.n) : lastingL E = lastingL D := by unfold lastingL; rw [h1, h2]
theorem one_int (w : World) (x : Int) (ty : TypeId) : Slc [] (w.alloc (.cells #[.int .i64 x] ty)) (.slice (some ⟨w.heap.size, 0, none⟩) 1 1) 1 [.int .i64 x] :=
  Slc.ofBlock (blk_new w _) (by simp) 1 1 (Nat.le_refl _)
theorem Try.info3 : (Try.prog.info? 3).map (fun i => (i.zero, i.size, i.bytes)) = some (some (.int .i64 0), 1, 8) := by kernel_rfl

set_option maxRecDepth 100000 in
set_option maxHeartbeats 4000000 in
theorem DeviceLasts_walk (W : World) {v0 : Value} {c0 : List CallD} (b0 : Scr [] W v0 c0) (_m0 : c0.length ≤ maxLen) {v1 : Value} {c1 : List CallD} (b1 : Scr [] W v1 c1) (_m1 : c1.length ≤ maxLen) {v2 : Value} {l2 : List Int} (b2 : Ints [] W v2 l2) (_m2 : l2.length ≤ maxLen)
    (a3 : Int) (_w3 : (Lit.int .i64 a3).wf = true) (a4 : Int) (_w4 : (Lit.int .i64 a4).wf = true) :
    Calls Try.prog 8 #[v0, v1, v2, .int .i64 a3, .int .i64 a4] W fun e w' => e = .returned (.bool true) ∧ Fr [] W w' := by
  obtain ⟨p0, q0, rfl⟩ := b0.form
  obtain ⟨p1, q1, rfl⟩ := b1.form
  obtain ⟨p2, q2, rfl, _⟩ := Slc.form b2
  have B0 := Lib.hid b0
  have B1 := Lib.hid b1
  have B2 := Lib.hid b2
  clear b0 b1 b2 _m0 _m1 _m2 _w3 _w4
  go_enter Try.func8, Try.ntmps8
  go_wp2_with fail
  refine (awake_k _).mono ?_
  rintro e w1 ⟨rfl, hf1⟩
  have HF1 := Lib.hid hf1
  clear hf1
  by_cases hk : 500 < l2.length
  · have hkI : 500 < (l2.length : Int) := by omega
    go_wp2
    go_ret
    exact ⟨rfl, HF1.out⟩
  have hkI : ¬ 500 < (l2.length : Int) := by omega
  go_wp2_with fail
  refine (new_k 8 _ (by omega) (by omega)).mono ?_
  rintro e w2 ⟨rfl, hd2, hf2⟩
  obtain ⟨b, hb⟩ : ∃ b, w1.heap.size + 2 = b := ⟨_, rfl⟩
  obtain ⟨mc, hmc⟩ : ∃ mc, w1.heap.size + 1 = mc := ⟨_, rfl⟩
  obtain ⟨ml, hml⟩ : ∃ ml, w1.heap.size = ml := ⟨_, rfl⟩
  rw [hb, hmc, hml] at hd2
  rw [hb]
  have HN : Hid (W.heap.size ≤ b ∧ W.heap.size ≤ ml ∧ W.heap.size ≤ mc) := by have := HF1.out.size; exact ⟨by omega, by omega, by omega⟩
  have HD2 := Lib.hid hd2
  have HF2 := Lib.hid (HF1.out.trans hf2)
  clear hd2 hf2 hb hmc hml
  have HS : Hid (∀ {w w' : World} {S : List Nat}, Fr [] W w → Fr S w w' → (∀ x, x ∈ S → x ∈ [b, ml, mc]) → Fr [] W w') := fun h h' hs => h.andThen h' (fun x hx => .inr (by have h1 := hs x hx; have := HN.out; simp only [List.mem_cons, List.not_mem_nil, or_false] at h1; omega))
  have HM : Hid (∀ x, x ∈ [b, ml, mc] → W.heap.size ≤ x) := by have := HN.out; intro x hx; simp only [List.mem_cons, List.not_mem_nil, or_false] at hx; omega
  have HSC : Hid (∀ {w' : World} {v : Value} {cs : List CallD}, Scr [] W v cs → Fr [] W w' → Scr [b, ml, mc] w' v cs) := fun h hf => (h.more HM.out).kept hf.nil
  have HIN : Hid (∀ {w' : World} {v : Value} {l : List Int}, Ints [] W v l → Fr [] W w' → Ints [b, ml, mc] w' v l) := fun h hf => Slc.kept (h.more (fun x hx => .inr (HM.out x hx))) hf.nil
  go_wp2_with fail
  refine (done_k _ HD2.out (HSC.out B0.out HF2.out)).mono ?_
  rintro e w3 ⟨rfl, hd3, hf3⟩
  generalize doneD (Dv.new 8) c0 = D1 at hd3
  have HD3 := Lib.hid hd3
  have HF3 := Lib.hid (HS.out HF2.out hf3 (by simp))
  clear hd3 hf3
  go_wp2_with fail
  refine (restart_k (keep := []) (-1) 0 _ HD3.out (Slc.nil _ _) (by simp)).mono ?_
  rintro e w4 ⟨rfl, hd4, hf4⟩
  have hcalm : Calm (restartD D1 [] (-1) 0) := Calm.wake _
  generalize restartD D1 [] (-1) 0 = D2 at hd4 hcalm
  have HC2 := Lib.hid hcalm
  have HD4 := Lib.hid hd4
  have HF4 := Lib.hid (HS.out HF3.out hf4 (by simp))
  clear hd4 hf4 hcalm
  go_wp2_with fail
  refine (lasting_k _ HD4.out).mono ?_
  rintro e w5 ⟨v5, rfl, hk5, hf5⟩
  have HK5 := Lib.hid (hk5 [b, ml, mc] (by have := HD4.out.lt; intro x hx; simp only [List.mem_cons, List.not_mem_nil, or_false] at hx; omega))
  have HD5 := Lib.hid (HD4.out.kept hf5)
  have HF5 := Lib.hid (HF4.out.trans hf5)
  clear hk5 hf5 HD2 HD3 HD4 HF1 HF2 HF3 HF4
  have HB1 := Lib.hid (HSC.out B1.out HF5.out)
  go_wp2_with fail
  go_loopw [15] (fun i wr => ∃ k : Nat, k ≤ c1.length ∧ k ≤ 50 ∧ i = .int .i64 k ∧ DevAt wr b ml mc ((c1.take k).foldl moreD D2) ∧ Fr [b, ml, mc] w5 wr) (fun i _ => c1.length - (intOf i).toNat)
  case atStart => exact ⟨0, by omega, by omega, rfl, HD5.out, Fr.refl _ _⟩
  case round =>
    obtain ⟨k, hkl, hk50, rfl, hd, hfr⟩ := hrel
    have HFR := Lib.hid hfr
    clear hfr
    by_cases hlt : k < c1.length ∧ k < 50
    · obtain ⟨hlt, hlt5⟩ := hlt
      have hst := moreD_step (D := D2) hlt
      rcases HB1.out with ⟨_, _, _, rfl⟩ | ⟨B, off, cap', hv, hall⟩
      · simp at hlt
      · obtain ⟨rfl, _, rfl⟩ : p1 = some ⟨B, off, none⟩ ∧ True ∧ q1 = cap' := by simp only [Value.slice.injEq] at hv; exact ⟨hv.1, trivial, hv.2.2⟩
        have hca := (hall k c1[k] (List.getElem?_eq_getElem hlt)).kept HFR.out
        obtain ⟨E, hE⟩ : ∃ E, (c1.take k).foldl moreD D2 = E := ⟨_, rfl⟩
        rw [hE] at hd hst
        generalize c1[k] = c at *
        have g0 := hca.cells 0 _ rfl
        have g1 := hca.cells 1 _ rfl
        have g2 := hca.cells 2 _ rfl
        simp only [Nat.add_zero] at g0
        have HD := Lib.hid hd
        have HCA := Lib.hid hca
        have HST := Lib.hid hst
        clear hall hv hca hst hE hd
        have hkI2 : (k : Int) < (c1.length : Int) := by omega
        have hk5 : (k : Int) < 50 := by omega
        by_cases h2 : c.kind = 2
        · by_cases hl : c.b.length ≤ 1024
          · have HS1 : Hid (moreD E c = writeD E c.n c.b) := Lib.hid (by unfold moreD; rw [if_pos ⟨h2, hl⟩])
            rw [HS1.out] at HST
            have hlI : (c.b.length : Int) ≤ 1024 := by omega
            rw [h2] at g0
            clear h2
            have HDq := Lib.hid HD.out.drew
            have HBq := Lib.hid (HCA.out.bytes.kept (Fr.refl [b, ml, mc] wr).drew)
            go_wp2_with fail
            refine wp_region_still_tail 11 (by kernel_rfl) (by kernel_rfl) ?_
            simp only [List.take_succ_cons, List.take_zero, List.drop_succ_cons, List.drop_zero]
            repeat still_step
            refine wpStill_nil ?_
            go_wp2_with fail
            refine (write_k (b := b) (ml := ml) (mc := mc) c.n _ HDq.out HBq.out).mono ?_
            rintro e w2 ⟨rfl, hd2, hf2⟩
            have HD2 := Lib.hid hd2
            have HF2 := Lib.hid (HFR.out.trans (hf2.ofDrew.mono (by simp)))
            clear hd2 hf2
            go_wp2
            go_roundw
            case rel => exact ⟨k + 1, by omega, by omega, by go_num, by rw [HST.out]; exact HD2.out, HF2.out⟩
            case measure => simp [intOf]; omega
          · have HS1 : Hid (moreD E c = E) := Lib.hid (by unfold moreD; rw [if_neg (fun h => hl h.2)])
            rw [HS1.out] at HST
            have hlI : ¬ (c.b.length : Int) ≤ 1024 := by omega
            rw [h2] at g0
            clear h2
            go_wp2
            go_roundw
            case rel => exact ⟨k + 1, by omega, by omega, by go_num, by rw [HST.out]; exact HD.out, HFR.out⟩
            case measure => simp [intOf]; omega
        · have HS1 : Hid (moreD E c = E) := Lib.hid (by unfold moreD; rw [if_neg (fun h => h2 h.1)])
          rw [HS1.out] at HST
          go_wp2
          go_roundw
          case rel => exact ⟨k + 1, by omega, by omega, by go_num, by rw [HST.out]; exact HD.out, HFR.out⟩
          case measure => simp [intOf]; omega
    · have HE : Hid ((c1.take 50).foldl moreD D2 = (c1.take k).foldl moreD D2) := Lib.hid (by
        rcases Nat.lt_or_ge k 50 with h | h
        · rw [List.take_of_length_le (show c1.length ≤ k by omega), List.take_of_length_le (by omega)]
        · rw [show k = 50 by omega])
      have hend : ¬ (k : Int) < (c1.length : Int) ∨ ((k : Int) < (c1.length : Int) ∧ ¬ (k : Int) < 50) := by omega
      have hm := HC2.out.mores (c1.take k)
      generalize (c1.take k).foldl moreD D2 = D3 at hd hm
      have HM3 := Lib.hid hm
      have HD3 := Lib.hid hd
      have HF6 := Lib.hid (HS.out HF5.out HFR.out (by simp))
      have HK6 := Lib.hid (HK5.out.kept HFR.out)
      clear hd hm hlt HD5 HK5 HF5 HB1 HFR B0 B1
      have HD3' := Lib.hid (And.intro HE.out HE.out)
      clear HD3' HE
      rcases hend with he | ⟨he, he'⟩
      all_goals
        go_wp2_with fail
        refine (cached_k _ HD3.out).mono ?_
        rintro e w7 ⟨v7, rfl, hk7, hf7⟩
        have hkt7 := hk7 [b, ml, mc] (by have := HD3.out.lt; intro x hx; simp only [List.mem_cons, List.not_mem_nil, or_false] at hx; omega)
        obtain ⟨p7, q7, rfl, _⟩ := hkt7.form
        obtain ⟨D4, hD4, hq4, hc4, hl4, hr4⟩ := lasts_plain HD3.out.fine a3 a4 l2
        obtain ⟨L, hL⟩ : ∃ L, cachedL D3 = L := ⟨_, rfl⟩
        have hll : L.length ≤ 4096 := by rw [← hL]; exact keptL_length _ _ _ HD3.out.fine.n4
        have hls : lastingL D3 = lastingL D2 := lasting_lasts HM3.out.2.1 HM3.out.2.2
        rw [hL] at hkt7 hD4 hr4
        rw [hL]
        have HL := Lib.hid (And.intro hD4 (And.intro hq4 (And.intro hc4 (And.intro hl4 (And.intro hr4 hls)))))
        have HL3 := Lib.hid (show (lastingL D3).length ≤ 4096 from keptL_length _ _ _ HD3.out.fine.n4)
        have HK7 := Lib.hid hkt7
        have HD7 := Lib.hid (HD3.out.kept hf7)
        have HF7 := Lib.hid (HF6.out.trans hf7)
        have HK6' := Lib.hid (HK6.out.kept hf7.nil)
        clear hk7 hf7 hkt7 hD4 hq4 hc4 hl4 hr4 hls HD3 HF6 HK6 hL HM3 HC2
        go_wp2_with fail
        go_loopw [16, 18] (fun v i wr => ∃ k : Nat, k ≤ L.length ∧ i = .int .i64 k ∧ wr.ownsRow w7.heap.size 3 1 v k ((L.take k).map fun t => intV t.1) ∧ Fr [] w7 wr) (fun v i _ => L.length - (intOf i).toNat)
        case atStart => exact ⟨0, by omega, rfl, World.ownsRow_nil _ _ _ _, Fr.refl _ _⟩
        case round =>
          obtain ⟨k, hkl, rfl, hown, hfr⟩ := hrel
          by_cases hlt : k < L.length
          · have hkI : (k : Int) < (L.length : Int) := by omega
            obtain ⟨B, off, rfl⟩ : ∃ B off, p7 = some ⟨B, off, none⟩ := by
              obtain ⟨T, hT, hs, _⟩ := HK7.out
              rcases hs with ⟨_, _, _, h0, _⟩ | ⟨B, off, cap, h, _⟩
              · rw [← hT] at hlt; simp [ktL] at hlt; omega
              · simp only [Value.slice.injEq] at h; exact ⟨B, off, h.1⟩
            have hat := ((HK7.out.kept hfr.nil).at hlt).1
            have htk : (L.take (k + 1)).map (fun t => intV t.1) = (L.take k).map (fun t => intV t.1) ++ [intV (L[k]).1] := by rw [List.take_succ_eq_append_getElem hlt, List.map_append]; rfl
            generalize (L[k]).1 = x at *
            obtain ⟨v', w8, hap, hrow, hf8, _⟩ := run_append_slc (P := Try.prog) (t := 45) (ty := 45) Try.underlying45 Try.info3 rfl (by decide) (ownsKept hown (Fr.alloc1 wr (.cells #[.int .i64 x] 3)) (by simp)) (one_int wr x 3) (by simp) (by simp [Value.oneCell']) (by unfold maxLen; omega) (by omega) (by have := hfr.size; simp; omega)
            have hnx : w8.ownsRow w7.heap.size 3 1 v' (k + 1) ((L.take (k + 1)).map fun t => intV t.1) := by rw [htk]; exact hrow
            have hfx : Fr [] w7 w8 := (hfr.trans (Fr.alloc1 wr _)).andThen hf8 (fun y hy => .inr (by
              cases hb : Value.ownBlock u16 with
              | none => rw [hb] at hy; cases hy
              | some g => rw [hb] at hy; simp at hy; rw [hy]; exact (hown.lt g hb).1))
            have HAP := Lib.hid hap
            have HNX := Lib.hid (And.intro hnx hfx)
            clear hap hnx hfx hrow hf8 htk hown hfr
            go_wp2_with (at_builtin; refine wpList_append_run rfl _ _ _ rfl HAP.out ?_)
            go_roundw
            case rel => exact ⟨k + 1, by omega, by go_num, HNX.out.1, HNX.out.2⟩
            case measure => simp [intOf]; omega
          · have hkI : ¬ (k : Int) < (L.length : Int) := by omega
            have hkx : k = L.length := by omega
            subst hkx
            rw [List.take_of_length_le (Nat.le_refl _)] at hown
            have hall : Ints [b, ml, mc] wr u16 (L.map (·.1)) := by
              have := Slc.ofOwns (S := [b, ml, mc]) hown (by have := HD7.out.lt; intro x hx; simp only [List.mem_cons, List.not_mem_nil, or_false] at hx; omega)
              unfold Ints
              rw [List.length_map, List.map_map]
              exact this
            have HALL := Lib.hid hall
            have HD8 := Lib.hid (HD7.out.kept hfr)
            have HF8 := Lib.hid (HF7.out.trans hfr)
            have HK8 := Lib.hid (HK7.out.kept hfr.nil)
            have HB8 := Lib.hid (HK6'.out.kept hfr.nil)
            clear hall hown hfr HD7 HF7 HK7 HK6'
            go_wp2_with fail
            refine (lasting_k _ HD8.out).mono ?_
            rintro e w9 ⟨v9, rfl, hk9, hf9⟩
            have HK9 := Lib.hid (hk9 [] (by simp))
            have HD9 := Lib.hid (HD8.out.kept hf9)
            have HF9 := Lib.hid (HF8.out.trans hf9)
            have HK9' := Lib.hid (HK8.out.kept hf9.nil)
            have HB9 := Lib.hid (HB8.out.kept hf9.nil)
            have HALL9 : Hid (Ints [b, ml, mc] w9 u16 (L.map (·.1))) := Lib.hid (Slc.kept HALL.out hf9.nil)
            clear hk9 hf9 HD8 HF8 HK8 HB8 HALL
            go_wp2_with fail
            refine (same_k _ HK9.out HB9.out HL3.out).mono ?_
            rintro e w10 ⟨rfl, hf10⟩
            rw [show decide (lastingL D3 = lastingL D2) = true from decide_eq_true HL.out.2.2.2.2.2]
            have HD10 := Lib.hid (HD9.out.kept hf10)
            have HF10 := Lib.hid (HF9.out.trans hf10)
            have HK10 := Lib.hid (HK9'.out.kept hf10.nil)
            have HALL10 : Hid (Ints [b, ml, mc] w10 u16 (L.map (·.1))) := Lib.hid (Slc.kept HALL9.out hf10.nil)
            clear hf10 HD9 HF9 HK9 HK9' HB9 HALL9
            go_wp2_with fail
            refine (restart_k (keep := L.map fun t : Int × List UInt8 => t.1) a3 a4 _ HD10.out HALL10.out (by rw [List.length_map]; omega)).mono ?_
            rintro e w11 ⟨rfl, hd11, hf11⟩
            rw [HL.out.1] at hd11
            have HD11 := Lib.hid hd11
            have HF11 := Lib.hid (HS.out HF10.out hf11 (by simp))
            have HK11 := Lib.hid (HK10.out.kept hf11)
            clear hd11 hf11 HD10 HF10 HK10 HALL10
            go_wp2_with fail
            refine (cached_k _ HD11.out).mono ?_
            rintro e w12 ⟨v12, rfl, hk12, hf12⟩
            obtain ⟨a12, q12, rfl, _⟩ := (hk12 [] (by simp)).form
            rw [HL.out.2.2.1]
            have HD12 := Lib.hid (HD11.out.kept hf12)
            have HF12 := Lib.hid (HF11.out.trans hf12)
            have HK12 := Lib.hid (HK11.out.kept hf12.nil)
            clear hk12 hf12 HD11 HF11 HK11
            go_wp2_with fail
            go_loopw [21] (fun i wr => ∃ k : Nat, k ≤ L.length ∧ i = .int .i64 k ∧ Fr [] w12 wr) (fun i _ => L.length - (intOf i).toNat)
            case atStart => exact ⟨0, by omega, rfl, Fr.refl _ _⟩
            case round =>
              obtain ⟨k, hkl, rfl, hfr⟩ := hrel
              by_cases hlt : k < L.length
              · have hkI : (k : Int) < (L.length : Int) := by omega
                obtain ⟨B, off, rfl⟩ : ∃ B off, p7 = some ⟨B, off, none⟩ := by
                  obtain ⟨T, hT, hs, _⟩ := HK12.out
                  rcases hs with ⟨_, _, _, h0, _⟩ | ⟨B, off, cap, h, _⟩
                  · rw [← hT] at hlt; simp [ktL] at hlt; omega
                  · simp only [Value.slice.injEq] at h; exact ⟨B, off, h.1⟩
                obtain ⟨c1', dv, c2', hdb⟩ := (HK12.out.kept hfr.nil).at hlt
                have hrd := HL.out.2.2.2.2.1 L[k] (List.getElem_mem hlt)
                generalize L[k] = u at *
                obtain ⟨un, ul⟩ := u
                simp only at c1' hrd hdb
                have HRD := Lib.hid hrd
                have HDB := Lib.hid hdb
                have HDr := Lib.hid (HD12.out.kept hfr)
                have HFR := Lib.hid hfr
                clear hrd hdb hfr
                go_wp2_with fail
                refine (read_k un _ HDr.out HRD.out.1).mono ?_
                rintro e wx ⟨rfl, hbx, hfx, _⟩
                rw [HRD.out.2] at hbx
                obtain ⟨g, hg⟩ : ∃ g, wr.heap.size = g := ⟨_, rfl⟩
                rw [hg] at hbx
                rw [hg]
                have hul : ul.length = 1024 := by rw [← HRD.out.2]; exact HDr.out.fine.bytes_length un
                have c2x := hfx.cellSome c2' (by simp)
                have s1 := fun nq => run_string_bytes (P := Try.prog) (w := wx.drewN nq) (src := 23) (dst := 9) (e := 5) Try.underlying23 Try.underlying5 Try.underlying9 ((Blk.bytes (S := []) (n := 1024) hbx (by simp) hul).kept (fr_drewN _ _))
                have s2 := fun nq => run_string_bytes (P := Try.prog) (w := wx.drewN nq) (src := 23) (dst := 9) (e := 5) Try.underlying23 Try.underlying5 Try.underlying9 (((HDB.out.kept hfx.nil).mono (S' := []) (by simp)).kept (fr_drewN _ _))
                have HFX := Lib.hid (HFR.out.trans hfx)
                clear hbx hfx hg c1' c2' hul
                go_wp2_with fail
                go_quiet (fail)
                go_wp2
                go_roundw
                case rel => exact ⟨k + 1, by omega, by go_num, HFX.out.trans (fr_drewN _ _)⟩
                case measure => simp [intOf]; omega
              · have hkI : ¬ (k : Int) < (L.length : Int) := by omega
                have HD13 := Lib.hid (HD12.out.kept hfr)
                have HF13 := Lib.hid (HF12.out.trans hfr)
                clear hfr HD12 HF12 HK12
                go_wp2_with fail
                refine (lasting_k _ HD13.out).mono ?_
                rintro e w14 ⟨v14, rfl, hk14, hf14⟩
                have HK14 := Lib.hid (hk14 [b, ml, mc] (by have := HD13.out.lt; intro x hx; simp only [List.mem_cons, List.not_mem_nil, or_false] at hx; omega))
                have HD14 := Lib.hid (HD13.out.kept hf14)
                have HF14 := Lib.hid (HF13.out.trans hf14)
                clear hk14 hf14 HD13 HF13
                go_wp2_with fail
                refine (restart_k (keep := l2) a3 a4 _ HD14.out (HIN.out B2.out HF14.out) (by omega)).mono ?_
                rintro e w15 ⟨rfl, hd15, hf15⟩
                rw [HL.out.2.1] at hd15
                have HD15 := Lib.hid hd15
                have HF15 := Lib.hid (HS.out HF14.out hf15 (by simp))
                have HK15 := Lib.hid (HK14.out.kept hf15)
                clear hd15 hf15 HD14 HF14 HK14
                go_wp2_with fail
                refine (lasting_k _ HD15.out).mono ?_
                rintro e w16 ⟨v16, rfl, hk16, hf16⟩
                have HK16 := Lib.hid (hk16 [] (by simp))
                have HF16 := Lib.hid (HF15.out.trans hf16)
                have HK16' := Lib.hid (HK15.out.kept hf16.nil)
                clear hk16 hf16 HD15 HF15 HK15
                go_wp2_with fail
                refine (same_k _ HK16.out HK16'.out HL.out.2.2.2.1).mono ?_
                rintro e w17 ⟨rfl, hf17⟩
                rw [show decide (lastingL D4 = lastingL D4) = true from decide_eq_true rfl]
                have HF17 := Lib.hid (HF16.out.trans hf17)
                clear hf17
                go_wp2
                go_ret
                exact ⟨rfl, HF17.out⟩
end Go.Proofs.Ytgockpichhgijaa
