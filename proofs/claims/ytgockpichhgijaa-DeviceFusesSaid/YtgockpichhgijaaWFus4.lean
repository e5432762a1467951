/- DeviceFuses, walked. -/
import Derived.Test.YtgockpichhgijaaAwk4
namespace Go.Proofs.Ytgockpichhgijaa
open Go.RowKit Go.MapKept

/-- How a device of 8 sectors stands behind k acts that were asked, with a fuse of f. -/
structure FuSt (f : Int) (k : Nat) (D : Dv) : Prop where
  n : D.n = 8
  none : f < 0 → D.off = false ∧ D.fuse = -1
  left : 0 ≤ f → (k : Int) ≤ f → D.off = false ∧ D.fuse = f - k
  gone : 0 ≤ f → f < k → D.off = true

theorem FuSt.act {f : Int} {k : Nat} {D : Dv} (h : FuSt f k D) (ho : D.off = false) : actE D = (if 0 ≤ f ∧ f ≤ k then 40 else 0) ∧ FuSt f (k + 1) (actD D) := by
  by_cases h0 : f < 0
  · obtain ⟨_, hf⟩ := h.none h0
    refine ⟨?_, by rw [actD_n]; exact h.n, fun _ => ?_, fun _ => by omega, fun _ => by omega⟩
    · unfold actE; rw [hf, if_neg (by omega), if_neg (by omega)]
    · unfold actD; rw [if_neg (by omega), if_neg (by omega)]; exact ⟨ho, hf⟩
  · by_cases h1 : (k : Int) ≤ f
    · obtain ⟨_, hf⟩ := h.left (by omega) h1
      by_cases h2 : f = k
      · have hz : D.fuse = 0 := by omega
        refine ⟨?_, by rw [actD_n]; exact h.n, fun _ => by omega, fun _ _ => by omega, fun _ _ => ?_⟩
        · unfold actE; rw [if_pos hz, if_pos (by omega)]
        · unfold actD; rw [if_pos hz]
      · have hz : D.fuse ≠ 0 := by omega
        refine ⟨?_, by rw [actD_n]; exact h.n, fun _ => by omega, fun _ _ => ?_, fun _ _ => by omega⟩
        · unfold actE; rw [if_neg hz, if_neg (by omega)]
        · unfold actD; rw [if_neg hz, if_pos (by omega)]; exact ⟨ho, by simp; omega⟩
    · have := h.gone (by omega) (by omega)
      rw [ho] at this; cases this

theorem FuSt.off_iff {f : Int} {k : Nat} {D : Dv} (h : FuSt f k D) : D.off = true ↔ (0 ≤ f ∧ f < k) := by
  by_cases h0 : f < 0
  · have := (h.none h0).1; simp [this]; omega
  · by_cases h1 : (k : Int) ≤ f
    · have := (h.left (by omega) h1).1; simp [this]; omega
    · have := h.gone (by omega) (by omega); simp [this]; omega

theorem FuSt.more {f : Int} {k : Nat} {D : Dv} (h : FuSt f k D) (ho : D.off = true) : FuSt f (k + 1) D := by
  have := h.off_iff.1 ho
  exact ⟨h.n, fun _ => by omega, fun _ _ => by omega, fun _ _ => ho⟩

def goneE (f : Int) (k : Nat) : Int := if 0 ≤ f ∧ f ≤ k then 40 else 0

/-- A write that may be: the k-th act. -/
theorem FuSt.write {f : Int} {k : Nat} {D : Dv} (h : FuSt f k D) {i : Int} (h0 : 0 ≤ i) (h1 : i < 8) {l : List UInt8} (hl : l.length ≤ 1024) : writeE D i l = goneE f k ∧ FuSt f (k + 1) (writeD D i l) := by
  by_cases ho : D.off = true
  · have hu : useE D i l.length = 40 := by unfold useE; rw [if_pos ho]
    have := h.off_iff.1 ho
    unfold writeE writeD goneE
    rw [hu, if_neg (show ¬ (40 : Int) = 0 by decide), if_neg (show ¬ (40 : Int) = 0 by decide), if_pos (show 0 ≤ f ∧ f ≤ (k : Int) by omega)]
    exact ⟨rfl, h.more ho⟩
  · have hu : useE D i l.length = 0 := by unfold useE; rw [if_neg ho, if_neg]; rw [h.n]; omega
    have ho' : D.off = false := by simpa using ho
    obtain ⟨ha, hb⟩ := h.act ho'
    unfold writeE writeD goneE
    rw [hu, if_pos rfl, if_pos rfl]
    refine ⟨ha, ?_⟩
    split
    · exact ⟨hb.n, hb.none, hb.left, hb.gone⟩
    · exact hb
theorem FuSt.sync {f : Int} {k : Nat} {D : Dv} (h : FuSt f k D) : syncE D = goneE f k ∧ FuSt f (k + 1) (syncD D) := by
  by_cases ho : D.off = true
  · have := h.off_iff.1 ho
    unfold syncE syncD goneE
    rw [if_pos ho, if_pos ho, if_pos (by omega)]
    exact ⟨rfl, h.more ho⟩
  · have ho' : D.off = false := by simpa using ho
    obtain ⟨ha, hb⟩ := h.act ho'
    unfold syncE syncD goneE
    rw [if_neg ho, if_neg ho]
    refine ⟨ha, ?_⟩
    split
    · exact ⟨hb.n, hb.none, hb.left, hb.gone⟩
    · exact hb
/-- A write beyond the sectors is refused, and nothing is done. -/
theorem FuSt.bad {f : Int} {k : Nat} {D : Dv} (h : FuSt f k D) : writeE D 8 [] ≠ 0 ∧ writeD D 8 [] = D := by
  have hu : useE D 8 ([] : List UInt8).length ≠ 0 := by
    unfold useE
    split
    · omega
    · rw [if_pos]; · omega
      rw [h.n]; omega
  unfold writeE writeD
  rw [if_neg hu, if_neg hu]
  exact ⟨hu, rfl⟩
theorem FuSt.start {f : Int} : FuSt f 0 ((Dv.new 8).fused f) := by
  refine ⟨rfl, fun h => ⟨rfl, ?_⟩, fun h _ => ⟨rfl, ?_⟩, fun _ h => by omega⟩
  · show max f (-1) = -1; omega
  · show max f (-1) = f - (0 : Nat); omega

set_option maxRecDepth 100000 in
set_option maxHeartbeats 4000000 in
theorem DeviceFuses_walk (W : World) (a0 : Int) (w0 : (Lit.int .i64 a0).wf = true) (a1 : Int) (w1 : (Lit.int .i64 a1).wf = true) :
    Calls Try.prog 5 #[.int .i64 a0, .int .i64 a1] W fun e w' => e = .returned (.bool true) ∧ Fr [] W w' := by
  simp [Lit.wf, IntKind.min, IntKind.max, IntKind.bits, IntKind.signed] at w0 w1
  obtain ⟨w0a, w0b⟩ := w0
  obtain ⟨w1a, w1b⟩ := w1
  go_enter Try.func5, Try.ntmps5
  go_wp2_with fail
  refine (awake_k _).mono ?_
  rintro e w1 ⟨rfl, hf1⟩
  have HF1 := Lib.hid hf1
  clear hf1
  go_wp2_with fail
  refine (new_k 8 _ (by omega) (by omega)).mono ?_
  rintro e w2 ⟨rfl, hd2, hf2⟩
  obtain ⟨b, hb⟩ : ∃ b, w1.heap.size + 2 = b := ⟨_, rfl⟩
  obtain ⟨mc, hmc⟩ : ∃ mc, w1.heap.size + 1 = mc := ⟨_, rfl⟩
  obtain ⟨ml, hml⟩ : ∃ ml, w1.heap.size = ml := ⟨_, rfl⟩
  rw [hb, hmc, hml] at hd2
  rw [hb]
  have HN : Hid (W.heap.size ≤ b ∧ W.heap.size ≤ ml ∧ W.heap.size ≤ mc) := by have := HF1.out.size; exact ⟨by omega, by omega, by omega⟩
  have HD2 := Lib.hid hd2
  have HF2 := Lib.hid (HF1.out.trans hf2)
  clear hd2 hf2 hb hmc hml
  by_cases hn : a1 < 0
  · go_wp2_with fail
    generalize hN : -(a1 + 1).tmod 100 = N
    have hNb : 0 ≤ N ∧ N < 100 := by have h := Int.tmod_eq_emod_of_nonneg (a := -(a1 + 1)) (b := 100) (by omega); rw [Int.neg_tmod] at h; omega
    obtain ⟨hN0, hN1⟩ := hNb
    clear hN hn w1a w1b
    refine (fuse_k a0 _ HD2.out w0a w0b).mono ?_
    rintro e w3 ⟨rfl, hd3, hf3, _⟩
    have HD3 : Hid (DevAt w3 b ml mc ((Dv.new 8).fused a0)) := hd3
    have HF3 := Lib.hid (HF2.out.andThen hf3 (by have := HN.out; simp; omega))
    clear hd3 hf3
    go_wp2_with fail
    go_loopw [8] (fun i wr => ∃ (k : Nat) (D : Dv), (k : Int) ≤ N ∧ i = .int .i64 k ∧ DevAt wr b ml mc D ∧ FuSt a0 (k + k / 5) D ∧ Fr [] W wr) (fun i _ => (N - intOf i).toNat)
    case atStart => exact ⟨0, _, hN0, rfl, HD3.out, FuSt.start, HF3.out⟩
    case round =>
      obtain ⟨k, D, hkN, rfl, hd, hst, hfr⟩ := hrel
      by_cases hlt : (k : Int) < N
      · have HD := Lib.hid hd
        have HS := Lib.hid hst
        have HFR := Lib.hid hfr
        clear hd hst hfr
        go_wp2_with fail
        refine (write_k (b := b) (ml := ml) (mc := mc) 8 (l := []) _ HD.out (Bytes.nil _ _)).mono ?_
        rintro e w4 ⟨rfl, hd4, hf4⟩
        have hbad := HS.out.bad.1
        rw [HS.out.bad.2] at hd4
        have hbad2 : (writeE D 8 [] == 0) = false := by simp [hbad]
        have HD4 := Lib.hid hd4
        have HF4 := Lib.hid (HFR.out.andThen hf4 (by have := HN.out; simp; omega))
        clear hd4 hf4 hbad
        generalize writeE D 8 [] = eb at *
        have hk8 : (0 : Int) ≤ (k : Int) % 8 ∧ (k : Int) % 8 < 8 := by omega
        have hwr := HS.out.write hk8.1 hk8.2 (l := [1]) (by simp)
        have HW := Lib.hid hwr
        clear hwr
        go_wp2_with fail
        refine (write_k (b := b) (ml := ml) (mc := mc) ((k : Int) % 8) (l := [1]) _ (HD4.out.kept (Fr.alloc1 _ _)) (new_bytes w4 [1] 1 rfl (by have := HD4.out.lt; simp; omega) rfl _)).mono ?_
        rintro e w5 ⟨rfl, hd5, hf5⟩
        rw [HW.out.1]
        have HD5 := Lib.hid hd5
        have HF5 := Lib.hid ((HF4.out.alloc _).andThen hf5 (by have := HN.out; simp; omega))
        clear hd5 hf5
        by_cases h5 : (k : Int) % 5 = 4
        · have HY := Lib.hid HW.out.2.sync
          have hst : FuSt a0 (k + 1 + (k + 1) / 5) (syncD (writeD D ((k : Int) % 8) [1])) := by
            have := HY.out.2
            rwa [show k + k / 5 + 1 + 1 = k + 1 + (k + 1) / 5 from by omega] at this
          have HST := Lib.hid hst
          clear hst
          go_wp2_with fail
          refine (sync_k _ HD5.out).mono ?_
          rintro e w6 ⟨rfl, hd6, hf6⟩
          rw [HY.out.1]
          have HD6 := Lib.hid hd6
          have HF6 := Lib.hid (HF5.out.andThen hf6 (by have := HN.out; simp; omega))
          clear hd6 hf6
          by_cases hg : 0 ≤ a0 ∧ a0 ≤ (k : Int) + ((k : Int) + 1) / 5
          · rw [show goneE a0 (k + k / 5 + 1) = 40 from by unfold goneE; rw [if_pos]; omega]
            obtain ⟨hg1, hg2⟩ := hg
            go_wp2
            go_roundw
            case rel => exact ⟨k + 1, _, by omega, by go_num, HD6.out, HST.out, HF6.out⟩
            case measure => simp [intOf]; omega
          · rw [show goneE a0 (k + k / 5 + 1) = 0 from by unfold goneE; rw [if_neg]; omega]
            by_cases hg1 : 0 ≤ a0
            · have hg2 : (k : Int) + ((k : Int) + 1) / 5 < a0 := by omega
              clear hg
              go_wp2
              go_roundw
              case rel => exact ⟨k + 1, _, by omega, by go_num, HD6.out, HST.out, HF6.out⟩
              case measure => simp [intOf]; omega
            · clear hg
              go_wp2
              all_goals
                go_roundw
                case rel => exact ⟨k + 1, _, by omega, by go_num, HD6.out, HST.out, HF6.out⟩
                case measure => simp [intOf]; omega
        · have hst : FuSt a0 (k + 1 + (k + 1) / 5) (writeD D ((k : Int) % 8) [1]) := by
            have := HW.out.2
            rwa [show k + k / 5 + 1 = k + 1 + (k + 1) / 5 from by omega] at this
          have HST := Lib.hid hst
          clear hst
          by_cases hk4 : (k : Int) < 4
          · have hd5 : (k : Int) / 5 = 0 := by omega
            by_cases hg : 0 ≤ a0 ∧ a0 ≤ (k : Int)
            · rw [show goneE a0 (k + k / 5) = 40 from by unfold goneE; rw [if_pos]; omega]
              obtain ⟨hg1, hg2⟩ := hg
              clear hd5
              go_wp2
              go_roundw
              case rel => exact ⟨k + 1, _, by omega, by go_num, HD5.out, HST.out, HF5.out⟩
              case measure => simp [intOf]; omega
            · rw [show goneE a0 (k + k / 5) = 0 from by unfold goneE; rw [if_neg]; omega]
              clear hd5
              by_cases hg1 : 0 ≤ a0
              · have hg2 : (k : Int) < a0 := by omega
                clear hg
                go_wp2
                go_roundw
                case rel => exact ⟨k + 1, _, by omega, by go_num, HD5.out, HST.out, HF5.out⟩
                case measure => simp [intOf]; omega
              · clear hg
                go_wp2
                go_roundw
                case rel => exact ⟨k + 1, _, by omega, by go_num, HD5.out, HST.out, HF5.out⟩
                case measure => simp [intOf]; omega
          · by_cases hg : 0 ≤ a0 ∧ a0 ≤ (k : Int) + ((k : Int) + 1) / 5
            · rw [show goneE a0 (k + k / 5) = 40 from by unfold goneE; rw [if_pos]; omega]
              obtain ⟨hg1, hg2⟩ := hg
              go_wp2
              go_roundw
              case rel => exact ⟨k + 1, _, by omega, by go_num, HD5.out, HST.out, HF5.out⟩
              case measure => simp [intOf]; omega
            · rw [show goneE a0 (k + k / 5) = 0 from by unfold goneE; rw [if_neg]; omega]
              by_cases hg1 : 0 ≤ a0
              · have hg2 : (k : Int) + ((k : Int) + 1) / 5 < a0 := by omega
                clear hg
                go_wp2
                go_roundw
                case rel => exact ⟨k + 1, _, by omega, by go_num, HD5.out, HST.out, HF5.out⟩
                case measure => simp [intOf]; omega
              · clear hg
                go_wp2
                go_roundw
                case rel => exact ⟨k + 1, _, by omega, by go_num, HD5.out, HST.out, HF5.out⟩
                case measure => simp [intOf]; omega
      · have HD := Lib.hid hd
        have HFR := Lib.hid hfr
        clear hd hst hfr
        go_wp2_with fail
        refine (restart_k (keep := []) (-1) 0 _ HD.out (Slc.nil _ _) (by simp)).mono ?_
        rintro e w4 ⟨rfl, hd4, hf4⟩
        have ho4 : (restartD D [] (-1) 0).off = false := rfl
        have hf44 : syncE (restartD D [] (-1) 0) = 0 := rfl
        have HD4 := Lib.hid hd4
        have HF4 := Lib.hid (HFR.out.andThen hf4 (by have := HN.out; simp; omega))
        clear hd4 hf4
        generalize restartD D [] (-1) 0 = D4 at *
        go_wp2_with fail
        refine (off_k _ HD4.out).mono ?_
        rintro e w' ⟨rfl, rfl⟩
        rw [ho4]
        go_wp2_with fail
        refine (sync_k _ HD4.out).mono ?_
        rintro e w5 ⟨rfl, hd5, hf5⟩
        rw [hf44]
        have HF5 := Lib.hid (HF4.out.andThen hf5 (by have := HN.out; simp; omega))
        clear hd5 hf5 ho4 hf44
        go_wp2
        go_ret
        exact ⟨rfl, HF5.out⟩
  · go_wp2_with fail
    generalize hN : a1 % 100 = N
    have hNb : 0 ≤ N ∧ N < 100 := by omega
    obtain ⟨hN0, hN1⟩ := hNb
    clear hN hn w1a w1b
    refine (fuse_k a0 _ HD2.out w0a w0b).mono ?_
    rintro e w3 ⟨rfl, hd3, hf3, _⟩
    have HD3 : Hid (DevAt w3 b ml mc ((Dv.new 8).fused a0)) := hd3
    have HF3 := Lib.hid (HF2.out.andThen hf3 (by have := HN.out; simp; omega))
    clear hd3 hf3
    go_wp2_with fail
    go_loopw [8] (fun i wr => ∃ (k : Nat) (D : Dv), (k : Int) ≤ N ∧ i = .int .i64 k ∧ DevAt wr b ml mc D ∧ FuSt a0 (k + k / 5) D ∧ Fr [] W wr) (fun i _ => (N - intOf i).toNat)
    case atStart => exact ⟨0, _, hN0, rfl, HD3.out, FuSt.start, HF3.out⟩
    case round =>
      obtain ⟨k, D, hkN, rfl, hd, hst, hfr⟩ := hrel
      by_cases hlt : (k : Int) < N
      · have HD := Lib.hid hd
        have HS := Lib.hid hst
        have HFR := Lib.hid hfr
        clear hd hst hfr
        go_wp2_with fail
        refine (write_k (b := b) (ml := ml) (mc := mc) 8 (l := []) _ HD.out (Bytes.nil _ _)).mono ?_
        rintro e w4 ⟨rfl, hd4, hf4⟩
        have hbad := HS.out.bad.1
        rw [HS.out.bad.2] at hd4
        have hbad2 : (writeE D 8 [] == 0) = false := by simp [hbad]
        have HD4 := Lib.hid hd4
        have HF4 := Lib.hid (HFR.out.andThen hf4 (by have := HN.out; simp; omega))
        clear hd4 hf4 hbad
        generalize writeE D 8 [] = eb at *
        have hk8 : (0 : Int) ≤ (k : Int) % 8 ∧ (k : Int) % 8 < 8 := by omega
        have hwr := HS.out.write hk8.1 hk8.2 (l := [1]) (by simp)
        have HW := Lib.hid hwr
        clear hwr
        go_wp2_with fail
        refine (write_k (b := b) (ml := ml) (mc := mc) ((k : Int) % 8) (l := [1]) _ (HD4.out.kept (Fr.alloc1 _ _)) (new_bytes w4 [1] 1 rfl (by have := HD4.out.lt; simp; omega) rfl _)).mono ?_
        rintro e w5 ⟨rfl, hd5, hf5⟩
        rw [HW.out.1]
        have HD5 := Lib.hid hd5
        have HF5 := Lib.hid ((HF4.out.alloc _).andThen hf5 (by have := HN.out; simp; omega))
        clear hd5 hf5
        by_cases h5 : (k : Int) % 5 = 4
        · have HY := Lib.hid HW.out.2.sync
          have hst : FuSt a0 (k + 1 + (k + 1) / 5) (syncD (writeD D ((k : Int) % 8) [1])) := by
            have := HY.out.2
            rwa [show k + k / 5 + 1 + 1 = k + 1 + (k + 1) / 5 from by omega] at this
          have HST := Lib.hid hst
          clear hst
          go_wp2_with fail
          refine (sync_k _ HD5.out).mono ?_
          rintro e w6 ⟨rfl, hd6, hf6⟩
          rw [HY.out.1]
          have HD6 := Lib.hid hd6
          have HF6 := Lib.hid (HF5.out.andThen hf6 (by have := HN.out; simp; omega))
          clear hd6 hf6
          by_cases hg : 0 ≤ a0 ∧ a0 ≤ (k : Int) + ((k : Int) + 1) / 5
          · rw [show goneE a0 (k + k / 5 + 1) = 40 from by unfold goneE; rw [if_pos]; omega]
            obtain ⟨hg1, hg2⟩ := hg
            go_wp2
            go_roundw
            case rel => exact ⟨k + 1, _, by omega, by go_num, HD6.out, HST.out, HF6.out⟩
            case measure => simp [intOf]; omega
          · rw [show goneE a0 (k + k / 5 + 1) = 0 from by unfold goneE; rw [if_neg]; omega]
            by_cases hg1 : 0 ≤ a0
            · have hg2 : (k : Int) + ((k : Int) + 1) / 5 < a0 := by omega
              clear hg
              go_wp2
              go_roundw
              case rel => exact ⟨k + 1, _, by omega, by go_num, HD6.out, HST.out, HF6.out⟩
              case measure => simp [intOf]; omega
            · clear hg
              go_wp2
              all_goals
                go_roundw
                case rel => exact ⟨k + 1, _, by omega, by go_num, HD6.out, HST.out, HF6.out⟩
                case measure => simp [intOf]; omega
        · have hst : FuSt a0 (k + 1 + (k + 1) / 5) (writeD D ((k : Int) % 8) [1]) := by
            have := HW.out.2
            rwa [show k + k / 5 + 1 = k + 1 + (k + 1) / 5 from by omega] at this
          have HST := Lib.hid hst
          clear hst
          by_cases hk4 : (k : Int) < 4
          · have hd5 : (k : Int) / 5 = 0 := by omega
            by_cases hg : 0 ≤ a0 ∧ a0 ≤ (k : Int)
            · rw [show goneE a0 (k + k / 5) = 40 from by unfold goneE; rw [if_pos]; omega]
              obtain ⟨hg1, hg2⟩ := hg
              clear hd5
              go_wp2
              go_roundw
              case rel => exact ⟨k + 1, _, by omega, by go_num, HD5.out, HST.out, HF5.out⟩
              case measure => simp [intOf]; omega
            · rw [show goneE a0 (k + k / 5) = 0 from by unfold goneE; rw [if_neg]; omega]
              clear hd5
              by_cases hg1 : 0 ≤ a0
              · have hg2 : (k : Int) < a0 := by omega
                clear hg
                go_wp2
                go_roundw
                case rel => exact ⟨k + 1, _, by omega, by go_num, HD5.out, HST.out, HF5.out⟩
                case measure => simp [intOf]; omega
              · clear hg
                go_wp2
                go_roundw
                case rel => exact ⟨k + 1, _, by omega, by go_num, HD5.out, HST.out, HF5.out⟩
                case measure => simp [intOf]; omega
          · by_cases hg : 0 ≤ a0 ∧ a0 ≤ (k : Int) + ((k : Int) + 1) / 5
            · rw [show goneE a0 (k + k / 5) = 40 from by unfold goneE; rw [if_pos]; omega]
              obtain ⟨hg1, hg2⟩ := hg
              go_wp2
              go_roundw
              case rel => exact ⟨k + 1, _, by omega, by go_num, HD5.out, HST.out, HF5.out⟩
              case measure => simp [intOf]; omega
            · rw [show goneE a0 (k + k / 5) = 0 from by unfold goneE; rw [if_neg]; omega]
              by_cases hg1 : 0 ≤ a0
              · have hg2 : (k : Int) + ((k : Int) + 1) / 5 < a0 := by omega
                clear hg
                go_wp2
                go_roundw
                case rel => exact ⟨k + 1, _, by omega, by go_num, HD5.out, HST.out, HF5.out⟩
                case measure => simp [intOf]; omega
              · clear hg
                go_wp2
                go_roundw
                case rel => exact ⟨k + 1, _, by omega, by go_num, HD5.out, HST.out, HF5.out⟩
                case measure => simp [intOf]; omega
      · have HD := Lib.hid hd
        have HFR := Lib.hid hfr
        clear hd hst hfr
        go_wp2_with fail
        refine (restart_k (keep := []) (-1) 0 _ HD.out (Slc.nil _ _) (by simp)).mono ?_
        rintro e w4 ⟨rfl, hd4, hf4⟩
        have ho4 : (restartD D [] (-1) 0).off = false := rfl
        have hf44 : syncE (restartD D [] (-1) 0) = 0 := rfl
        have HD4 := Lib.hid hd4
        have HF4 := Lib.hid (HFR.out.andThen hf4 (by have := HN.out; simp; omega))
        clear hd4 hf4
        generalize restartD D [] (-1) 0 = D4 at *
        go_wp2_with fail
        refine (off_k _ HD4.out).mono ?_
        rintro e w' ⟨rfl, rfl⟩
        rw [ho4]
        go_wp2_with fail
        refine (sync_k _ HD4.out).mono ?_
        rintro e w5 ⟨rfl, hd5, hf5⟩
        rw [hf44]
        have HF5 := Lib.hid (HF4.out.andThen hf5 (by have := HN.out; simp; omega))
        clear hd5 hf5 ho4 hf44
        go_wp2
        go_ret
        exact ⟨rfl, HF5.out⟩
end Go.Proofs.Ytgockpichhgijaa
