/- DevicePlays, walked. -/
import Derived.Test.YtgockpichhgijaaRef4T
import Derived.Test.YtgockpichhgijaaAwk4
import Derived.BigRegion
import Derived.Deep.CutRange
namespace Go.Proofs.Ytgockpichhgijaa
open Go.RowKit Go.MapKept

set_option maxRecDepth 100000 in
set_option maxHeartbeats 4000000 in
theorem DevicePlays_walk (W : World) (a0 : Int) (_w0 : (Lit.int .i64 a0).wf = true) {v1 : Value} {c1 : List CallD} (b1 : Scr [] W v1 c1) (_m1 : c1.length ≤ maxLen) :
    Calls Try.prog 7 #[.int .i64 a0, v1] W fun e w' => e = .returned (.bool true) ∧ Fr [] W w' := by
  obtain ⟨p1, q1, rfl⟩ := b1.form
  have B1 := Lib.hid b1
  clear b1 _m1 _w0
  obtain ⟨t, ht⟩ : ∃ t : Int, (30 < a0 ∧ a0 ≤ 4096 ∧ t = 30) ∨ (¬ (30 < a0 ∧ a0 ≤ 4096) ∧ t = a0) := by
    by_cases h : 30 < a0 ∧ a0 ≤ 4096
    · exact ⟨30, .inl ⟨h.1, h.2, rfl⟩⟩
    · exact ⟨a0, .inr ⟨h, rfl⟩⟩
  have htn : (t < 2 ∨ 4096 < t) ∨ (2 ≤ t ∧ t ≤ 30) := by omega
  go_enter Try.func7, Try.ntmps7
  go_wp2_with fail
  refine (awake_k _).mono ?_
  rintro e w1 ⟨rfl, hf1⟩
  have HF1 := Lib.hid hf1
  clear hf1
  go_upto_region 4 with fail
  go_cut [21] from 14 to 20 (fun p wx => p = .bool (decide (30 < a0 ∧ a0 ≤ 4096)) ∧ w1 = wx)
  case first =>
    by_cases h1 : 30 < a0
    · by_cases h2 : a0 ≤ 4096
      · have HC := Lib.hid (decide_eq_true (And.intro h1 h2))
        go_wp2_with fail
        go_meet
        exact ⟨by rw [HC.out], rfl⟩
      · have HC := Lib.hid (decide_eq_false (fun h : 30 < a0 ∧ a0 ≤ 4096 => h2 h.2))
        go_wp2_with fail
        go_meet
        exact ⟨by rw [HC.out], rfl⟩
    · have HC := Lib.hid (decide_eq_false (fun h : 30 < a0 ∧ a0 ≤ 4096 => h1 h.1))
      go_wp2_with fail
      go_meet
      exact ⟨by rw [HC.out], rfl⟩
  case rest =>
  obtain ⟨rfl, rfl⟩ := hcut
  go_upto_if 21 with fail
  go_cut [0] from 14 to 21 (fun p wx => p = .int .i64 t ∧ w1 = wx)
  case first =>
    rcases ht with ⟨h0, h1, rfl⟩ | ⟨h0, rfl⟩
    · rw [decide_eq_true (And.intro h0 h1)]
      go_wp2_with fail
      go_meet
      exact ⟨rfl, rfl⟩
    · rw [decide_eq_false h0]
      go_wp2_with fail
      go_meet
      exact ⟨rfl, rfl⟩
  case rest =>
    obtain ⟨rfl, rfl⟩ := hcut
    clear ht
    rcases htn with htn | htn
    · go_wp2_with fail
      refine (new_no t _ htn).mono ?_
      rintro e w2 ⟨rfl, rfl⟩
      go_wp2_with fail
      refine (rnew_no t _ htn).mono ?_
      rintro e w3 ⟨rfl, rfl⟩
      go_wp2
      go_ret
      exact ⟨rfl, HF1.out⟩
    · obtain ⟨n, rfl⟩ := Int.eq_ofNat_of_zero_le (show 0 ≤ t by omega)
      have hn1 : 2 ≤ n := by omega
      have hn2 : n ≤ 4096 := by omega
      clear htn
      go_wp2_with fail
      refine (new_k n _ hn1 hn2).mono ?_
      rintro e w2 ⟨rfl, hd2, hf2⟩
      obtain ⟨b, hb⟩ : ∃ b, w1.heap.size + 2 = b := ⟨_, rfl⟩
      obtain ⟨ml, hml⟩ : ∃ b, w1.heap.size = b := ⟨_, rfl⟩
      obtain ⟨mc, hmc⟩ : ∃ b, w1.heap.size + 1 = b := ⟨_, rfl⟩
      rw [hb, hmc, hml] at hd2
      rw [hb]
      have hge : W.heap.size ≤ b ∧ W.heap.size ≤ ml ∧ W.heap.size ≤ mc := by have := HF1.out.size; omega
      have HD2 := Lib.hid hd2
      have HF2 := Lib.hid (HF1.out.trans hf2)
      clear hd2 hf2 hb hml hmc
      go_wp2_with fail
      refine (rnew_k n _ hn1 hn2).mono ?_
      rintro e w3 ⟨r, rfl, LB, CB, IB, hr3, hg1, hg2, hg3, hg4, hf3⟩
      have hge2 : W.heap.size ≤ r ∧ W.heap.size ≤ LB ∧ W.heap.size ≤ CB ∧ W.heap.size ≤ IB := by have := HF2.out.size; omega
      have HT3 : Hid (Two w3 b ml mc r LB CB IB (Dv.new n)) := Lib.hid ⟨HD2.out.kept hf3, hr3⟩
      have HF3 := Lib.hid (HF2.out.trans hf3)
      have hS : ∀ x, x ∈ twoS b ml mc r LB CB IB → W.heap.size ≤ x := by
        intro x hx
        simp only [List.mem_cons, List.not_mem_nil, or_false] at hx
        omega
      have HS3 := Lib.hid ((B1.out.more hS).kept HF3.out.nil)
      have HSG := Lib.hid hS
      clear hr3 hg1 hg2 hg3 hg4 hf3 hge hge2 hS HD2 HF2
      go_wp2_with fail
      go_loopw [10] (fun i wr => ∃ k : Nat, k ≤ c1.length ∧ k ≤ 50 ∧ i = .int .i64 k ∧ Two wr b ml mc r LB CB IB ((c1.take k).foldl stepS (Dv.new n)) ∧ Fr (twoS b ml mc r LB CB IB) w3 wr) (fun i _ => c1.length - (intOf i).toNat)
      case atStart => exact ⟨0, by omega, by omega, rfl, HT3.out, Fr.refl _ _⟩
      case round =>
        obtain ⟨k, hkl, hk50, rfl, hd, hfr⟩ := hrel
        have HFR := Lib.hid hfr
        clear hfr
        by_cases hlt : k < c1.length
        · by_cases hlt5 : k < 50
          · have hst := doneD_step (D := Dv.new n) hlt
            rcases HS3.out with ⟨_, _, _, h0⟩ | ⟨B, off, cap', hv, hall⟩
            · rw [h0] at hlt; simp at hlt
            · obtain ⟨rfl, _, rfl⟩ : p1 = some ⟨B, off, none⟩ ∧ True ∧ q1 = cap' := by simp only [Value.slice.injEq] at hv; exact ⟨hv.1, trivial, hv.2.2⟩
              have hca := (hall k c1[k] (List.getElem?_eq_getElem hlt)).kept HFR.out
              obtain ⟨E, hE⟩ : ∃ E, (c1.take k).foldl stepS (Dv.new n) = E := ⟨_, rfl⟩
              rw [hE] at hd hst
              generalize c1[k] = c at *
              have g0 := hca.cells 0 _ rfl
              have g1 := hca.cells 1 _ rfl
              have g2 := hca.cells 2 _ rfl
              have g3 := hca.cells 3 _ rfl
              have g4 := hca.cells 4 _ rfl
              have g5 := hca.cells 5 _ rfl
              simp only [Nat.add_zero] at g0
              simp only [byteV] at g5
              have HD := Lib.hid hd
              have HCA := Lib.hid hca
              have HST := Lib.hid hst
              clear hall hv hca hst hE hd
              have hkI : (k : Int) < (c1.length : Int) := by omega
              have hk5 : (k : Int) < 50 := by omega
              go_wp2_with fail
              refine (small_k c _).mono ?_
              rintro e w4 ⟨rfl, hf4⟩
              have HD4 := Lib.hid (HD.out.kept hf4)
              have HF4 := Lib.hid (HFR.out.trans hf4.nil)
              have hca4 := HCA.out.kept hf4.nil
              have HCA4 := Lib.hid hca4
              clear g0 g1 g2 g3 g4 g5
              by_cases hsm : c.small = true
              · rw [hsm]
                have HS1 : Hid (stepS E c = stepD E c) := Lib.hid (by unfold stepS; rw [if_pos hsm])
                rw [HS1.out] at HST
                have g0 := hca4.cells 0 _ rfl
                have g1 := hca4.cells 1 _ rfl
                have g2 := hca4.cells 2 _ rfl
                have g3 := hca4.cells 3 _ rfl
                have g4 := hca4.cells 4 _ rfl
                have g5 := hca4.cells 5 _ rfl
                simp only [Nat.add_zero] at g0
                simp only [byteV] at g5
                clear hca4 hf4 hsm
                have hbn := i64_bd HCA4.out.nwf
                have HBN := Lib.hid hbn
                clear hbn
                go_wp2_with fail
                refine (did_k _ HD4.out HCA4.out.bytes HCA4.out.keeps (by have := HCA4.out.klen; unfold maxLen at this; omega) HBN.out.1 HBN.out.2).mono ?_
                rintro e w5 ⟨rfl, hd5, hf5⟩
                have HD5 := Lib.hid hd5
                have HF5 := Lib.hid (HF4.out.trans hf5)
                clear hd5 hf5 g0 g1 g2 g3 g4 g5
                go_wp2_with fail
                refine (shows_k _ HD5.out).mono ?_
                rintro e w6 ⟨rfl, hf6⟩
                have HD6 := Lib.hid (HD5.out.kept hf6)
                have HF6 := Lib.hid (HF5.out.trans hf6.nil)
                clear hf6
                go_wp2
                go_roundw
                case rel => exact ⟨k + 1, by omega, by omega, by go_num, by rw [HST.out]; exact HD6.out, HF6.out⟩
                case measure => simp [intOf]; omega
              · have hsf : c.small = false := by simpa using hsm
                have HS1 : Hid (stepS E c = E) := Lib.hid (by unfold stepS; rw [if_neg hsm])
                rw [HS1.out] at HST
                rw [hsf]
                clear hsm hca4 hf4
                go_wp2
                go_roundw
                case rel => exact ⟨k + 1, by omega, by omega, by go_num, by rw [HST.out]; exact HD4.out, HF4.out⟩
                case measure => simp [intOf]; omega
          · have hk5 : ¬ (k : Int) < 50 := by omega
            have hkI : (k : Int) < (c1.length : Int) := by omega
            have HE := Lib.hid ((HF3.out.nil (S := twoS b ml mc r LB CB IB)).trans HFR.out)
            have HE2 := Lib.hid (HE.out.drop HSG.out)
            go_wp2
            go_ret
            exact ⟨rfl, HE2.out⟩
        · have hkI : ¬ (k : Int) < (c1.length : Int) := by omega
          have HE := Lib.hid ((HF3.out.nil (S := twoS b ml mc r LB CB IB)).trans HFR.out)
          have HE2 := Lib.hid (HE.out.drop HSG.out)
          go_wp2
          go_ret
          exact ⟨rfl, HE2.out⟩
end Go.Proofs.Ytgockpichhgijaa
