/- Done: a script is done to a device; Small. -/
import Derived.Test.YtgockpichhgijaaSame
import Derived.Test.YtgockpichhgijaaOpenC4
import Derived.Test.YtgockpichhgijaaDevH
import Derived.Test.YtgockpichhgijaaWOrd4A
namespace Go.Proofs.Ytgockpichhgijaa
open Go.RowKit Go.MapKept

def CallD.small (c : CallD) : Bool := decide (c.b.length ≤ 1100) && decide (c.keep.length ≤ 500)
def stepD (D : Dv) (c : CallD) : Dv :=
  if c.kind = 2 then writeD D c.n c.b
  else if c.kind = 3 then syncD D
  else if c.kind = 4 then D.fused c.n
  else if c.kind = 5 then restartD D c.keep c.n c.cut
  else if c.kind = 6 then (if spoilE D c.n c.cut = 0 then spoilD D c.n c.cut c.x else D)
  else D
def stepS (D : Dv) (c : CallD) : Dv := if c.small = true then stepD D c else D
def doneD (D : Dv) (cs : List CallD) : Dv := (cs.take 50).foldl stepS D

def CallD.agg (c : CallD) : Array Value := c.cells.toArray
theorem small_k (c : CallD) (w : World) : Calls Try.prog 22 #[.agg #[.int .i64 c.kind, .int .i64 c.n, .slice c.bp c.b.length c.bc, .slice c.kp c.keep.length c.kc, .int .i64 c.cut, byteV c.x]] w fun e w' => e = .returned (.bool c.small) ∧ Fr [] w w' := by
  have HF := Lib.hid (Fr.refl [] w)
  go_enter Try.func22, Try.ntmps22
  by_cases hb : c.b.length ≤ 1100
  · by_cases hk : c.keep.length ≤ 500
    · have e : c.small = true := by unfold CallD.small; rw [decide_eq_true hb, decide_eq_true hk]; rfl
      have h1 : (c.b.length : Int) ≤ 1100 := by omega
      have h2 : (c.keep.length : Int) ≤ 500 := by omega
      rw [e]
      clear e
      go_wp2
      go_ret
      exact ⟨rfl, HF.out.alloc _⟩
    · have e : c.small = false := by unfold CallD.small; rw [decide_eq_false hk, Bool.and_false]
      have h1 : (c.b.length : Int) ≤ 1100 := by omega
      have h2 : ¬ (c.keep.length : Int) ≤ 500 := by omega
      rw [e]
      clear e
      go_wp2
      go_ret
      exact ⟨rfl, HF.out.alloc _⟩
  · have e : c.small = false := by unfold CallD.small; rw [decide_eq_false hb, Bool.false_and]
    have h1 : ¬ (c.b.length : Int) ≤ 1100 := by omega
    rw [e]
    clear e
    go_wp2
    go_ret
    exact ⟨rfl, HF.out.alloc _⟩

theorem doneD_step {D : Dv} {cs : List CallD} {k : Nat} (hk : k < cs.length) : (cs.take (k + 1)).foldl stepS D = stepS ((cs.take k).foldl stepS D) cs[k] := by
  rw [List.take_succ_eq_append_getElem hk, List.foldl_append]; rfl

set_option maxRecDepth 100000 in
set_option maxHeartbeats 4000000 in
theorem done_k {b ml mc : Nat} {D : Dv} {v : Value} {cs : List CallD} (w : World) (h : DevAt w b ml mc D) (hs : Scr [b, ml, mc] w v cs) :
    Calls Try.prog 25 #[devP b, v] w fun e w' => e = .returned (.tuple #[]) ∧ DevAt w' b ml mc (doneD D cs) ∧ Fr [b, ml, mc] w w' := by
  obtain ⟨a, cap, rfl⟩ := hs.form
  have HD := Lib.hid h
  have HS := Lib.hid hs
  clear h hs
  go_enter Try.func25, Try.ntmps25
  go_wp2_with fail
  go_loopw [4] (fun i wr => ∃ k : Nat, k ≤ cs.length ∧ k ≤ 50 ∧ i = .int .i64 k ∧ DevAt wr b ml mc ((cs.take k).foldl stepS D) ∧ Fr [b, ml, mc] w wr) (fun i _ => cs.length - (intOf i).toNat)
  case atStart => exact ⟨0, by omega, by omega, rfl, HD.out, Fr.refl _ _⟩
  case round =>
    obtain ⟨k, hkl, hk50, rfl, hd, hfr⟩ := hrel
    have HFR := Lib.hid hfr
    clear hfr
    by_cases hlt : k < cs.length
    · by_cases hlt5 : k < 50
      · have hst := doneD_step (D := D) hlt
        rcases HS.out with ⟨_, _, _, rfl⟩ | ⟨B, off, cap', hv, hall⟩
        · simp at hlt
        · obtain ⟨rfl, _, rfl⟩ : a = some ⟨B, off, none⟩ ∧ True ∧ cap = cap' := by simp only [Value.slice.injEq] at hv; exact ⟨hv.1, trivial, hv.2.2⟩
          have hca := (hall k cs[k] (List.getElem?_eq_getElem hlt)).kept HFR.out
          obtain ⟨E, hE⟩ : ∃ E, (cs.take k).foldl stepS D = E := ⟨_, rfl⟩
          rw [hE] at hd hst
          generalize cs[k] = c at *
          have g0 := hca.cells 0 _ rfl
          have g1 := hca.cells 1 _ rfl
          have g2 := hca.cells 2 _ rfl
          have g3 := hca.cells 3 _ rfl
          have g4 := hca.cells 4 _ rfl
          have g5 := hca.cells 5 _ rfl
          simp only [Nat.add_zero] at g0
          simp only [byteV] at g5
          have HD := Lib.hid hd
          have HCA := Lib.hid hca
          have HST := Lib.hid hst
          clear hall hv hca hst hE hd
          have hkI : (k : Int) < (cs.length : Int) := by omega
          have hk5 : (k : Int) < 50 := by omega
          go_wp2_with fail
          refine (small_k c _).mono ?_
          rintro e w1 ⟨rfl, hf1⟩
          obtain ⟨g, hg⟩ : ∃ g, wr.heap.size = g := ⟨_, rfl⟩
          have hblk := hf1.heap (heap_alloc_new wr _) (by simp)
          rw [hg] at hblk
          rw [hg]
          have HL : Hid (Fr [] wr w1) := (Fr.alloc1 wr _).trans hf1
          clear hf1 g0 g1 g2 g3 g4 g5 hg
          have HD1 := Lib.hid (HD.out.kept HL.out)
          have HF1 := Lib.hid (HFR.out.trans HL.out.nil)
          have HCB := Lib.hid (HCA.out.bytes.kept HL.out.nil)
          have HCK := Lib.hid (Slc.kept HCA.out.keeps HL.out.nil)
          have hbn := i64_bd HCA.out.nwf
          have HKL := Lib.hid HCA.out.klen
          have l0 := blk_cell hblk (i := 0)
          have l1 := blk_cell hblk (i := 1)
          have l2 := blk_cell hblk (i := 2)
          have l3 := blk_cell hblk (i := 3)
          have l4 := blk_cell hblk (i := 4)
          have l5 := blk_cell hblk (i := 5)
          simp only [List.getElem?_toArray, List.getElem?_cons_zero, List.getElem?_cons_succ] at l0 l1 l2 l3 l4 l5
          clear hblk HFR HD HCA HL
          by_cases hsm : c.small = true
          · rw [hsm]
            by_cases h1 : c.kind = 1
            · have HS1 : Hid (stepS E c = E) := Lib.hid (by unfold stepS stepD; rw [if_pos hsm]; simp [h1])
              rw [HS1.out] at HST
              rw [h1] at l0
              clear h1
              go_wp2_with fail
              by_cases hu : useE E c.n 0 = 0
              · refine (read_k c.n _ HD1.out hu).mono ?_
                rintro e w2 ⟨rfl, _, hf2, _⟩
                have HD2 := Lib.hid (HD1.out.kept hf2)
                have HF2 := Lib.hid (HF1.out.trans hf2.nil)
                clear hf2 hu
                go_wp2
                go_roundw
                case rel => exact ⟨k + 1, by omega, by omega, by go_num, by rw [HST.out]; exact HD2.out, HF2.out⟩
                case measure => simp [intOf]; omega
              · refine (read_no c.n _ _ HD1.out rfl hu).mono ?_
                rintro e w2 ⟨rfl, rfl⟩
                have HD2 := HD1
                have HF2 := HF1
                clear hu
                go_wp2
                go_roundw
                case rel => exact ⟨k + 1, by omega, by omega, by go_num, by rw [HST.out]; exact HD2.out, HF2.out⟩
                case measure => simp [intOf]; omega
            · by_cases h2 : c.kind = 2
              · have HS1 : Hid (stepS E c = writeD E c.n c.b) := Lib.hid (by unfold stepS stepD; rw [if_pos hsm]; simp [h2])
                rw [HS1.out] at HST
                rw [h2] at l0
                clear h1 h2
                go_wp2_with fail
                refine (write_k (b := b) (ml := ml) (mc := mc) c.n _ HD1.out HCB.out).mono ?_
                rintro e w2 ⟨rfl, hd2, hf2⟩
                have HD2 := Lib.hid hd2
                have HF2 := Lib.hid (HF1.out.trans (hf2.mono (by simp)))
                clear hd2 hf2
                go_wp2
                go_roundw
                case rel => exact ⟨k + 1, by omega, by omega, by go_num, by rw [HST.out]; exact HD2.out, HF2.out⟩
                case measure => simp [intOf]; omega
              · by_cases h3 : c.kind = 3
                · have HS1 : Hid (stepS E c = syncD E) := Lib.hid (by unfold stepS stepD; rw [if_pos hsm]; simp [h3])
                  rw [HS1.out] at HST
                  rw [h3] at l0
                  clear h1 h2 h3
                  go_wp2_with fail
                  refine (sync_k _ HD1.out).mono ?_
                  rintro e w2 ⟨rfl, hd2, hf2⟩
                  have HD2 := Lib.hid hd2
                  have HF2 := Lib.hid (HF1.out.trans hf2)
                  clear hd2 hf2
                  go_wp2
                  go_roundw
                  case rel => exact ⟨k + 1, by omega, by omega, by go_num, by rw [HST.out]; exact HD2.out, HF2.out⟩
                  case measure => simp [intOf]; omega
                · by_cases h4 : c.kind = 4
                  · have HS1 : Hid (stepS E c = E.fused c.n) := Lib.hid (by unfold stepS stepD; rw [if_pos hsm]; simp [h4])
                    rw [HS1.out] at HST
                    rw [h4] at l0
                    clear h1 h2 h3 h4
                    go_wp2_with fail
                    refine (fuse_k c.n _ HD1.out hbn.1 hbn.2).mono ?_
                    rintro e w2 ⟨rfl, hd2, hf2, _⟩
                    have HD2 := Lib.hid hd2
                    have HF2 := Lib.hid (HF1.out.trans (hf2.mono (by simp)))
                    clear hd2 hf2
                    go_wp2
                    go_roundw
                    case rel => exact ⟨k + 1, by omega, by omega, by go_num, by rw [HST.out]; exact HD2.out, HF2.out⟩
                    case measure => simp [intOf]; omega
                  · by_cases h5 : c.kind = 5
                    · have HS1 : Hid (stepS E c = restartD E c.keep c.n c.cut) := Lib.hid (by unfold stepS stepD; rw [if_pos hsm]; simp [h5])
                      rw [HS1.out] at HST
                      rw [h5] at l0
                      clear h1 h2 h3 h4 h5
                      go_wp2_with fail
                      refine (restart_k c.n c.cut _ HD1.out HCK.out (by have := HKL.out; unfold maxLen at this; omega)).mono ?_
                      rintro e w2 ⟨rfl, hd2, hf2⟩
                      have HD2 := Lib.hid hd2
                      have HF2 := Lib.hid (HF1.out.trans hf2)
                      clear hd2 hf2
                      go_wp2
                      go_roundw
                      case rel => exact ⟨k + 1, by omega, by omega, by go_num, by rw [HST.out]; exact HD2.out, HF2.out⟩
                      case measure => simp [intOf]; omega
                    · by_cases h6 : c.kind = 6
                      · rw [h6] at l0
                        by_cases hu : spoilE E c.n c.cut = 0
                        · have HS1 : Hid (stepS E c = spoilD E c.n c.cut c.x) := Lib.hid (by unfold stepS stepD; rw [if_pos hsm]; simp [h6, hu])
                          rw [HS1.out] at HST
                          clear h1 h2 h3 h4 h5 h6
                          go_wp2_with fail
                          refine (spoil_k c.n c.cut c.x _ HD1.out hu).mono ?_
                          rintro e w2 ⟨rfl, hd2, hf2⟩
                          have HD2 := Lib.hid hd2
                          have HF2 := Lib.hid (HF1.out.trans (hf2.mono (by simp)))
                          clear hd2 hf2 hu
                          go_wp2
                          go_roundw
                          case rel => exact ⟨k + 1, by omega, by omega, by go_num, by rw [HST.out]; exact HD2.out, HF2.out⟩
                          case measure => simp [intOf]; omega
                        · have HS1 : Hid (stepS E c = E) := Lib.hid (by unfold stepS stepD; rw [if_pos hsm]; simp [h6, hu])
                          rw [HS1.out] at HST
                          clear h1 h2 h3 h4 h5 h6
                          go_wp2_with fail
                          refine (spoil_no c.n c.cut _ c.x _ HD1.out rfl hu).mono ?_
                          rintro e w2 ⟨rfl, rfl⟩
                          have HD2 := HD1
                          have HF2 := HF1
                          clear hu
                          go_wp2
                          go_roundw
                          case rel => exact ⟨k + 1, by omega, by omega, by go_num, by rw [HST.out]; exact HD2.out, HF2.out⟩
                          case measure => simp [intOf]; omega
                      · have HS1 : Hid (stepS E c = E) := Lib.hid (by unfold stepS stepD; rw [if_pos hsm]; simp [h2, h3, h4, h5, h6])
                        rw [HS1.out] at HST
                        have HD2 := HD1
                        have HF2 := HF1
                        go_wp2
                        go_roundw
                        case rel => exact ⟨k + 1, by omega, by omega, by go_num, by rw [HST.out]; exact HD2.out, HF2.out⟩
                        case measure => simp [intOf]; omega
          · have hsf : c.small = false := by simpa using hsm
            have HS1 : Hid (stepS E c = E) := Lib.hid (by unfold stepS; rw [if_neg hsm])
            rw [HS1.out] at HST
            rw [hsf]
            have HD2 := HD1
            have HF2 := HF1
            clear hsm
            go_wp2
            go_roundw
            case rel => exact ⟨k + 1, by omega, by omega, by go_num, by rw [HST.out]; exact HD2.out, HF2.out⟩
            case measure => simp [intOf]; omega
      · have hk5 : ¬ (k : Int) < 50 := by omega
        have hkI : (k : Int) < (cs.length : Int) := by omega
        have HE : Hid (doneD D cs = (cs.take k).foldl stepS D) := Lib.hid (by unfold doneD; rw [show k = 50 by omega])
        have HD2 := Lib.hid hd
        clear hd
        go_wp2
        go_end0
        rw [HE.out]
        exact ⟨rfl, HD2.out, HFR.out⟩
    · have hkI : ¬ (k : Int) < (cs.length : Int) := by omega
      have HE : Hid (doneD D cs = (cs.take k).foldl stepS D) := Lib.hid (by unfold doneD; rw [List.take_of_length_le (by omega), List.take_of_length_le (by omega)])
      have HD2 := Lib.hid hd
      clear hd
      go_wp2
      go_end0
      rw [HE.out]
      exact ⟨rfl, HD2.out, HFR.out⟩
end Go.Proofs.Ytgockpichhgijaa
