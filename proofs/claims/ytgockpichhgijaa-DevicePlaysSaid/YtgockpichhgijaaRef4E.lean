/- The document's device: Write, walked. -/
import Derived.Test.YtgockpichhgijaaRef4D
namespace Go.Proofs.Ytgockpichhgijaa
open Go.RowKit Go.MapKept

set_option maxRecDepth 100000 in
set_option maxHeartbeats 4000000 in
theorem rwrite_k {r LB CB IB : Nat} {D : Dv} (k : Int) {v : Value} {l : List UInt8} (w : World) (h : RefAt w r LB CB IB D) (hv : Bytes [r, LB, CB, IB] w v l) :
    Calls Try.prog 35 #[refP r, .int .i64 k, v] w fun e w' => e = .returned (.int .i64 (writeE D k l)) ∧ RefAt w' r LB CB IB (writeD D k l) ∧ Fr [r, CB, IB] w w' := by
  obtain ⟨va, vc, rfl, _⟩ := Slc.form hv
  obtain ⟨c0, c1, c2, c3, c4⟩ := h.cells
  by_cases ho : D.off = true
  · have hu : useE D k l.length = 40 := by unfold useE; rw [if_pos ho]
    have hE : writeE D k l = 40 := by unfold writeE; rw [hu, if_neg (by omega)]
    have hD : writeD D k l = D := by unfold writeD; rw [hu, if_neg (by omega)]
    rw [ho] at c3
    rw [hE, hD]
    have HH := Lib.hid h
    clear hE hD hu ho h hv
    go_enter Try.func35, Try.ntmps35
    go_wp2
    go_ret
    exact ⟨rfl, HH.out, Fr.refl _ _⟩
  · have ho' : D.off = false := by simpa using ho
    rw [ho'] at c3
    by_cases hk : k < 0 ∨ (D.n : Int) ≤ k ∨ 1024 < l.length
    · have hu : useE D k l.length = 41 := by unfold useE; rw [if_neg ho, if_pos hk]
      have hE : writeE D k l = 41 := by unfold writeE; rw [hu, if_neg (by omega)]
      have hD : writeD D k l = D := by unfold writeD; rw [hu, if_neg (by omega)]
      rw [hE, hD]
      have HH := Lib.hid h
      clear hE hD hu ho ho' h hv
      go_enter Try.func35, Try.ntmps35
      by_cases h0 : k < 0
      · go_wp2
        go_ret
        exact ⟨rfl, HH.out, Fr.refl _ _⟩
      · by_cases h1 : (D.n : Int) ≤ k
        · go_wp2
          go_ret
          exact ⟨rfl, HH.out, Fr.refl _ _⟩
        · have h2 : 1024 < (l.length : Int) := by omega
          go_wp2
          go_ret
          exact ⟨rfl, HH.out, Fr.refl _ _⟩
    · obtain ⟨j, rfl⟩ := Int.eq_ofNat_of_zero_le (show 0 ≤ k by omega)
      have hj : j < D.n := by omega
      have hl : l.length ≤ 1024 := by omega
      have hu : useE D j l.length = 0 := by unfold useE; rw [if_neg ho, if_neg hk]
      have hjI : (j : Int) < (D.n : Int) := by omega
      have hjJ : ¬ (D.n : Int) ≤ (j : Int) := by omega
      have hlI : ¬ 1024 < (l.length : Int) := by omega
      have HH := Lib.hid h
      have HV := Lib.hid hv
      clear h hv ho ho' hk
      go_enter Try.func35, Try.ntmps35
      go_wp2_with fail
      refine (ract_k (r := r) (LB := LB) (CB := CB) (IB := IB) _ HH.out).mono ?_
      rintro e w1 ⟨rfl, hr1, hf1⟩
      by_cases ha : actE D = 0
      · have hE : writeE D j l = 0 := by unfold writeE; rw [if_pos hu, ha]
        have hD : writeD D j l = { actD D with cache := upd (actD D).cache j (some (pad l)) } := by unfold writeD; rw [if_pos hu, if_pos ha]
        have hn : (actD D).n = D.n := actD_n D
        rw [show decide (actE D = 0) = true from decide_eq_true ha]
        obtain ⟨_, d1, d2, _, _⟩ := hr1.cells
        rw [hn] at d1 d2
        have d1a := (Fr.alloc1 w1 (.cells #[] 5)).cellSome d1 (by simp)
        have hr1d := hr1.drew
        obtain ⟨v1, w2, v2, w3, hra, hrb, hpad, hfa, hfb⟩ := padded_run (w := w1.drew) hl (((HV.out.kept (hf1.mono (by simp))).kept (Fr.refl _ w1).drew).mono (S' := []) (by simp)) 23 23
        have hpad2 := hpad [r, LB, CB, IB] (by have := hr1d.lt; intro x hx; simp only [List.mem_cons, List.not_mem_nil, or_false] at hx; omega)
        obtain ⟨p2, q2, rfl, _⟩ := Slc.form hpad2
        have hwr := hr1d.wrote (k := j) (by rw [hn]; exact hj) hfb hpad (pad_length hl)
        have h3 := hr1d.kept hfb
        have h2' := hr1d.kept hfa
        obtain ⟨_, d12, _, _, _⟩ := h2'.cells
        obtain ⟨_, d13, d23, _, _⟩ := h3.cells
        rw [hn] at d12 d13 d23
        obtain ⟨VC, hVC, _⟩ := h3.cacheB
        have cV := blk_cell hVC j
        rw [rowOf_get (by rw [hn]; exact hj)] at cV
        have fV := blk_free hVC j
        have cI := h3.atIs (k := j) (by rw [hn]; exact hj)
        have fI := blk_free h3.isB j
        have hCI : CB ≠ IB := h3.nes.2.2.2.2.2
        have hIC : IB ≠ CB := Ne.symm hCI
        have hrC : r ≠ CB := h3.nes.2.1
        have hrlt := h3.lt
        have HRA := Lib.hid hra
        have HRB := Lib.hid hrb
        have HWR := Lib.hid hwr
        have HF1 := Lib.hid hf1
        have hsub : IntKind.i64.wrap (1024 - (l.length : Int)) = 1024 - (l.length : Int) := by rw [IntKind.wrap_i64]; omega
        rw [pad_length hl] at HRB HWR
        have HED := Lib.hid (And.intro hE hD)
        clear hE hD hra hrb hwr hf1 hpad hpad2 hfa hfb hr1 hr1d h3 h2' hVC HH HV c0 c1 c2 c3 c4 hn ha hu
        go_wp2_with fail
        go_region_law (first | (refine step_append_run2 rfl _ _ _ _ rfl rfl rfl HRA.out ?_) | (refine step_append_run2 rfl _ _ _ _ rfl rfl rfl HRB.out ?_))
        all_goals
          go_wp2
          go_ret
          exact ⟨by rw [HED.out.1]; rfl, by rw [HED.out.2]; exact HWR.out.1, (HF1.out.mono (fun x hx _ => by simp only [List.mem_cons, List.not_mem_nil, or_false] at hx ⊢; omega)).trans (HWR.out.2.ofDrew.mono (fun x hx _ => by simp only [List.mem_cons, List.not_mem_nil, or_false] at hx ⊢; omega))⟩
      · have hE : writeE D j l = 40 := by unfold writeE; rw [if_pos hu]; unfold actE at ha ⊢; split at ha <;> simp_all
        have hD : writeD D j l = actD D := by unfold writeD; rw [if_pos hu, if_neg ha]
        rw [show decide (actE D = 0) = false from decide_eq_false ha]
        have HED := Lib.hid (And.intro hE hD)
        have HR1 := Lib.hid (And.intro hr1 hf1)
        clear hE hD hr1 hf1 ha hu HH HV c0 c1 c2 c3 c4
        go_wp2
        go_ret
        exact ⟨by rw [HED.out.1]; rfl, by rw [HED.out.2]; exact HR1.out.1, HR1.out.2.mono (fun x hx _ => by simp only [List.mem_cons, List.not_mem_nil, or_false] at hx ⊢; omega)⟩
end Go.Proofs.Ytgockpichhgijaa
