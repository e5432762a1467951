/- The document's device: Sync, walked. -/
import Derived.Test.YtgockpichhgijaaRef4F
namespace Go.Proofs.Ytgockpichhgijaa
open Go.RowKit Go.MapKept

set_option maxRecDepth 100000 in
set_option maxHeartbeats 4000000 in
theorem rsync_k {r LB CB IB : Nat} {D : Dv} (w : World) (h : RefAt w r LB CB IB D) :
    Calls Try.prog 36 #[refP r] w fun e w' => e = .returned (.int .i64 (syncE D)) ∧ RefAt w' r LB CB IB (syncD D) ∧ Fr [r, LB, IB] w w' := by
  obtain ⟨c0, c1, c2, c3, c4⟩ := h.cells
  by_cases ho : D.off = true
  · have hE : syncE D = 40 := by unfold syncE; rw [if_pos ho]
    have hD : syncD D = D := by unfold syncD; rw [if_pos ho]
    rw [ho] at c3
    rw [hE, hD]
    have HH := Lib.hid h
    clear hE hD ho h
    go_enter Try.func36, Try.ntmps36
    go_wp2
    go_ret
    exact ⟨rfl, HH.out, Fr.refl _ _⟩
  · have ho' : D.off = false := by simpa using ho
    rw [ho'] at c3
    have hE : syncE D = actE D := by unfold syncE; rw [if_neg ho]
    have hD : syncD D = if actE D = 0 then { actD D with last := joinM (actD D).cache (actD D).last, cache := fun _ => none } else actD D := by unfold syncD; rw [if_neg ho]
    have HH := Lib.hid h
    have HSE := Lib.hid (And.intro hE hD)
    clear hE hD ho ho' h
    go_enter Try.func36, Try.ntmps36
    go_wp2_with fail
    refine (ract_k (r := r) (LB := LB) (CB := CB) (IB := IB) _ HH.out).mono ?_
    rintro e w1 ⟨rfl, hr1, hf1⟩
    have HF1 := Lib.hid hf1
    by_cases ha : actE D = 0
    · have HA := Lib.hid (And.intro (HSE.out.1.trans ha) (HSE.out.2.trans (if_pos ha)))
      rw [show decide (actE D = 0) = true from decide_eq_true ha]
      obtain ⟨E, hE⟩ : ∃ E, actD D = E := ⟨_, rfl⟩
      rw [hE] at hr1
      have HE := Lib.hid hE
      have HR1 := Lib.hid hr1
      clear hf1 ha hE hr1 c0 c1 c2 c3 c4 HH
      go_wp2_with fail
      go_loopw [4] (fun i wr => ∃ k : Nat, k ≤ E.n ∧ i = .int .i64 k ∧ RefAt wr r LB CB IB (keepAll E (upto k)) ∧ Fr [LB, IB] w1 wr) (fun i _ => E.n - (intOf i).toNat)
      case atStart => exact ⟨0, Nat.zero_le _, rfl, HR1.out, Fr.refl _ _⟩
      case round =>
        obtain ⟨k, hkl, rfl, hrf, hfr⟩ := hrel
        have hst : keepAll E (upto (k + 1)) = keepStep (keepAll E (upto k)) k := by rw [upto_succ, keepAll_snoc]
        have hn : (keepAll E (upto k)).n = E.n := keepAll_n _ _
        have hn4 : E.n ≤ 4096 := HR1.out.fine.n4
        by_cases hlt : k < E.n
        · generalize keepAll E (upto k) = F at *
          obtain ⟨c0, c1, c2, _, _⟩ := hrf.cells
          rw [hn] at c0 c1 c2
          have hkI : (k : Int) < (E.n : Int) := by omega
          have cI := hrf.atIs (k := k) (by rw [hn]; exact hlt)
          have fI := blk_free hrf.isB k
          obtain ⟨VL, hVL, _⟩ := hrf.lastB
          have cL := blk_cell hVL k
          rw [rowOf_get (by rw [hn]; exact hlt)] at cL
          have fL := blk_free hVL k
          have hne : LB ≠ IB := hrf.nes.2.2.2.2.1
          have hne2 : IB ≠ LB := Ne.symm hne
          have hrL : r ≠ LB := hrf.nes.1
          cases hc : F.cache k with
          | some l =>
            obtain ⟨v, cv, hb⟩ := hrf.atCache (by rw [hn]; exact hlt) hc
            have hl := (hrf.fine.keysC _ _ hc).2.2
            rw [hc] at cI
            simp only [Option.isSome_some] at cI
            have hks : keepStep F k = { F with last := upd F.last k (some l), cache := upd F.cache k none } := by unfold keepStep; rw [hc]
            have hfin := hrf.toLast (by rw [hn]; exact hlt) (Fr.refl [] wr) hb hl
            rw [← hks, ← hst] at hfin
            have HFIN := Lib.hid hfin
            have HFR := Lib.hid hfr
            obtain ⟨va, vc, rfl, _⟩ := Slc.form hb
            clear hfin hks hst hc hb hl hrf hfr hVL
            go_wp2_with fail
            go_region
            go_wp2
            go_roundw
            case rel => exact ⟨k + 1, by omega, by go_num, HFIN.out.1.drew, (HFR.out.trans HFIN.out.2).drew⟩
            case measure => simp [intOf]; omega
          | none =>
            rw [hc] at cI
            simp only [Option.isSome_none] at cI
            have hks : keepStep F k = F := by unfold keepStep; rw [hc]
            have hfin := hrf.toNone k
            rw [upd_none hc] at hfin
            have hF : ({ F with cache := F.cache } : Dv) = F := rfl
            rw [hF, ← hks, ← hst] at hfin
            have HFIN := Lib.hid hfin
            have HFR := Lib.hid hfr
            clear hfin hks hst hc hrf hfr hVL hF
            go_wp2
            go_roundw
            case rel => exact ⟨k + 1, by omega, by go_num, HFIN.out.1, HFR.out.trans HFIN.out.2⟩
            case measure => simp [intOf]; omega
        · have hkn : k = E.n := by omega
          subst hkn
          obtain ⟨c0, _, _, _, _⟩ := hrf.cells
          rw [hn] at c0
          rw [sync_all HR1.out.fine] at hrf
          have HRF := Lib.hid hrf
          have HFR := Lib.hid hfr
          clear hrf hfr hst hn
          go_wp2
          go_ret
          rw [HA.out.1, HA.out.2, HE.out]
          exact ⟨rfl, HRF.out, (HF1.out.mono (fun x hx _ => by simp only [List.mem_cons, List.not_mem_nil, or_false] at hx ⊢; omega)).trans (HFR.out.mono (fun x hx _ => by simp only [List.mem_cons, List.not_mem_nil, or_false] at hx ⊢; omega))⟩
    · rw [show decide (actE D = 0) = false from decide_eq_false ha]
      have hE : actE D = 40 := by unfold actE at ha ⊢; split at ha <;> simp_all
      have HA := Lib.hid (And.intro (HSE.out.1.trans hE) (HSE.out.2.trans (if_neg ha)))
      have HR1 := Lib.hid hr1
      clear hr1 hf1 ha hE c0 c1 c2 c3 c4 HH
      go_wp2
      go_ret
      rw [HA.out.1, HA.out.2]
      exact ⟨rfl, HR1.out, HF1.out.mono (fun x hx _ => by simp only [List.mem_cons, List.not_mem_nil, or_false] at hx ⊢; omega)⟩
end Go.Proofs.Ytgockpichhgijaa
