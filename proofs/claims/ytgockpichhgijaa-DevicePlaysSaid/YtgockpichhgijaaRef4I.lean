/- The document's device: Cached and Lasting, walked. -/
import Derived.Test.YtgockpichhgijaaRef4H
namespace Go.Proofs.Ytgockpichhgijaa
open Go.RowKit Go.MapKept

set_option maxRecDepth 100000 in
set_option maxHeartbeats 400000 in
theorem rcached_k {r LB CB IB : Nat} {D : Dv} (w : World) (h : RefAt w r LB CB IB D) :
    Calls Try.prog 41 #[refP r] w fun e w' => ∃ v, e = .returned v ∧ Kepts [] w' v (cachedL D) ∧ Fr [] w w' := by
  have HH := Lib.hid h
  clear h
  go_enter Try.func41, Try.ntmps41
  go_wp2_with fail
  go_loopw [3, 4] (fun v i wr => ∃ (k : Nat) (T : List KT), k ≤ D.n ∧ i = .int .i64 k ∧ RIn w wr true D.cache k v T) (fun v i _ => D.n - (intOf i).toNat)
  case atStart => exact ⟨0, [], Nat.zero_le _, rfl, ⟨World.ownsRow_nil _ _ _ _, rfl, by simp, Fr.refl _ _⟩⟩
  case round =>
    obtain ⟨k, T, hkl, rfl, hin⟩ := hrel
    have hn4 := HH.out.fine.n4
    have hrf := HH.out.kept hin.fr
    obtain ⟨c0, c1, c2, _, _⟩ := hrf.cells
    by_cases hlt : k < D.n
    · have hkI : (k : Int) < (D.n : Int) := by omega
      have cI := hrf.atIs hlt
      cases hc : D.cache k with
      | some l =>
        obtain ⟨x, cx, hx⟩ := HH.out.atCache hlt hc
        have cx' := hin.fr.cellSome cx (by simp)
        obtain ⟨xa, xc, rfl, _⟩ := Slc.form hx
        rw [hc] at cI
        simp only [Option.isSome_some] at cI
        obtain ⟨v', w5, hap, hnx⟩ := hin.add (by omega) (hx.mono (S' := []) (by simp)) rfl (by unfold keepSel; rw [hc]; rfl) 37 53
        have HAP := Lib.hid hap
        have HNX := Lib.hid hnx
        clear hap hnx hc hx cx hrf hin
        go_wp2_with (at_builtin; refine wpList_append_run rfl _ _ _ rfl HAP.out ?_)
        go_roundw
        case rel => exact ⟨k + 1, _, by omega, by go_num, HNX.out⟩
        case measure => simp [intOf]; omega
      | none =>
        rw [hc] at cI
        simp only [Option.isSome_none] at cI
        have HNX := Lib.hid (hin.skip (by unfold keepSel; rw [hc]))
        clear hc hrf hin
        go_wp2
        go_roundw
        case rel => exact ⟨k + 1, _, by omega, by go_num, HNX.out⟩
        case measure => simp [intOf]; omega
    · have hkn : k = D.n := by omega
      subst hkn
      have HE := Lib.hid (And.intro hin.end hin.fr)
      clear hin hrf
      go_wp2
      go_ret
      exact ⟨_, rfl, HE.out⟩

end Go.Proofs.Ytgockpichhgijaa
