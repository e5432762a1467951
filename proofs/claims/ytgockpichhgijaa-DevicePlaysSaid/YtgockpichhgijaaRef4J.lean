/- The document's device: Lasting, walked. -/
import Derived.Test.YtgockpichhgijaaRef4I
namespace Go.Proofs.Ytgockpichhgijaa
open Go.RowKit Go.MapKept

theorem zero_b {S : List Nat} {v : Value} {l : List UInt8} {bz : Bool} (w : World) (h : Bytes S w v l) (hl : l.length = 1024) (hb : decide (l = zeros) = bz) :
    Calls Try.prog 47 #[v] w fun e w' => e = .returned (.bool bz) ∧ w = w' := by
  subst hb
  exact zero_k w h hl

set_option maxRecDepth 100000 in
set_option maxHeartbeats 300000 in
theorem rlasting_k {r LB CB IB : Nat} {D : Dv} (w : World) (h : RefAt w r LB CB IB D) :
    Calls Try.prog 40 #[refP r] w fun e w' => ∃ v, e = .returned v ∧ Kepts [] w' v (lastingL D) ∧ Fr [] w w' := by
  have HH := Lib.hid h
  clear h
  go_enter Try.func40, Try.ntmps40
  go_wp2_with fail
  go_loopw [3, 4] (fun v i wr => ∃ (k : Nat) (T : List KT), k ≤ D.n ∧ i = .int .i64 k ∧ RIn w wr false D.last k v T) (fun v i _ => D.n - (intOf i).toNat)
  case atStart => exact ⟨0, [], Nat.zero_le _, rfl, ⟨World.ownsRow_nil _ _ _ _, rfl, by simp, Fr.refl _ _⟩⟩
  case round =>
    obtain ⟨k, T, hkl, rfl, hin⟩ := hrel
    have hn4 := HH.out.fine.n4
    have hrf := HH.out.kept hin.fr
    obtain ⟨c0, c1, c2, _, _⟩ := hrf.cells
    by_cases hlt : k < D.n
    · have hkI : (k : Int) < (D.n : Int) := by omega
      obtain ⟨x, cx, hx⟩ := HH.out.atLast hlt
      have cx' := hin.fr.cellSome cx (by simp)
      obtain ⟨xa, xc, rfl, _⟩ := Slc.form hx
      have hlen : ((D.last k).getD zeros).length = 1024 := by
        cases hd : D.last k with
        | none => exact zeros_length
        | some l => exact (HH.out.fine.keysL _ _ hd).2.2
      have HL := Lib.hid hlen
      clear hlen
      have HXk := Lib.hid ((hx.mono (S' := []) (by simp)).kept hin.fr)
      by_cases hz : (D.last k).getD zeros = zeros
      · have hs : keepSel false D.last k = none := by
          unfold keepSel
          cases hd : D.last k with
          | none => rfl
          | some l => rw [hd] at hz; simp only [Option.getD_some] at hz; subst hz; simp
        have HNX := Lib.hid (hin.skip hs)
        have hdz : decide ((D.last k).getD zeros = zeros) = true := decide_eq_true hz
        clear hs hrf hin hx cx hz
        have HDZ := Lib.hid hdz
        clear hdz
        generalize (D.last k).getD zeros = l at *
        go_wp2_with fail
        refine (zero_b _ HXk.out HL.out HDZ.out).mono ?_
        rintro e w' ⟨rfl, rfl⟩
        go_wp2
        go_roundw
        case rel => exact ⟨k + 1, _, by omega, by go_num, HNX.out⟩
        case measure => simp [intOf]; omega
      · have hs : keepSel false D.last k = some ((k : Int), (D.last k).getD zeros) := by
          unfold keepSel
          cases hd : D.last k with
          | none => rw [hd] at hz; exact absurd rfl hz
          | some l => rw [hd] at hz; simp only [Option.getD_some] at hz ⊢; simp [hz]
        obtain ⟨v', w5, hap, hnx⟩ := hin.add (by omega) (hx.mono (S' := []) (by simp)) rfl hs 37 53
        have HAP := Lib.hid hap
        have HNX := Lib.hid hnx
        have hdz : decide ((D.last k).getD zeros = zeros) = false := decide_eq_false hz
        clear hap hnx hs hrf hin hx cx hz
        have HDZ := Lib.hid hdz
        clear hdz
        generalize (D.last k).getD zeros = l at *
        go_wp2_with fail
        refine (zero_b _ HXk.out HL.out HDZ.out).mono ?_
        rintro e w' ⟨rfl, rfl⟩
        go_wp2_with (at_builtin; refine wpList_append_run rfl _ _ _ rfl HAP.out ?_)
        go_roundw
        case rel => exact ⟨k + 1, _, by omega, by go_num, HNX.out⟩
        case measure => simp [intOf]; omega
    · have hkn : k = D.n := by omega
      subst hkn
      have HE := Lib.hid (And.intro hin.end hin.fr)
      clear hin hrf
      go_wp2
      go_ret
      exact ⟨_, rfl, HE.out⟩
end Go.Proofs.Ytgockpichhgijaa
