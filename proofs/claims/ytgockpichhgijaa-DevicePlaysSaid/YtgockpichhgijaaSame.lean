/- Same: two lists of sectors and their bytes. -/
import Derived.Test.YtgockpichhgijaaDevL
namespace Go.Proofs.Ytgockpichhgijaa
open Go.RowKit Go.MapKept

theorem ktCells_at {T : List KT} {i : Nat} (hi : i < T.length) : (ktCells T)[2 * i]? = some (.int .i64 T[i].1) ∧ (ktCells T)[2 * i + 1]? = some T[i].2.1 := by
  induction T generalizing i with
  | nil => simp at hi
  | cons t T ih =>
    cases i with
    | zero => exact ⟨rfl, rfl⟩
    | succ i =>
      have hi' : i < T.length := by simpa using hi
      have := ih hi'
      have e : ktCells (t :: T) = .int .i64 t.1 :: t.2.1 :: ktCells T := rfl
      rw [e, show 2 * (i + 1) = 2 * i + 1 + 1 from by omega]
      simpa using this

theorem Kepts.at {S : List Nat} {w : World} {B off cap n : Nat} {L : List (Int × List UInt8)} (h : Kepts S w (.slice (some ⟨B, off, none⟩) n cap) L) {i : Nat} (hi : i < L.length) :
    w.cell? ⟨B, off + i * 2, none⟩ = some (.int .i64 (L[i]).1) ∧ ∃ d, w.cell? ⟨B, off + i * 2 + 1, none⟩ = some d ∧ Bytes S w d (L[i]).2 := by
  obtain ⟨T, rfl, hs, hb⟩ := h
  have hi' : i < T.length := by simpa [ktL] using hi
  have e1 : (ktL T)[i] = (T[i].1, T[i].2.2) := by simp [ktL]
  obtain ⟨c1, c2⟩ := ktCells_at hi'
  rw [e1]
  rcases hs with ⟨_, _, _, h0, _⟩ | ⟨B', off', cap', h, hc, _, hcs⟩
  · omega
  · cases h
    refine ⟨?_, T[i].2.1, ?_, hb _ (List.getElem_mem hi')⟩
    · rw [Nat.mul_comm]; exact hcs _ _ c1
    · rw [Nat.mul_comm, Nat.add_assoc]; exact hcs _ _ c2

theorem fr_drewN (w : World) (n : Nat) : Fr [] w (w.drewN n) := ⟨rfl, rfl, rfl, Nat.le_refl _, fun _ _ _ => rfl⟩

set_option maxRecDepth 100000 in
set_option maxHeartbeats 4000000 in
theorem same_k {S S' : List Nat} {va vb : Value} {La Lb : List (Int × List UInt8)} (w : World) (ha : Kepts S w va La) (hb : Kepts S' w vb Lb) (hl : La.length ≤ 4096) :
    Calls Try.prog 18 #[va, vb] w fun e w' => e = .returned (.bool (decide (La = Lb))) ∧ Fr [] w w' := by
  obtain ⟨aa, ca, rfl, _⟩ := ha.form
  obtain ⟨ab, cb, rfl, _⟩ := hb.form
  by_cases hlen : La.length = Lb.length
  · have hne : ((La.length : Int) != (Lb.length : Int)) = false := by simp; omega
    have HLEN := Lib.hid hlen
    have HA := Lib.hid ha
    have HB := Lib.hid hb
    clear hlen ha hb
    go_enter Try.func18, Try.ntmps18
    go_wp2_with fail
    go_loopw [5] (fun i wr => ∃ k : Nat, k ≤ La.length ∧ i = .int .i64 k ∧ Fr [] w wr ∧ La.take k = Lb.take k) (fun i _ => La.length - (intOf i).toNat)
    case atStart => exact ⟨0, Nat.zero_le _, rfl, Fr.refl _ _, by simp⟩
    case round =>
      obtain ⟨k, hkl, rfl, hfr, htk⟩ := hrel
      by_cases hlt : k < La.length
      · have hltb : k < Lb.length := by have := HLEN.out; omega
        have hkn : (k : Int) < (La.length : Int) := by omega
        have hkm : (k : Int) < (Lb.length : Int) := by omega
        obtain ⟨Ba, oa, rfl⟩ : ∃ B off, aa = some ⟨B, off, none⟩ := by
          obtain ⟨T, hT, hs, _⟩ := HA.out
          rcases hs with ⟨_, _, _, h0, _⟩ | ⟨B, off, cap, h, _⟩
          · rw [← hT] at hlt; simp [ktL] at hlt; omega
          · simp only [Value.slice.injEq] at h; exact ⟨B, off, h.1⟩
        obtain ⟨Bb, ob, rfl⟩ : ∃ B off, ab = some ⟨B, off, none⟩ := by
          obtain ⟨T, hT, hs, _⟩ := HB.out
          rcases hs with ⟨_, _, _, h0, _⟩ | ⟨B, off, cap, h, _⟩
          · rw [← hT] at hltb; simp [ktL] at hltb; omega
          · simp only [Value.slice.injEq] at h; exact ⟨B, off, h.1⟩
        obtain ⟨a1, da, a2, hda⟩ := (HA.out.kept hfr.nil).at hlt
        obtain ⟨b1, db, b2, hdb⟩ := (HB.out.kept hfr.nil).at hltb
        have s1 := fun nq => run_string_bytes (P := Try.prog) (w := wr.drewN nq) (src := 23) (dst := 9) (e := 5) Try.underlying23 Try.underlying5 Try.underlying9 (by exact hda)
        have s2 := fun nq => run_string_bytes (P := Try.prog) (w := wr.drewN nq) (src := 23) (dst := 9) (e := 5) Try.underlying23 Try.underlying5 Try.underlying9 (by exact hdb)
        have hk0 : (0 : Int) ≤ (k : Int) := by omega
        have HFR := Lib.hid hfr
        have HTK := Lib.hid htk
        have hta := List.take_succ_eq_append_getElem hlt
        have htb := List.take_succ_eq_append_getElem hltb
        have HST : Hid (La[k] = Lb[k] → La.take (k + 1) = Lb.take (k + 1)) := fun h => by rw [hta, htb, HTK.out, h]
        have HNE : Hid (La[k] ≠ Lb[k] → decide (La = Lb) = false) := fun h => decide_eq_false (fun e => h (by subst e; rfl))
        clear hda hdb hta htb hfr htk
        generalize La[k] = xa at *
        generalize Lb[k] = xb at *
        obtain ⟨na, la⟩ := xa
        obtain ⟨nb, lb⟩ := xb
        simp only at a1 b1 s1 s2
        by_cases hs : na = nb
        · subst hs
          by_cases hd : la = lb
          · subst hd
            go_wp2_with fail
            go_quiet (fail)
            go_wp2_with fail
            exact ⟨⟨k + 1, by omega, by go_num, HFR.out.trans (fr_drewN _ _), HST.out (by simp)⟩, by simp [intOf]; omega⟩
          · have hdn : (la == lb) = false := by simp [hd]
            have hdm : (la != lb) = true := by simp [hd]
            have hdd : ¬ la = lb := hd
            have HFA := Lib.hid (HNE.out (fun e => hd (by injection e)))
            clear hd
            go_wp2_with fail
            go_quiet (fail)
            go_wp2_with fail
            go_ret
            exact ⟨by rw [HFA.out]; rfl, HFR.out.trans (fr_drewN _ _)⟩
        · have hsn : decide (na = nb) = false := decide_eq_false hs
          have hsb : (na != nb) = true := by simp [hs]
          have HFA := Lib.hid (HNE.out (fun e => hs (by injection e)))
          clear hs
          go_wp2_with fail
          go_quiet (fail)
          go_wp2_with fail
          go_ret
          exact ⟨by rw [HFA.out]; rfl, HFR.out.trans (fr_drewN _ _)⟩
      · have hTR : decide (La = Lb) = true := by
          have e1 : La.take k = La := List.take_of_length_le (by omega)
          have e2 : Lb.take k = Lb := List.take_of_length_le (by have := HLEN.out; omega)
          rw [e1, e2] at htk
          exact decide_eq_true htk
        have HTR := Lib.hid hTR
        have HFR := Lib.hid hfr
        clear hTR htk hfr
        go_wp2
        go_ret
        exact ⟨by rw [HTR.out]; rfl, HFR.out⟩
  · have hne : ((La.length : Int) != (Lb.length : Int)) = true := by simp; omega
    have HFA : Hid (decide (La = Lb) = false) := decide_eq_false (fun e => hlen (by rw [e]))
    clear hlen ha hb
    go_enter Try.func18, Try.ntmps18
    go_wp2
    go_ret
    exact ⟨by rw [HFA.out]; rfl, Fr.refl _ _⟩
end Go.Proofs.Ytgockpichhgijaa
