/- Write of a device. -/
import Derived.Test.YtgockpichhgijaaDevD
namespace Go.Proofs.Ytgockpichhgijaa
open Go.RowKit Go.MapKept

def writeE (D : Dv) (k : Int) (l : List UInt8) : Int := if useE D k l.length = 0 then actE D else useE D k l.length
def writeD (D : Dv) (k : Int) (l : List UInt8) : Dv := if useE D k l.length = 0 then (if actE D = 0 then { actD D with cache := upd (actD D).cache k (some (pad l)) } else actD D) else D

theorem actD_n (D : Dv) : (actD D).n = D.n := by unfold actD; split <;> (try split) <;> rfl
theorem actD_last (D : Dv) : (actD D).last = D.last := by unfold actD; split <;> (try split) <;> rfl
theorem actD_cache (D : Dv) : (actD D).cache = D.cache := by unfold actD; split <;> (try split) <;> rfl
theorem useE_zero {D : Dv} {k : Int} {n : Nat} (h : useE D k n = 0) : D.off = false ∧ 0 ≤ k ∧ k < D.n ∧ n ≤ 1024 := by
  unfold useE at h
  split at h
  · cases h
  · split at h
    · cases h
    · rename_i h1 h2
      exact ⟨by simpa using h1, by omega, by omega, by omega⟩

theorem upd_keys {n : Nat} {g : Int → Option (List UInt8)} (hg : ∀ k l, g k = some l → 0 ≤ k ∧ k < n ∧ l.length = 1024) {k : Int} {l : List UInt8} (h0 : 0 ≤ k) (h1 : k < n) (hl : l.length = 1024) :
    ∀ j m, upd g k (some l) j = some m → 0 ≤ j ∧ j < n ∧ m.length = 1024 := by
  intro j m hj
  by_cases e : j = k
  · subst e; rw [upd_same] at hj; cases hj; exact ⟨h0, h1, hl⟩
  · rw [upd_ne _ _ e] at hj; exact hg j m hj

theorem write_nil (k : Value) (n : Int) (a : Option Addr) (l c : Nat) (w : World) (hk : k = .int .i64 n) : Calls Try.prog 12 #[.pointer none, k, .slice a l c] w fun e w' => e = .returned (.int .i64 1) ∧ w = w' := by
  subst hk
  go_enter Try.func12, Try.ntmps12
  go_wp2_with (first | (go_at_call 28; refine (use_nil _ _ _ _ _).mono ?_; rintro e w' ⟨rfl, rfl⟩))
  go_ret
  exact ⟨rfl, rfl⟩

set_option maxRecDepth 100000 in
set_option maxHeartbeats 1000000 in
theorem write_k {b ml mc : Nat} {D : Dv} (k : Int) {v : Value} {l : List UInt8} (w : World) (h : DevAt w b ml mc D) (hv : Bytes [b, ml, mc] w v l) :
    Calls Try.prog 12 #[devP b, .int .i64 k, v] w fun e w' => e = .returned (.int .i64 (writeE D k l)) ∧ DevAt w' b ml mc (writeD D k l) ∧ Fr [b, mc] w w' := by
  obtain ⟨a, cp, rfl, _⟩ := Slc.form hv
  unfold writeE writeD
  by_cases hu : useE D k l.length = 0
  · rw [if_pos hu, if_pos hu]
    obtain ⟨_, hk0, hk1, hk2⟩ := useE_zero hu
    by_cases ha : actE D = 0
    · rw [if_pos ha, ha]
      have HU := Lib.hid hu
      have HA := Lib.hid ha
      have HH := Lib.hid h
      have HV := Lib.hid hv
      clear hu ha h hv
      go_enter Try.func12, Try.ntmps12
      go_wp2_with (first
        | (go_at_call 28; refine (use_k _ 0 _ _ _ _ HH.out HU.out).mono ?_; rintro e w' ⟨rfl, rfl⟩)
        | (go_at_call 29; refine (act_k 0 _ HH.out HA.out).mono ?_; rintro e w1 ⟨rfl, hd1, hf1, hs1⟩; have HD1 := Lib.hid hd1; have HF1 := Lib.hid hf1; have c2 := hd1.cells.2.2.1; clear hd1 hf1 hs1))
      have HV1 : Hid (Bytes [b, ml, mc] w1 (.slice a l.length cp) l) := HV.out.kept (HF1.out.mono (by simp))
      go_region_with (go_at_call 30; refine (whole_k (S := [b, ml, mc]) (l := l) _ (by exact HV1.out) hk2).mono ?_; rintro e w2 ⟨rfl, hbk0, hfr, hsz⟩; have hbk : Blk w2 w1.heap.size (pad l) := hbk0; clear hbk0; have c22 := (HD1.out.kept hfr.ofDrew).cells.2.2.1; obtain ⟨w3, hmu, hbm, hf3, hs3⟩ := (HD1.out.kept hfr.ofDrew).cacheM.put (by simp) k (Blk.bytes (S := [b, ml, mc]) (n := 1024) hbk (by have := HD1.out.lt; simp only [List.mem_cons, List.not_mem_nil, or_false, not_or]; omega) (pad_length hk2)); have HX := Lib.hid (And.intro hbk (And.intro hfr (And.intro hbm (And.intro hf3 hs3)))); clear hbk hfr hsz hbm hf3 hs3)
      all_goals
        go_wp2
        go_ret
        obtain ⟨_, hfr, hbm, hf3, _⟩ := HX.out
        have hd2 := HD1.out.kept hfr.ofDrew
        refine ⟨rfl, hd2.cacheIs hf3 hbm (upd_keys hd2.fine.keysC hk0 (by rw [actD_n]; exact hk1) (pad_length hk2)), ?_⟩
        exact ((HF1.out.mono (by simp)).trans (hfr.ofDrew.nil)).trans (hf3.mono (by simp))
    · rw [if_neg ha]
      generalize hr : actE D = r at *
      have hn : (r != 0) = true := by simp [ha]
      have HU := Lib.hid hu
      have HA := Lib.hid hr
      have HH := Lib.hid h
      clear hu ha h hv hr
      go_enter Try.func12, Try.ntmps12
      go_wp2_with (first
        | (go_at_call 28; refine (use_k _ 0 _ _ _ _ HH.out HU.out).mono ?_; rintro e w' ⟨rfl, rfl⟩)
        | (go_at_call 29; refine (act_k r _ HH.out HA.out).mono ?_; rintro e w1 ⟨rfl, hd1, hf1, hs1⟩))
      go_ret
      exact ⟨rfl, hd1, hf1.mono (by simp)⟩
  · rw [if_neg hu, if_neg hu]
    generalize hr : useE D k l.length = r at *
    have hn : (r != 0) = true := by simp [hu]
    have HU := Lib.hid hr
    have HH := Lib.hid h
    clear hu h hv hr
    go_enter Try.func12, Try.ntmps12
    go_wp2_with (first
      | (go_at_call 28; refine (use_k _ r _ _ _ _ HH.out HU.out).mono ?_; rintro e w' ⟨rfl, rfl⟩))
    go_ret
    exact ⟨rfl, HH.out, Fr.refl _ _⟩
end Go.Proofs.Ytgockpichhgijaa
