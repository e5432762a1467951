/- Sync and Spoil of a device. -/
import Derived.Test.YtgockpichhgijaaDevF
namespace Go.Proofs.Ytgockpichhgijaa
open Go.RowKit Go.MapKept

def syncE (D : Dv) : Int := if D.off then 40 else actE D
def syncD (D : Dv) : Dv := if D.off then D else if actE D = 0 then { actD D with last := joinM (actD D).cache (actD D).last, cache := fun _ => none } else actD D
theorem useE_0 {D : Dv} (h : D.fine) : useE D 0 0 = if D.off then 40 else 0 := by
  unfold useE
  have := h.n2
  by_cases ho : D.off = true
  · rw [if_pos ho, if_pos ho]
  · rw [if_neg ho, if_neg ho, if_neg (by omega)]

theorem sync_nil (w : World) : Calls Try.prog 13 #[.pointer none] w fun e w' => e = .returned (.int .i64 1) ∧ w = w' := by
  go_enter Try.func13, Try.ntmps13
  go_wp2_with (first | (go_at_call 28; refine (use_nil _ _ _ _ _).mono ?_; rintro e w' ⟨rfl, rfl⟩))
  go_ret
  exact ⟨rfl, rfl⟩

set_option maxRecDepth 100000 in
set_option maxHeartbeats 1000000 in
theorem sync_k {b ml mc : Nat} {D : Dv} (w : World) (h : DevAt w b ml mc D) :
    Calls Try.prog 13 #[devP b] w fun e w' => e = .returned (.int .i64 (syncE D)) ∧ DevAt w' b ml mc (syncD D) ∧ Fr [b, ml, mc] w w' := by
  have h0 := useE_0 h.fine
  unfold syncE syncD
  by_cases ho : D.off = true
  · rw [if_pos ho, if_pos ho]
    rw [if_pos ho] at h0
    have HU := Lib.hid h0
    have HH := Lib.hid h
    clear ho h h0
    go_enter Try.func13, Try.ntmps13
    go_wp2_with (first | (go_at_call 28; refine (use_k _ 40 _ _ _ _ HH.out HU.out).mono ?_; rintro e w' ⟨rfl, rfl⟩))
    go_ret
    exact ⟨rfl, HH.out, Fr.refl _ _⟩
  · rw [if_neg ho, if_neg ho]
    rw [if_neg ho] at h0
    by_cases ha : actE D = 0
    · rw [if_pos ha, ha]
      have HU := Lib.hid h0
      have HA := Lib.hid ha
      have HH := Lib.hid h
      clear h0 ha h ho
      go_enter Try.func13, Try.ntmps13
      go_wp2_with (first
        | (go_at_call 28; refine (use_k _ 0 _ _ _ _ HH.out HU.out).mono ?_; rintro e w' ⟨rfl, rfl⟩)
        | (go_at_call 29; refine (act_k 0 _ HH.out HA.out).mono ?_; rintro e w1 ⟨rfl, hd1, hf1, hs1⟩; have HD1 := Lib.hid hd1; have HF1 := Lib.hid hf1; have c1 := hd1.cells.2.1; have c2 := hd1.cells.2.2.1; clear hd1 hf1 hs1))
      go_region_with (go_at_call 31; refine (maps_copy_k (b := b) (D := actD D) _ (by exact HD1.out.drew)).mono ?_; rintro e w2 ⟨rfl, hd2, hf2⟩; have HD2 := Lib.hid hd2; have HF2 := Lib.hid hf2.ofDrew; have c22 := hd2.cells.2.2.1; clear hf2; obtain ⟨w3, hcl, hbm, hf3, hs3⟩ := hd2.cacheM.clr 0; have HX := Lib.hid (And.intro hbm hf3); clear hbm hf3 hs3 hd2)
      all_goals
        go_wp2
        go_ret
        obtain ⟨hbm, hf3⟩ := HX.out
        refine ⟨rfl, HD2.out.cacheIs hf3 hbm (fun _ _ h => by cases h), ?_⟩
        exact ((HF1.out.mono (by simp)).trans ((HF2.out : Fr [ml] w1 w2).mono (by simp))).trans (hf3.mono (by simp))
    · rw [if_neg ha]
      generalize hr : actE D = r at *
      have hn : (r != 0) = true := by simp [ha]
      have HU := Lib.hid h0
      have HA := Lib.hid hr
      have HH := Lib.hid h
      clear h0 ha h hr ho
      go_enter Try.func13, Try.ntmps13
      go_wp2_with (first
        | (go_at_call 28; refine (use_k _ 0 _ _ _ _ HH.out HU.out).mono ?_; rintro e w' ⟨rfl, rfl⟩)
        | (go_at_call 29; refine (act_k r _ HH.out HA.out).mono ?_; rintro e w1 ⟨rfl, hd1, hf1, hs1⟩))
      go_ret
      exact ⟨rfl, hd1, hf1.mono (by simp)⟩

/-! ### Spoil -/
def spoilE (D : Dv) (k a : Int) : Int := if k < 0 ∨ D.n ≤ k then 41 else if a < 0 ∨ 1024 ≤ a then 1 else 0
def spoiled (l : List UInt8) (a : Int) (by' : UInt8) : List UInt8 := l.set a.toNat (l.getD a.toNat 0 ^^^ by')
def spoilD (D : Dv) (k a : Int) (by' : UInt8) : Dv :=
  if spoilE D k a = 0 then (match D.cache k with
    | some l => { D with cache := upd D.cache k (some (spoiled l a by')) }
    | none => { D with last := upd D.last k (some (spoiled ((D.last k).getD zeros) a by')) }) else D

theorem spoil_nil (n a : Int) (x : UInt8) (w : World) : Calls Try.prog 26 #[.pointer none, .int .i64 n, .int .i64 a, byteV x] w fun e w' => e = .returned (.int .i64 1) ∧ w = w' := by
  unfold byteV
  go_enter Try.func26, Try.ntmps26
  go_wp2
  go_ret
  exact ⟨rfl, rfl⟩

set_option maxRecDepth 100000 in
set_option maxHeartbeats 1000000 in
theorem spoil_no {b ml mc : Nat} {D : Dv} (k a r : Int) (x : UInt8) (w : World) (h : DevAt w b ml mc D) (hr : spoilE D k a = r) (hr0 : r ≠ 0) :
    Calls Try.prog 26 #[devP b, .int .i64 k, .int .i64 a, byteV x] w fun e w' => e = .returned (.int .i64 r) ∧ w = w' := by
  obtain ⟨c0, _, _, _, _⟩ := h.cells
  unfold spoilE at hr
  unfold byteV
  clear h
  generalize D.n = n at *
  by_cases h1 : k < 0
  · rw [if_pos (.inl h1)] at hr; subst hr; clear hr0
    go_enter Try.func26, Try.ntmps26
    go_wp2
    go_ret
    exact ⟨rfl, rfl⟩
  · by_cases h2 : (n : Int) ≤ k
    · rw [if_pos (.inr h2)] at hr; subst hr; clear hr0
      go_enter Try.func26, Try.ntmps26
      go_wp2
      go_ret
      exact ⟨rfl, rfl⟩
    · rw [if_neg (by omega)] at hr
      by_cases h3 : a < 0
      · rw [if_pos (.inl h3)] at hr; subst hr; clear hr0
        go_enter Try.func26, Try.ntmps26
        go_wp2
        go_ret
        exact ⟨rfl, rfl⟩
      · by_cases h4 : 1024 ≤ a
        · rw [if_pos (.inr h4)] at hr; subst hr; clear hr0
          go_enter Try.func26, Try.ntmps26
          go_wp2
          go_ret
          exact ⟨rfl, rfl⟩
        · rw [if_neg (by omega)] at hr
          exact absurd hr.symm hr0
end Go.Proofs.Ytgockpichhgijaa
