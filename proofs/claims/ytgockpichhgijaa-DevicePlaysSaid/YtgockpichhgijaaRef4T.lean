/- Shows: a device and the document's one show the same. -/
import Derived.Test.YtgockpichhgijaaRef4S
import Derived.Test.YtgockpichhgijaaSame
import Derived.BigQuiet
namespace Go.Proofs.Ytgockpichhgijaa
open Go.RowKit Go.MapKept

theorem quietL {P : Program} {f : FuncId} {args : Array Value} {w : World} {n : Nat} {v : Value} (h : Calls P f args (w.drewN n) fun e w' => e = .returned v ∧ w.drewN n = w') :
    Calls P f args (w.drewN n) fun e w'' => e = .returned v ∧ ∃ m, w'' = w.drewN m := h.mono fun _ _ ⟨he, hm⟩ => ⟨he, n, hm.symm⟩

set_option maxRecDepth 100000 in
set_option maxHeartbeats 2000000 in
theorem shows_k {b ml mc r LB CB IB : Nat} {D : Dv} (w : World) (h : Two w b ml mc r LB CB IB D) :
    Calls Try.prog 24 #[devP b, refP r] w fun e w' => e = .returned (.bool true) ∧ Fr [] w w' := by
  have HT := Lib.hid h
  clear h
  go_enter Try.func24, Try.ntmps24
  go_wp2_with fail
  refine (lasting_k _ HT.out.dev).mono ?_
  rintro e w1 ⟨v1, rfl, hk1, hf1⟩
  have HT1 := Lib.hid (HT.out.kept hf1)
  have HK1 := Lib.hid (hk1 [] (by simp))
  have HF1 := Lib.hid hf1
  clear hk1 hf1
  go_wp2_with fail
  refine (rlasting_k _ HT1.out.ref).mono ?_
  rintro e w2 ⟨v2, rfl, hk2, hf2⟩
  have HT2 := Lib.hid (HT1.out.kept hf2)
  have HK1' := Lib.hid (HK1.out.kept hf2)
  have HK2 := Lib.hid hk2
  have HF2 := Lib.hid (HF1.out.trans hf2)
  clear hk2 hf2
  go_wp2_with fail
  refine (same_k _ HK1'.out HK2.out (keptL_length _ _ _ HT.out.dev.fine.n4)).mono ?_
  rintro e w3 ⟨rfl, hf3⟩
  rw [show decide (lastingL D = lastingL D) = true from decide_eq_true rfl]
  have HT3 := Lib.hid (HT2.out.kept hf3)
  have HF3 := Lib.hid (HF2.out.trans hf3)
  clear hf3 HK1 HK2 HK1'
  go_wp2_with fail
  refine (cached_k _ HT3.out.dev).mono ?_
  rintro e w4 ⟨v4, rfl, hk4, hf4⟩
  have HT4 := Lib.hid (HT3.out.kept hf4)
  have HK4 := Lib.hid (hk4 [] (by simp))
  have HF4 := Lib.hid (HF3.out.trans hf4)
  clear hk4 hf4
  go_wp2_with fail
  refine (rcached_k _ HT4.out.ref).mono ?_
  rintro e w5 ⟨v5, rfl, hk5, hf5⟩
  have HT5 := Lib.hid (HT4.out.kept hf5)
  have HK4' := Lib.hid (HK4.out.kept hf5)
  have HK5 := Lib.hid hk5
  have HF5 := Lib.hid (HF4.out.trans hf5)
  clear hk5 hf5
  go_wp2_with fail
  refine (same_k _ HK4'.out HK5.out (keptL_length _ _ _ HT.out.dev.fine.n4)).mono ?_
  rintro e w6 ⟨rfl, hf6⟩
  rw [show decide (cachedL D = cachedL D) = true from decide_eq_true rfl]
  have HT6 := Lib.hid (HT5.out.kept hf6)
  have HF6 := Lib.hid (HF5.out.trans hf6)
  clear hf6 HK4 HK5 HK4'
  have c0 := HT6.out.ref.cells.1
  have c3 := HT6.out.ref.cells.2.2.2.1
  go_wp2_with fail
  go_quiet (first
    | (go_at_call 17; exact quietL (off_k _ (HT6.out.kept (fr_drewN _ _)).dev))
    | (go_at_call 27; exact quietL (sectors_k _ (HT6.out.kept (fr_drewN _ _)).dev)))
  go_wp2_with fail
  go_ret
  exact ⟨rfl, HF6.out.trans (fr_drewN _ _)⟩
end Go.Proofs.Ytgockpichhgijaa
