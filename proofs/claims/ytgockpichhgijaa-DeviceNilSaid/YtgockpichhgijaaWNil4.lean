/- DeviceNil, walked. -/
import Derived.Test.YtgockpichhgijaaAwk4
import Derived.Test.YtgockpichhgijaaOpen
namespace Go.Proofs.Ytgockpichhgijaa
open Go.RowKit Go.MapKept

set_option maxRecDepth 100000 in
set_option maxHeartbeats 2000000 in
theorem DeviceNil_walk (W : World) (a0 : Int) (_w0 : (Lit.int .i64 a0).wf = true) {v1 : Value} {l1 : List UInt8} (b1 : Bytes [] W v1 l1) (_m1 : l1.length ≤ maxLen) :
    Calls Try.prog 9 #[.int .i64 a0, v1] W fun e w' => e = .returned (.bool true) ∧ Fr [] W w' := by
  obtain ⟨a, cp, rfl, _⟩ := Slc.form b1
  clear b1 _m1 _w0
  go_enter Try.func9, Try.ntmps9
  go_wp2_with fail
  refine (awake_k _).mono ?_
  rintro e w1 ⟨rfl, hf⟩
  have HF := Lib.hid hf
  clear hf
  go_wp2_with (first
    | (go_at_call 14; refine (read_nil _ _).mono ?_; rintro e w' ⟨rfl, rfl⟩)
    | (go_at_call 16; refine (fuse_nil _ _).mono ?_; rintro e w' ⟨rfl, rfl⟩)
    | (go_at_call 15; refine (restart_nil _ _ _ _).mono ?_; rintro e w' ⟨rfl, rfl⟩)
    | (go_at_call 12; refine (write_nil _ _ _ _ _ _ rfl).mono ?_; rintro e w' ⟨rfl, rfl⟩)
    | (go_at_call 13; refine (sync_nil _).mono ?_; rintro e w' ⟨rfl, rfl⟩)
    | (go_at_call 26; refine (spoil_nil _ _ 1 _).mono ?_; rintro e w' ⟨rfl, rfl⟩)
    | (go_at_call 27; refine (sectors_nil _).mono ?_; rintro e w' ⟨rfl, rfl⟩)
    | (go_at_call 19; refine (lasting_nil _).mono ?_; rintro e w' ⟨rfl, rfl⟩)
    | (go_at_call 20; refine (cached_nil _).mono ?_; rintro e w' ⟨rfl, rfl⟩)
    | (go_at_call 17; refine (off_nil _).mono ?_; rintro e w' ⟨rfl, rfl⟩))
  go_ret
  exact ⟨rfl, HF.out⟩
end Go.Proofs.Ytgockpichhgijaa
