/- a part. -/
import Derived.Test.YtgpohemcfgepeaaGreatTD
namespace Go.Proofs.YtgpohemcfgepeaaGreat
open Go.RowKit Go.MapKept
set_option maxRecDepth 100000 in
set_option maxHeartbeats 4000000 in
theorem TreeNil_walk (W : World) (s : ByteArray) (_ : s.size ≤ 9223372036854775807) :
    Calls Tryz.prog 6 #[.string s] W fun e w' => e = .returned (.bool true) ∧ Fr [] W w' := by
  have hn1 : ∀ w : World, (binOp BinOp.eql 50 (.pointer none) (.pointer none)).run Tryz.prog w = .ok (.bool true) w := fun _ => by kernel_rfl
  have hn2 : ∀ w : World, (binOp BinOp.eql 24 (.pointer none) (.pointer none)).run Tryz.prog w = .ok (.bool true) w := fun _ => by kernel_rfl
  have h0 : ByteArray.toList ⟨#[]⟩ = [] := by rw [ByteArray.toList_eq]
  go_enter Tryz.func6, Tryz.ntmps6
  go_wp2_with fail
  refine (awake8_k _).mono ?_
  rintro e w1 ⟨rfl, hf1⟩
  have HF1 := Lib.hid hf1
  clear hf1
  go_wp2_with fail
  refine (get_nil s _).mono ?_
  rintro e w2 ⟨rfl, hf⟩
  have HF2 := Lib.hid (HF1.out.trans hf)
  clear hf
  go_wp2_with fail
  refine (cut_nil s _).mono ?_
  rintro e w3 ⟨rfl, hf⟩
  have HF3 := Lib.hid (HF2.out.trans hf)
  clear hf
  go_wp2_with fail
  refine (of_nil _).mono ?_
  rintro e w' ⟨rfl, rfl⟩
  go_wp2_with fail
  refine (set_nil s s _).mono ?_
  rintro e w4 ⟨rfl, hf⟩
  have HF4 := Lib.hid (HF3.out.trans hf)
  clear hf
  go_wp2_with fail
  refine (keep_nil _).mono ?_
  rintro e w5 ⟨rfl, hf⟩
  have HF5 := Lib.hid (HF4.out.trans hf)
  clear hf
  go_wp2_with fail
  refine (tRoot_nil _).mono ?_
  rintro e w' ⟨rfl, rfl⟩
  go_wp2_with fail
  refine (tDepth_nil _).mono ?_
  rintro e w' ⟨rfl, rfl⟩
  go_wp2_with fail
  refine (tCount_nil _).mono ?_
  rintro e w' ⟨rfl, rfl⟩
  go_wp2_with fail
  refine (tStore_nil _).mono ?_
  rintro e w' ⟨rfl, rfl⟩
  go_wp2_with fail
  go_ret
  exact ⟨rfl, HF5.out⟩
end Go.Proofs.YtgpohemcfgepeaaGreat
