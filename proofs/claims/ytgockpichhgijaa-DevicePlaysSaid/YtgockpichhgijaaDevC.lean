/- New, Fuse, Off, Sectors, Read, Write of a device. -/
import Derived.Test.YtgockpichhgijaaDevB
namespace Go.Proofs.Ytgockpichhgijaa
open Go.RowKit Go.MapKept

def Dv.new (n : Nat) : Dv := { n, last := fun _ => none, cache := fun _ => none, off := false, fuse := -1 }

theorem BM.made {S : List Nat} {w : World} {r : Nat} (h : MapG (Value.int .i64) w r (fun _ => none)) : BM S w r (fun _ => none) :=
  ⟨_, h, fun _ => ⟨fun _ => rfl, fun _ h => by cases h⟩⟩

theorem new_no (n : Int) (w : World) (h : n < 2 ∨ 4096 < n) :
    Calls Try.prog 11 #[.int .i64 n] w fun e w' => e = .returned (.tuple #[.pointer none, .int .i64 1]) ∧ w = w' := by
  rcases h with h | h
  · go_enter Try.func11, Try.ntmps11
    go_wp2
    go_ret2
    exact ⟨rfl, rfl⟩
  · have h' : 2 ≤ n := by omega
    go_enter Try.func11, Try.ntmps11
    go_wp2
    go_ret2
    exact ⟨rfl, rfl⟩

set_option maxHeartbeats 400000 in
theorem new_k (n : Nat) (w : World) (h1 : 2 ≤ n) (h2 : n ≤ 4096) :
    Calls Try.prog 11 #[.int .i64 n] w fun e w' => e = .returned (.tuple #[devP (w.heap.size + 2), .int .i64 0]) ∧
      DevAt w' (w.heap.size + 2) w.heap.size (w.heap.size + 1) (Dv.new n) ∧ Fr [] w w' := by
  have hfin : DevAt (((w.alloc (.map #[] 0)).alloc (.map #[] 0)).alloc (.cells (devCells (Dv.new n) w.heap.size (w.heap.size + 1)) 60 (0, 0))) (w.heap.size + 2) w.heap.size (w.heap.size + 1) (Dv.new n) ∧
      Fr [] w (((w.alloc (.map #[] 0)).alloc (.map #[] 0)).alloc (.cells (devCells (Dv.new n) w.heap.size (w.heap.size + 1)) 60 (0, 0))) := by
    have e1 : (w.alloc (.map #[] 0)).heap.size = w.heap.size + 1 := by simp
    have e2 : ((w.alloc (.map #[] 0)).alloc (.map #[] 0)).heap.size = w.heap.size + 2 := by simp
    have m1 : MapG (Value.int .i64) (w.alloc (.map #[] 0)) w.heap.size (fun _ => none) := MapG.made w
    have m2 : MapG (Value.int .i64) ((w.alloc (.map #[] 0)).alloc (.map #[] 0)) (w.heap.size + 1) (fun _ => none) := by have := MapG.made (enc := Value.int .i64) (w.alloc (.map #[] 0)); rwa [e1] at this
    have b3 := blk_new ((w.alloc (.map #[] 0)).alloc (.map #[] 0)) (.cells (devCells (Dv.new n) w.heap.size (w.heap.size + 1)) 60 (0, 0))
    rw [e2] at b3
    refine ⟨⟨b3, ?_, ?_, by omega, ⟨h1, h2, (fun k l h => by cases h), (fun k l h => by cases h), by simp [Dv.new], by simp [Dv.new]⟩⟩, ((Fr.alloc1 _ _).alloc _).alloc _⟩
    · exact BM.made ((m1.kept (Fr.alloc1 _ _) (by simp)).kept (Fr.alloc1 _ _) (by simp))
    · exact BM.made (m2.kept (Fr.alloc1 _ _) (by simp))
  have HF := Lib.hid hfin
  clear hfin
  have hmm := @run_makeMap Try.prog
  go_enter Try.func11, Try.ntmps11
  go_wp2
  go_ret2
  exact ⟨rfl, HF.out⟩

def Dv.fused (D : Dv) (acts : Int) : Dv := { D with off := D.off, fuse := max acts (-1) }

theorem fuse_nil (n : Int) (w : World) : Calls Try.prog 16 #[.pointer none, .int .i64 n] w fun e w' => e = .returned (.tuple #[]) ∧ w = w' := by
  go_enter Try.func16, Try.ntmps16
  go_wp2
  go_end0
  exact ⟨rfl, rfl⟩

set_option maxHeartbeats 400000 in
theorem fuse_k {b ml mc : Nat} {D : Dv} (n : Int) (w : World) (h : DevAt w b ml mc D) (h1 : -9223372036854775808 ≤ n) (h2 : n ≤ 9223372036854775807) :
    Calls Try.prog 16 #[devP b, .int .i64 n] w fun e w' => e = .returned (.tuple #[]) ∧ DevAt w' b ml mc (D.fused n) ∧ Fr [b] w w' ∧ w'.heap.size = w.heap.size := by
  obtain ⟨c0, c1, c2, c3, c4⟩ := h.cells
  have f4 := h.free 4
  have hfin : DevAt (w.setCell ⟨b, 4, none⟩ (.int .i64 (max n (-1)))) b ml mc (D.fused n) ∧ Fr [b] w (w.setCell ⟨b, 4, none⟩ (.int .i64 (max n (-1)))) ∧ (w.setCell ⟨b, 4, none⟩ (.int .i64 (max n (-1)))).heap.size = w.heap.size := by
    have hfr := (Fr.setCell w ⟨b, 4, none⟩ (.int .i64 (max n (-1))))
    refine ⟨h.written D.off (max n (-1)) hfr (by omega) (by omega) ?_, hfr, by simp [World.setCell]⟩
    rw [blk_set h.blk 4 _]
    rfl
  have HF := Lib.hid hfin
  clear hfin h c0 c1 c2 c3 h1 h2
  by_cases hm : n < -1
  · rw [show max n (-1) = -1 from by omega] at HF
    go_enter Try.func16, Try.ntmps16
    go_wp2
    go_end0
    exact ⟨rfl, HF.out⟩
  · rw [show max n (-1) = n from by omega] at HF
    go_enter Try.func16, Try.ntmps16
    go_wp2
    go_end0
    exact ⟨rfl, HF.out⟩

theorem off_nil (w : World) : Calls Try.prog 17 #[.pointer none] w fun e w' => e = .returned (.bool false) ∧ w = w' := by
  go_enter Try.func17, Try.ntmps17
  go_wp2
  go_ret
  exact ⟨rfl, rfl⟩
theorem off_k {b ml mc : Nat} {D : Dv} (w : World) (h : DevAt w b ml mc D) : Calls Try.prog 17 #[devP b] w fun e w' => e = .returned (.bool D.off) ∧ w = w' := by
  obtain ⟨_, _, _, c3, _⟩ := h.cells
  go_enter Try.func17, Try.ntmps17
  go_wp2
  go_ret
  exact ⟨rfl, rfl⟩
theorem sectors_nil (w : World) : Calls Try.prog 27 #[.pointer none] w fun e w' => e = .returned (.int .i64 0) ∧ w = w' := by
  go_enter Try.func27, Try.ntmps27
  go_wp2
  go_ret
  exact ⟨rfl, rfl⟩
theorem sectors_k {b ml mc : Nat} {D : Dv} (w : World) (h : DevAt w b ml mc D) : Calls Try.prog 27 #[devP b] w fun e w' => e = .returned (.int .i64 D.n) ∧ w = w' := by
  obtain ⟨c0, _, _, _, _⟩ := h.cells
  go_enter Try.func27, Try.ntmps27
  go_wp2
  go_ret
  exact ⟨rfl, rfl⟩
end Go.Proofs.Ytgockpichhgijaa
