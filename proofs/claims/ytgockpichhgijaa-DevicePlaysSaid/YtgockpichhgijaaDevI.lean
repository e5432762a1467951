/- bytes.Clone. -/
import Derived.Test.YtgockpichhgijaaDevH
import Derived.Lib.SliceRun
namespace Go.Proofs.Ytgockpichhgijaa
open Go.RowKit Go.MapKept

theorem ownsRow_ne {w : World} {base : Nat} {e : TypeId} {size : Nat} {v : Value} {n : Nat} {xs : List Value} (h : w.ownsRow base e size v n xs) (hv : v ≠ .slice none 0 0) :
    ∃ g cap, v = .slice (some ⟨g, 0, none⟩) n cap ∧ base ≤ g ∧ g < w.heap.size := by
  obtain ⟨_, ⟨rfl, rfl⟩ | ⟨g, cap, cur, rfl, hb, hg, _⟩⟩ := h
  · exact absurd rfl hv
  · exact ⟨g, cap, rfl, hb, lt_of_heap hg⟩

set_option maxRecDepth 100000 in
set_option maxHeartbeats 400000 in
/-- bytes.Clone at bytes that are not nil. -/
theorem clone_k {S : List Nat} {v : Value} {l : List UInt8} (w : World) (h : Bytes S w v l) (hv : v ≠ .slice none 0 0) (hl : l.length ≤ 1024) :
    Calls Try.prog 32 #[v] w fun e w' => ∃ g cap, e = .returned (.slice (some ⟨g, 0, none⟩) l.length cap) ∧ w'.ownsRow w.heap.size 5 1 (.slice (some ⟨g, 0, none⟩) l.length cap) l.length (l.map byteV) ∧ Fr [] w w' ∧ w.heap.size ≤ g := by
  obtain ⟨a, cp, rfl⟩ : ∃ a cp, v = .slice (some a) l.length cp := by
    rcases h with ⟨a, c, h, h0, _, ha⟩ | ⟨B, off, cap, h, _⟩
    · cases a with
      | none => obtain rfl := ha rfl; exact absurd h hv
      | some a => exact ⟨a, c, by rw [h0]; exact h⟩
    · exact ⟨_, cap, h⟩
  have hown : (w.alloc (.cells #[] 5)).ownsRow w.heap.size 5 1 (.slice (some ⟨w.heap.size, 0, none⟩) 0 0) 0 [] := by
    have := World.ownsRow_lit (base := w.heap.size) (e := 5) (size := 1) w #[] 0 (Nat.le_refl _) (Nat.zero_le _) (by simp)
    simpa using this
  have hx : Bytes S (w.alloc (.cells #[] 5)) _ l := h.kept (Fr.alloc1 _ _).nil
  obtain ⟨v', w', hr, ho, hf, hn⟩ := run_append_slc (P := Try.prog) (t := 23) (ty := 23) Try.underlying23 Try.info5 rfl (by decide) hown hx (by simp) (by simp [byteV_one]) (by unfold maxLen; omega) (by omega) (by simp)
  obtain ⟨g, cap, rfl, hg1, hg2⟩ := ownsRow_ne ho (fun h => by have := (hn h).1; cases this)
  have hfin : w'.ownsRow w.heap.size 5 1 (.slice (some ⟨g, 0, none⟩) l.length cap) l.length (l.map byteV) ∧ Fr [] w w' ∧ w.heap.size ≤ g := by
    simp only [Nat.zero_add, List.nil_append] at ho
    exact ⟨ho, (Fr.alloc1 w _).andThen hf (by simp [Value.ownBlock]), hg1⟩
  simp only [Nat.zero_add] at hr
  have HF := Lib.hid hfin
  have HR := Lib.hid hr
  clear hr
  have hnil := Lib.run_eql_slice_nil (P := Try.prog) w 23 5 (some a) l.length cp 0 0 Try.underlying23
  rw [show (some a : Option Addr).isNone = false from rfl] at hnil
  clear hfin ho hf hn hx hown h hv
  go_enter Try.func32, Try.ntmps32
  go_wp2_with (at_builtin; refine wpList_append_run rfl _ _ _ rfl HR.out ?_)
  go_ret
  exact ⟨g, cap, rfl, HF.out⟩
theorem clone_n {S : List Nat} {v : Value} {l : List UInt8} (n : Nat) (w : World) (h : Bytes S w v l) (hv : v ≠ .slice none 0 0) (hl : l.length = n) (hn : n ≤ 1024) :
    Calls Try.prog 32 #[v] w fun e w' => ∃ g cap, e = .returned (.slice (some ⟨g, 0, none⟩) n cap) ∧ w'.ownsRow w.heap.size 5 1 (.slice (some ⟨g, 0, none⟩) n cap) n (l.map byteV) ∧ Fr [] w w' ∧ w.heap.size ≤ g := by
  subst hl; exact clone_k w h hv hn
end Go.Proofs.Ytgockpichhgijaa
