/- The document's device (cambistref04): where its state lies; what moves it. -/
import Derived.Test.YtgockpichhgijaaPLas4
import Derived.Test.YtgockpichhgijaaZer4
namespace Go.Proofs.Ytgockpichhgijaa
open Go.RowKit Go.MapKept

def rowOf (n : Nat) (V : Nat → Value) : Array Value := ((List.range n).map V).toArray
theorem rowOf_size (n : Nat) (V : Nat → Value) : (rowOf n V).size = n := by simp [rowOf]
theorem rowOf_get {n : Nat} {V : Nat → Value} {i : Nat} (h : i < n) : (rowOf n V)[i]? = some (V i) := by simp [rowOf, h]
theorem rowOf_set {n : Nat} {V : Nat → Value} {i : Nat} (x : Value) : (rowOf n V).setIfInBounds i x = rowOf n (fun j => if j = i then x else V j) := by
  apply Array.ext
  · simp [rowOf]
  · intro j h1 h2
    simp [rowOf] at h1 h2 ⊢
    rw [List.getElem_set]
    by_cases e : i = j
    · subst e; simp
    · rw [if_neg e, if_neg (Ne.symm e)]
      simp
theorem rowOf_congr {n : Nat} {V V' : Nat → Value} (h : ∀ i, i < n → V i = V' i) : rowOf n V = rowOf n V' := by
  unfold rowOf
  rw [List.map_congr_left (fun i hi => h i (List.mem_range.1 hi))]

def refCells (n LB CB IB : Nat) (off fused : Bool) (left : Int) : Array Value :=
  #[.slice (some ⟨LB, 0, none⟩) n n, .slice (some ⟨CB, 0, none⟩) n n, .slice (some ⟨IB, 0, none⟩) n n, .bool off, .bool fused, .int .i64 left]

/-- The document's device at r, its rows at LB, CB, IB, is the device D. -/
structure RefAt (w : World) (r LB CB IB : Nat) (D : Dv) : Prop where
  blk : ∃ left : Int, w.heap[r]? = some (.cells (refCells D.n LB CB IB D.off (decide (0 ≤ D.fuse)) left) 68 (0, 0)) ∧ (0 ≤ D.fuse → left = D.fuse)
  lastB : ∃ V : Nat → Value, w.heap[LB]? = some (.cells (rowOf D.n V) 23 (0, 0)) ∧ ∀ i, i < D.n → Bytes [r, LB, CB, IB] w (V i) ((D.last i).getD zeros)
  cacheB : ∃ V : Nat → Value, w.heap[CB]? = some (.cells (rowOf D.n V) 23 (0, 0)) ∧ ∀ i l, i < D.n → D.cache i = some l → Bytes [r, LB, CB, IB] w (V i) l
  isB : w.heap[IB]? = some (.cells (rowOf D.n fun i => .bool (D.cache i).isSome) 4 (0, 0))
  ne : LB ≠ CB
  fine : D.fine
  cacheS : ∀ i, i < D.n → ∃ a x y, w.cell? ⟨CB, i, none⟩ = some (.slice a x y)

theorem RefAt.lt {w : World} {r LB CB IB : Nat} {D : Dv} (h : RefAt w r LB CB IB D) : r < w.heap.size ∧ LB < w.heap.size ∧ CB < w.heap.size ∧ IB < w.heap.size := by
  obtain ⟨_, h1, _⟩ := h.blk
  obtain ⟨_, h2, _⟩ := h.lastB
  obtain ⟨_, h3, _⟩ := h.cacheB
  exact ⟨lt_of_heap h1, lt_of_heap h2, lt_of_heap h3, lt_of_heap h.isB⟩

theorem RefAt.nes {w : World} {r LB CB IB : Nat} {D : Dv} (h : RefAt w r LB CB IB D) : r ≠ LB ∧ r ≠ CB ∧ r ≠ IB ∧ LB ≠ CB ∧ LB ≠ IB ∧ CB ≠ IB := by
  obtain ⟨_, h1, _⟩ := h.blk
  obtain ⟨_, h2, _⟩ := h.lastB
  obtain ⟨_, h3, _⟩ := h.cacheB
  have h4 := h.isB
  refine ⟨?_, ?_, ?_, h.ne, ?_, ?_⟩ <;> rintro rfl
  · rw [h1] at h2; simp at h2
  · rw [h1] at h3; simp at h3
  · rw [h1] at h4; simp at h4
  · rw [h2] at h4; simp at h4
  · rw [h3] at h4; simp at h4

theorem RefAt.kept {w w' : World} {r LB CB IB : Nat} {D : Dv} (h : RefAt w r LB CB IB D) (hf : Fr [] w w') : RefAt w' r LB CB IB D := by
  obtain ⟨left, h1, h1'⟩ := h.blk
  obtain ⟨VL, h2, h2'⟩ := h.lastB
  obtain ⟨VC, h3, h3'⟩ := h.cacheB
  exact ⟨⟨left, hf.heap h1 (by simp), h1'⟩, ⟨VL, hf.heap h2 (by simp), fun i hi => (h2' i hi).kept hf.nil⟩, ⟨VC, hf.heap h3 (by simp), fun i l hi hl => (h3' i l hi hl).kept hf.nil⟩, hf.heap h.isB (by simp), h.ne, h.fine, fun i hi => by obtain ⟨a, x, y, hc⟩ := h.cacheS i hi; exact ⟨a, x, y, hf.cellSome hc (by simp)⟩⟩

end Go.Proofs.Ytgockpichhgijaa
