/- A device and the document's device in one memory. -/
import Derived.Test.YtgockpichhgijaaRef4J
import Derived.Test.YtgockpichhgijaaCalm
namespace Go.Proofs.Ytgockpichhgijaa
open Go.RowKit Go.MapKept

/-- Bytes lie in none of the blocks of the document's device. -/
theorem RefAt.notBytes {w : World} {r LB CB IB : Nat} {D : Dv} (h : RefAt w r LB CB IB D) {S : List Nat} {v : Value} {l : List UInt8} (hv : Bytes S w v l) : Bytes (r :: LB :: CB :: IB :: S) w v l := by
  have hV : ∀ i x, w.cell? ⟨LB, i, none⟩ = some (byteV x) → False := fun i x hx => by
    by_cases hi : i < D.n
    · obtain ⟨v, hv, hb⟩ := h.lastB.elim fun V hV => (⟨V i, by rw [blk_cell hV.1, rowOf_get hi], hV.2 i hi⟩ : ∃ v, w.cell? ⟨LB, i, none⟩ = some v ∧ Bytes [r, LB, CB, IB] w v ((D.last i).getD zeros))
      obtain ⟨a, c, rfl, _⟩ := Slc.form hb
      rw [hx] at hv; cases hv
    · obtain ⟨V, hV, _⟩ := h.lastB
      rw [blk_cell hV] at hx
      unfold rowOf at hx
      rw [List.getElem?_toArray, List.getElem?_eq_none (by simp; omega)] at hx
      cases hx
  have hC : ∀ i x, w.cell? ⟨CB, i, none⟩ = some (byteV x) → False := fun i x hx => by
    by_cases hi : i < D.n
    · obtain ⟨a, c, d, hv⟩ := h.cacheS i hi
      rw [hx] at hv; cases hv
    · obtain ⟨V, hV, _⟩ := h.cacheB
      rw [blk_cell hV] at hx
      unfold rowOf at hx
      rw [List.getElem?_toArray, List.getElem?_eq_none (by simp; omega)] at hx
      cases hx
  rcases hv with hv | ⟨B, off, cap, rfl, hc, hs, hcs⟩
  · exact .inl hv
  · refine .inr ⟨B, off, cap, rfl, hc, ?_, hcs⟩
    cases l with
    | nil => exact .inl rfl
    | cons x l =>
      right
      have hx := hcs 0 (byteV x) rfl
      have hB : B ∉ S := by rcases hs with hs | hs; · cases hs
                            · exact hs
      intro hm
      rcases List.mem_cons.1 hm with rfl | hm
      · obtain ⟨left, hb, _⟩ := h.blk
        rw [blk_cell hb] at hx
        unfold refCells byteV at hx
        rcases off with _ | _ | _ | _ | _ | _ | off <;> simp at hx
      · rcases List.mem_cons.1 hm with rfl | hm
        · exact hV _ _ hx
        · rcases List.mem_cons.1 hm with rfl | hm
          · exact hC _ _ hx
          · rcases List.mem_cons.1 hm with rfl | hm
            · rw [blk_cell h.isB] at hx
              unfold rowOf byteV at hx
              simp at hx
            · exact hB hm
end Go.Proofs.Ytgockpichhgijaa
