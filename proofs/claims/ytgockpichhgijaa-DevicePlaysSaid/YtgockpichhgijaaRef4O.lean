/- The document's device: Spoil. -/
import Derived.Test.YtgockpichhgijaaRef4N
import Derived.Test.YtgockpichhgijaaDevH
import Derived.Deep.RegionHeld3
namespace Go.Proofs.Ytgockpichhgijaa
open Go.RowKit Go.MapKept

/-- 'append([]byte{}, b...)'. -/
theorem copied_run {w : World} {v : Value} {l : List UInt8} (h0 : l.length = 1024) (b0 : Bytes [] w v l) (ty : TypeId) :
    ∃ g cap w2, (Builtin.append_ #[23, 23] ty #[.slice (some ⟨w.heap.size, 0, none⟩) 0 0, v]).run Try.prog (w.alloc (.cells #[] 5)) = .ok (.slice (some ⟨g, 0, none⟩) 1024 cap) w2 ∧
      w.heap.size ≤ g ∧ 1024 ≤ cap ∧ Fr [] w w2 ∧ ∃ cur, w2.heap[g]? = some (.cells cur 5 (0, 0)) ∧ cur.toList.take 1024 = l.map byteV := by
  have hown : (w.alloc (.cells #[] 5)).ownsRow w.heap.size 5 1 (.slice (some ⟨w.heap.size, 0, none⟩) 0 0) 0 [] :=
    ⟨rfl, .inr ⟨w.heap.size, 0, #[], rfl, Nat.le_refl _, heap_alloc_new w _, Nat.le_refl _, Nat.zero_le _, rfl, rfl⟩⟩
  obtain ⟨v1, w2, hr1, ho1, hf1, hn1⟩ := run_append_slc (P := Try.prog) (t := 23) (ty := ty) Try.underlying23 Try.info5 rfl (by decide) hown (b0.kept (Fr.alloc1 _ _)) (by simp) (bytes_one l) (by unfold maxLen; omega) (by omega) (by simp)
  rw [Nat.zero_add, List.nil_append] at ho1
  have hfa : Fr [] w w2 := (Fr.alloc1 w _).andThen hf1 (by simp [Value.ownBlock])
  obtain ⟨_, ⟨_, hz⟩ | ⟨g, cap, cur, rfl, hg, hb, hc, _, hs, ht⟩⟩ := ho1
  · omega
  · rw [h0] at hr1 hc ht
    exact ⟨g, cap, w2, hr1, hg, hc, hfa, cur, hb, by simpa using ht⟩

/-- A byte of a copy is set. -/
theorem set_bytes {w : World} {g cap : Nat} {cur : Array Value} {l : List UInt8} (h0 : l.length = 1024) (hcap : 1024 ≤ cap) (hb : w.heap[g]? = some (.cells cur 5 (0, 0))) (ht : cur.toList.take 1024 = l.map byteV) (a : Nat) (x : UInt8) {S : List Nat} (hS : g ∉ S) :
    Bytes S (w.setCell ⟨g, a, none⟩ (byteV x)) (.slice (some ⟨g, 0, none⟩) 1024 cap) (l.set a x) := by
  have hb2 := blk_set hb a (byteV x)
  refine .inr ⟨g, 0, cap, by simp [h0], by simp; omega, .inr hS, fun i v hv => ?_⟩
  rw [blk_cell hb2, Nat.zero_add]
  rw [List.map_set, ← ht] at hv
  rw [Array.getElem?_setIfInBounds]
  rw [List.getElem?_set] at hv
  by_cases e : a = i
  · subst e
    rw [if_pos rfl] at hv ⊢
    split at hv
    · rename_i hi
      rw [List.length_take] at hi
      rw [if_pos (by simp at hi ⊢; omega)]
      exact hv
    · cases hv
  · rw [if_neg e] at hv ⊢
    rw [List.getElem?_take] at hv
    split at hv
    · rw [← hv]; simp
    · cases hv
theorem copy_cell {w : World} {g : Nat} {cur : Array Value} {l : List UInt8} (h0 : l.length = 1024) (hb : w.heap[g]? = some (.cells cur 5 (0, 0))) (ht : cur.toList.take 1024 = l.map byteV) {a : Nat} (ha : a < 1024) :
    w.cell? ⟨g, a, none⟩ = some (.int .u8 (l.getD a 0).toNat) := by
  rw [blk_cell hb]
  have h1 : (cur.toList.take 1024)[a]? = (l.map byteV)[a]? := by rw [ht]
  rw [List.getElem?_take, if_pos ha] at h1
  have h2 : l[a]? = some (l.getD a 0) := by rw [List.getElem?_eq_getElem (by omega)]; simp [List.getD, h0, ha]
  rw [List.getElem?_map, h2] at h1
  rw [← Array.getElem?_toList, h1]
  rfl

/-- A sector that is held is given another content. -/
theorem RefAt.setCache {w w' : World} {r LB CB IB : Nat} {D : Dv} (h : RefAt w r LB CB IB D) {k : Nat} (hk : k < D.n) {l0 l : List UInt8} (hc0 : D.cache k = some l0) {v : Value} (hf : Fr [CB] w w')
    (hC : ∀ V, w.heap[CB]? = some (.cells (rowOf D.n V) 23 (0, 0)) → w'.heap[CB]? = some (.cells (rowOf D.n fun i => if i = k then v else V i) 23 (0, 0)))
    (hv : Bytes [r, LB, CB, IB] w' v l) (hl : l.length = 1024) : RefAt w' r LB CB IB { D with cache := upd D.cache k (some l) } := by
  obtain ⟨n1, n2, n3, n4, n5, n6⟩ := h.nes
  obtain ⟨left, h1, h1'⟩ := h.blk
  obtain ⟨VL, h2, h2'⟩ := h.lastB
  obtain ⟨VC, h4, h4'⟩ := h.cacheB
  have hC4 := hC VC h4
  refine ⟨⟨left, hf.heap h1 (by simp; omega), h1'⟩, ⟨VL, hf.heap h2 (by simp; omega), fun i hi => (h2' i hi).kept (hf.mono (by simp))⟩, ⟨_, hC4, fun i l' hi hl' => ?_⟩, ?_, h.ne, ⟨h.fine.n2, h.fine.n4, h.fine.keysL, upd_keys h.fine.keysC (by omega) (by omega) hl, h.fine.fuse1, h.fine.fuse2⟩, fun i hi => ?_⟩
  · by_cases e : i = k
    · subst e
      rw [if_pos rfl]
      simp only [upd_same] at hl'
      cases hl'
      exact hv
    · rw [if_neg e]
      simp only [] at hl'
      rw [upd_ne _ _ (by omega)] at hl'
      exact (h4' i l' hi hl').kept (hf.mono (by simp))
  · rw [hf.heap h.isB (by simp; omega)]
    congr 2
    refine rowOf_congr (fun i hi => ?_)
    by_cases e : i = k
    · subst e; simp [upd_same, hc0]
    · simp only []
      rw [upd_ne _ _ (by omega)]
  · rw [blk_cell hC4, rowOf_get hi]
    by_cases e : i = k
    · rw [if_pos e]
      obtain ⟨a, c, rfl, _⟩ := Slc.form hv
      exact ⟨a, _, c, rfl⟩
    · rw [if_neg e]
      obtain ⟨a, x, y, hc⟩ := h.cacheS i hi
      rw [blk_cell h4, rowOf_get hi] at hc
      exact ⟨a, x, y, hc⟩
/-- What lasts is given another content. -/
theorem RefAt.setLast {w w' : World} {r LB CB IB : Nat} {D : Dv} (h : RefAt w r LB CB IB D) {k : Nat} (hk : k < D.n) {l : List UInt8} {v : Value} (hf : Fr [LB] w w')
    (hL : ∀ V, w.heap[LB]? = some (.cells (rowOf D.n V) 23 (0, 0)) → w'.heap[LB]? = some (.cells (rowOf D.n fun i => if i = k then v else V i) 23 (0, 0)))
    (hv : Bytes [r, LB, CB, IB] w' v l) (hl : l.length = 1024) : RefAt w' r LB CB IB { D with last := upd D.last k (some l) } := by
  obtain ⟨n1, n2, n3, n4, n5, n6⟩ := h.nes
  obtain ⟨left, h1, h1'⟩ := h.blk
  obtain ⟨VL, h2, h2'⟩ := h.lastB
  obtain ⟨VC, h4, h4'⟩ := h.cacheB
  refine ⟨⟨left, hf.heap h1 (by simp; omega), h1'⟩, ⟨_, hL VL h2, fun i hi => ?_⟩, ⟨VC, hf.heap h4 (by simp; omega), fun i l' hi hl' => (h4' i l' hi hl').kept (hf.mono (by simp))⟩, hf.heap h.isB (by simp; omega), h.ne, ⟨h.fine.n2, h.fine.n4, upd_keys h.fine.keysL (by omega) (by omega) hl, h.fine.keysC, h.fine.fuse1, h.fine.fuse2⟩, fun i hi => by obtain ⟨a, x, y, hc⟩ := h.cacheS i hi; exact ⟨a, x, y, hf.cellSome hc (by simp; omega)⟩⟩
  by_cases e : i = k
  · subst e
    rw [if_pos rfl]
    simp only [upd_same, Option.getD_some]
    exact hv
  · rw [if_neg e]
    simp only []
    rw [upd_ne _ _ (by omega)]
    exact (h2' i hi).kept (hf.mono (by simp))
end Go.Proofs.Ytgockpichhgijaa
