/- The document's device: New. -/
import Derived.Test.YtgockpichhgijaaRef4A
import Derived.BigRegion
import Derived.Deep.CutRange
namespace Go.Proofs.Ytgockpichhgijaa
open Go.RowKit Go.MapKept

theorem run_mkn {t e : TypeId} {z : Value} {bytes : Nat} (ht : Try.prog.underlying t = some (.slice e)) (hi : (Try.prog.info? e).map (fun i => (i.zero, i.size, i.bytes)) = some (some z, 1, bytes)) (hb : bytes ≤ 24) (hz : z.cells = #[z]) (n : Nat) (hn : n ≤ 4096) (w : World) :
    (Instr.makeSlice t (.int .i64 n) (.int .i64 n)).run Try.prog w = .ok (.slice (some ⟨w.heap.size, 0, none⟩) n n) (w.alloc (.cells (rowOf n fun _ => z) e)) := by
  obtain ⟨i0, hi, hz0, hz1, hz2⟩ := info_parts hi
  have h := run_make (P := Try.prog) w t e i0 z ht hi hz0 .i64 .i64 n n (by omega) (by omega) (by rw [hz2]; have h3 : bytes * n ≤ 24 * 4096 := Nat.mul_le_mul hb hn; have e3 : ((bytes * n : Nat) : Int) = (bytes : Int) * (n : Int) := Int.natCast_mul _ _; omega) (by omega)
  have e : madeCells z.cells (Int.toNat (n : Int) * i0.size) = rowOf n fun _ => z := by
    rw [hz1, hz]
    apply Array.ext'
    rw [Int.toNat_natCast, Nat.mul_one]
    rw [toList_madeCells_one]
    simp [rowOf, List.map_const']
  rw [e] at h
  rw [Int.toNat_natCast] at h
  exact h
theorem Try.infoRows : (Try.prog.info? 23).map (fun i => (i.zero, i.size, i.bytes)) = some (some (.slice none 0 0), 1, 24) := by kernel_rfl
theorem Try.infoBool : (Try.prog.info? 4).map (fun i => (i.zero, i.size, i.bytes)) = some (some (.bool false), 1, 1) := by kernel_rfl

theorem rnew_no (n : Int) (w : World) (h : n < 2 ∨ 4096 < n) :
    Calls Try.prog 21 #[.int .i64 n] w fun e w' => e = .returned (.tuple #[.pointer none, .int .i64 1]) ∧ w = w' := by
  go_enter Try.func21, Try.ntmps21
  by_cases h1 : n < 2
  · go_wp2
    go_ret2
    exact ⟨rfl, rfl⟩
  · have h2 : 4096 < n := by omega
    go_wp2
    go_ret2
    exact ⟨rfl, rfl⟩

structure RNew (W w : World) (r LB CB IB n k : Nat) : Prop where
  blk : w.heap[r]? = some (.cells (refCells n LB CB IB false false 0) 68 (0, 0))
  lastB : ∃ V : Nat → Value, w.heap[LB]? = some (.cells (rowOf n V) 23 (0, 0)) ∧ ∀ i, i < k → Bytes [r, LB, CB, IB] w (V i) zeros
  cacheB : w.heap[CB]? = some (.cells (rowOf n fun _ => .slice none 0 0) 23 (0, 0))
  isB : w.heap[IB]? = some (.cells (rowOf n fun _ => .bool false) 4 (0, 0))
  ne : LB ≠ CB
  fr : Fr [] W w
  old : W.heap.size ≤ r ∧ W.heap.size ≤ LB ∧ W.heap.size ≤ CB ∧ W.heap.size ≤ IB

/-- A document's device of n sectors was made. -/
def RMade (n : Nat) (w w' : World) (r : Nat) : Prop := ∃ LB CB IB, RefAt w' r LB CB IB (Dv.new n) ∧ w.heap.size ≤ r ∧ w.heap.size ≤ LB ∧ w.heap.size ≤ CB ∧ w.heap.size ≤ IB ∧ Fr [] w w'
theorem RNew.done {W w : World} {r LB CB IB n : Nat} (h : RNew W w r LB CB IB n n) (h1 : 2 ≤ n) (h2 : n ≤ 4096) : RefAt w r LB CB IB (Dv.new n) := by
  obtain ⟨V, hV, hb⟩ := h.lastB
  exact ⟨⟨0, h.blk, fun hh => by simp [Dv.new] at hh⟩, ⟨V, hV, hb⟩, ⟨_, h.cacheB, fun i l _ hl => by cases hl⟩, h.isB, h.ne, ⟨h1, h2, (fun k l h => by cases h), (fun k l h => by cases h), by simp [Dv.new], by simp [Dv.new]⟩, fun i hi => ⟨none, 0, 0, by rw [blk_cell h.cacheB]; exact rowOf_get hi⟩⟩

theorem three_alloc (w : World) (o1 o2 o3 : Obj) : (((w.alloc o1).alloc o2).alloc o3).heap[w.heap.size]? = some o1 ∧ (((w.alloc o1).alloc o2).alloc o3).heap[w.heap.size + 1]? = some o2 ∧ (((w.alloc o1).alloc o2).alloc o3).heap[w.heap.size + 1 + 1]? = some o3 ∧
    (((w.alloc o1).alloc o2).alloc o3).heap.size = w.heap.size + 1 + 1 + 1 ∧ Fr [] w (((w.alloc o1).alloc o2).alloc o3) := by
  have e1 : (w.alloc o1).heap.size = w.heap.size + 1 := by simp
  have e2 : ((w.alloc o1).alloc o2).heap.size = w.heap.size + 1 + 1 := by simp
  have a1 := heap_alloc_new w o1
  have a2 := heap_alloc_new (w.alloc o1) o2
  have a3 := heap_alloc_new ((w.alloc o1).alloc o2) o3
  rw [e1] at a2
  rw [e2] at a3
  have f2 := Fr.alloc1 (w.alloc o1) o2
  have f3 := Fr.alloc1 ((w.alloc o1).alloc o2) o3
  exact ⟨f3.heap (f2.heap a1 (by simp)) (by simp), f3.heap a2 (by simp), a3, by simp, ((Fr.alloc1 w o1).trans f2).trans f3⟩
theorem RNew.mk0 {w w3 : World} {r LB CB IB n : Nat} {bc : Array Value} (hr : w3.heap.size = r) (hf : Fr [] w w3) (hl : w3.heap[LB]? = some (.cells (rowOf n fun _ => .slice none 0 0) 23 (0, 0))) (hc : w3.heap[CB]? = some (.cells (rowOf n fun _ => .slice none 0 0) 23 (0, 0)))
    (hi : w3.heap[IB]? = some (.cells (rowOf n fun _ => .bool false) 4 (0, 0))) (hne : LB ≠ CB) (h1 : w.heap.size ≤ LB) (h2 : w.heap.size ≤ CB) (h3 : w.heap.size ≤ IB) (hb : bc = refCells n LB CB IB false false 0) :
    RNew w (w3.alloc (.cells bc 68)).drew r LB CB IB n 0 := by
  subst hr hb
  have hf' : Fr [] w3 (w3.alloc (.cells (refCells n LB CB IB false false 0) 68)).drew := (Fr.alloc1 w3 _).drew
  exact ⟨heap_alloc_new w3 _, ⟨_, hf'.heap hl (by simp), fun i hi => by omega⟩, hf'.heap hc (by simp), hf'.heap hi (by simp), hne, hf.trans hf', ⟨hf.size, h1, h2, h3⟩⟩

theorem RNew.nes {W w : World} {r LB CB IB n k : Nat} (h : RNew W w r LB CB IB n k) : r ≠ LB ∧ CB ≠ LB ∧ IB ≠ LB ∧ r < w.heap.size ∧ LB < w.heap.size ∧ CB < w.heap.size ∧ IB < w.heap.size := by
  have h1 := h.blk
  obtain ⟨_, h2, _⟩ := h.lastB
  have h3 := h.cacheB
  have h4 := h.isB
  refine ⟨?_, Ne.symm h.ne, ?_, lt_of_heap h1, lt_of_heap h2, lt_of_heap h3, lt_of_heap h4⟩ <;> rintro rfl
  · rw [h1] at h2; simp at h2
  · rw [h2] at h4; simp at h4
theorem zb_zeros : (zeros.map byteV).toArray = Zb := by unfold zeros Zb; rw [List.map_replicate]
theorem RNew.step {W w : World} {r LB CB IB n k : Nat} (h : RNew W w r LB CB IB n k) (hk : k < n) :
    RNew W ((w.setCell ⟨LB, k, none⟩ (.slice (some ⟨w.heap.size, 0, none⟩) 1024 1024)).alloc (.cells Zb 5)).drew r LB CB IB n (k + 1) := by
  obtain ⟨n1, n2, n3, l1, l2, l3, l4⟩ := h.nes
  obtain ⟨V, hV, hb⟩ := h.lastB
  have hf1 := Fr.setCell w ⟨LB, k, none⟩ (.slice (some ⟨w.heap.size, 0, none⟩) 1024 1024)
  have hs1 : (w.setCell ⟨LB, k, none⟩ (.slice (some ⟨w.heap.size, 0, none⟩) 1024 1024)).heap.size = w.heap.size := by simp
  have hV1 := blk_set hV k (.slice (some ⟨w.heap.size, 0, none⟩) 1024 1024)
  have hnew := heap_alloc_new (w.setCell ⟨LB, k, none⟩ (.slice (some ⟨w.heap.size, 0, none⟩) 1024 1024)) (.cells Zb 5)
  rw [hs1] at hnew
  rw [rowOf_set] at hV1
  generalize w.setCell ⟨LB, k, none⟩ (.slice (some ⟨w.heap.size, 0, none⟩) 1024 1024) = w1 at *
  have hf2 : Fr [] w1 (w1.alloc (.cells Zb 5)).drew := (Fr.alloc1 w1 _).drew
  have hblk : Blk (w1.alloc (.cells Zb 5)).drew w.heap.size zeros := by unfold Blk; rw [zb_zeros]; exact hnew
  refine ⟨hf2.heap (hf1.heap h.blk (by simp; omega)) (by simp), ⟨_, hf2.heap hV1 (by simp), fun i hi => ?_⟩, hf2.heap (hf1.heap h.cacheB (by simp; omega)) (by simp), hf2.heap (hf1.heap h.isB (by simp; omega)) (by simp), h.ne, (h.fr.andThen hf1 (by have := h.old; simp; omega)).trans hf2, h.old⟩
  by_cases e : i = k
  · rw [if_pos e]
    exact hblk.bytes (by simp; omega) zeros_length
  · rw [if_neg e]
    exact ((hb i (by omega)).kept (hf1.mono (by simp))).kept hf2.nil

set_option maxRecDepth 100000 in
set_option maxHeartbeats 4000000 in
theorem rnew_k (n : Nat) (w : World) (h1 : 2 ≤ n) (h2 : n ≤ 4096) :
    Calls Try.prog 21 #[.int .i64 n] w fun e w' => ∃ r, e = .returned (.tuple #[.pointer (some ⟨r, 0, none⟩), .int .i64 0]) ∧ RMade n w w' r := by
  have m1 := fun w => run_mkn Try.underlying65 Try.infoRows (by omega) rfl n h2 w
  have m2 := fun w => run_mkn Try.underlying66 Try.infoBool (by omega) rfl n h2 w
  have n1 : ¬ (n : Int) < 2 := by omega
  have n2 : ¬ 4096 < (n : Int) := by omega
  go_enter Try.func21, Try.ntmps21
  go_upto_region 3 with fail
  go_cut [4] from 12 to 19 (fun p wx => ∃ r LB CB IB, p = .pointer (some ⟨r, 0, none⟩) ∧ RNew w wx r LB CB IB n 0)
  case first =>
    have T1 := three_alloc w (.cells (rowOf n fun _ => .slice none 0 0) 23) (.cells (rowOf n fun _ => .slice none 0 0) 23) (.cells (rowOf n fun _ => .bool false) 4)
    have T2 := three_alloc w (.cells (rowOf n fun _ => .slice none 0 0) 23) (.cells (rowOf n fun _ => .bool false) 4) (.cells (rowOf n fun _ => .slice none 0 0) 23)
    have T3 := three_alloc w (.cells (rowOf n fun _ => .bool false) 4) (.cells (rowOf n fun _ => .slice none 0 0) 23) (.cells (rowOf n fun _ => .slice none 0 0) 23)
    have HT1 := Lib.hid T1
    have HT2 := Lib.hid T2
    have HT3 := Lib.hid T3
    clear T1 T2 T3
    go_region
    all_goals
      go_wp2_with fail
      go_meet
      first
        | exact ⟨_, _, _, _, rfl, RNew.mk0 HT1.out.2.2.2.1 HT1.out.2.2.2.2 HT1.out.1 HT1.out.2.1 HT1.out.2.2.1 (by omega) (by omega) (by omega) (by omega) rfl⟩
        | exact ⟨_, _, _, _, rfl, RNew.mk0 HT1.out.2.2.2.1 HT1.out.2.2.2.2 HT1.out.2.1 HT1.out.1 HT1.out.2.2.1 (by omega) (by omega) (by omega) (by omega) rfl⟩
        | exact ⟨_, _, _, _, rfl, RNew.mk0 HT2.out.2.2.2.1 HT2.out.2.2.2.2 HT2.out.1 HT2.out.2.2.1 HT2.out.2.1 (by omega) (by omega) (by omega) (by omega) rfl⟩
        | exact ⟨_, _, _, _, rfl, RNew.mk0 HT2.out.2.2.2.1 HT2.out.2.2.2.2 HT2.out.2.2.1 HT2.out.1 HT2.out.2.1 (by omega) (by omega) (by omega) (by omega) rfl⟩
        | exact ⟨_, _, _, _, rfl, RNew.mk0 HT3.out.2.2.2.1 HT3.out.2.2.2.2 HT3.out.2.1 HT3.out.2.2.1 HT3.out.1 (by omega) (by omega) (by omega) (by omega) rfl⟩
        | exact ⟨_, _, _, _, rfl, RNew.mk0 HT3.out.2.2.2.1 HT3.out.2.2.2.2 HT3.out.2.2.1 HT3.out.2.1 HT3.out.1 (by omega) (by omega) (by omega) (by omega) rfl⟩
  case rest =>
  obtain ⟨r, LB, CB, IB, rfl, hnew⟩ := hcut
  have HNW := Lib.hid hnew
  clear hnew m1 m2
  go_wp2_with fail
  go_loopw [5] (fun i wr => ∃ k : Nat, k ≤ n ∧ i = .int .i64 k ∧ RNew w wr r LB CB IB n k) (fun i _ => n - (intOf i).toNat)
  case atStart => exact ⟨0, by omega, rfl, HNW.out⟩
  case round =>
    obtain ⟨k, hkl, rfl, hn⟩ := hrel
    by_cases hlt : k < n
    · have hkI : (k : Int) < (n : Int) := by omega
      have c0 := blk_cell hn.blk (i := 0)
      simp only [refCells, List.getElem?_toArray, List.getElem?_cons_zero] at c0
      obtain ⟨V, hV, hVb⟩ := hn.lastB
      have cV := blk_cell hV (i := k)
      rw [rowOf_get hlt] at cV
      have fV := blk_free hV k
      have hlb : LB < wr.heap.size := lt_of_heap hV
      have hrb : r < wr.heap.size := lt_of_heap hn.blk
      have hmk := @run_mk1024
      have HN := Lib.hid hn
      clear hn hV hVb
      go_wp2_with fail
      go_region
      have HN2 := Lib.hid (HN.out.step hlt)
      clear c0 cV fV hmk
      go_wp2
      go_roundw
      case rel => exact ⟨k + 1, by omega, by go_num, HN2.out⟩
      case measure => simp [intOf]; omega
    · have hkI : ¬ (k : Int) < (n : Int) := by omega
      have hkn : k = n := by omega
      subst hkn
      have HN := Lib.hid hn
      clear hn
      go_wp2
      go_ret2
      exact ⟨r, rfl, LB, CB, IB, HN.out.done h1 h2, HN.out.old.1, HN.out.old.2.1, HN.out.old.2.2.1, HN.out.old.2.2.2, HN.out.fr⟩
end Go.Proofs.Ytgockpichhgijaa
