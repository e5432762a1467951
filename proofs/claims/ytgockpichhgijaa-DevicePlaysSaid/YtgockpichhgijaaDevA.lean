/- The device's small functions: what a call of each does. -/
import Derived.Test.YtgockpichhgijaaProg
import Derived.Test.YtgockpichhgijaaSlice
import Derived.Deep.RegionWith
import Derived.BigQuiet
import Derived.Lib.Hide
namespace Go.Proofs.Ytgockpichhgijaa
open Go.RowKit Go.MapKept

def Zb : Array Value := (List.replicate 1024 (byteV 0)).toArray
def pad (l : List UInt8) : List UInt8 := l ++ List.replicate (1024 - l.length) 0
theorem pad_length {l : List UInt8} (h : l.length ≤ 1024) : (pad l).length = 1024 := by simp [pad]; omega
theorem pad_full {l : List UInt8} (h : l.length = 1024) : pad l = l := by simp [pad, h]
theorem spliced_rep (n : Nat) (l : List UInt8) : splicedAt (List.replicate n (byteV 0)) 0 (l.map byteV) = (l ++ List.replicate (n - l.length) 0).map byteV := by
  simp [splicedAt]
theorem spliced_zb (l : List UInt8) : splicedAt Zb.toList 0 (l.map byteV) = (pad l).map byteV := spliced_rep 1024 l
theorem size_zb : Zb.size = 1024 := by
  unfold Zb
  rw [List.size_toArray, List.length_replicate]

theorem Try.info5 : (Try.prog.info? 5).map (fun i => (i.zero, i.size, i.bytes)) = some (some (.int .u8 0), 1, 1) := by kernel_rfl
theorem Try.size5 : (Try.prog.info? 5).map (·.size) = some 1 := by
  have h := Try.info5
  cases hq : Try.prog.info? 5 <;> simp_all

theorem run_mk1024 (w : World) : (Instr.makeSlice 23 (.int .i64 1024) (.int .i64 1024)).run Try.prog w = .ok (.slice (some ⟨w.heap.size, 0, none⟩) 1024 1024) (w.alloc (.cells Zb 5)) := by
  obtain ⟨i0, hi, hz0, hz1, hz2⟩ := info_parts Try.info5
  have h := run_make (P := Try.prog) w 23 5 i0 (.int .u8 0) Try.underlying23 hi hz0 .i64 .i64 1024 1024 (by omega) (by omega) (by rw [hz2]; omega) (by omega)
  have e : madeCells (Value.int .u8 0).cells (Int.toNat 1024 * i0.size) = Zb := by
    rw [hz1]
    apply Array.ext'
    rw [show Int.toNat 1024 * 1 = 1024 from rfl]
    exact toList_madeCells_one _ _
  rw [e] at h
  exact h

set_option maxRecDepth 100000 in
set_option maxHeartbeats 400000 in
theorem whole_k {S : List Nat} {v : Value} {l : List UInt8} (w : World) (h : Bytes S w v l) (hl : l.length ≤ 1024) :
    Calls Try.prog 30 #[v] w fun e w' => e = .returned (.slice (some ⟨w.heap.size, 0, none⟩) 1024 1024) ∧
      w'.heap[w.heap.size]? = some (.cells ((pad l).map byteV).toArray 5 (0, 0)) ∧ Fr [] w w' ∧ w'.heap.size = w.heap.size + 1 := by
  have hmk := run_mk1024 w
  have hb : Bytes S (w.alloc (.cells Zb 5)) v l := h.kept ((Fr.alloc1 _ _).nil)
  obtain ⟨w2, hcp, hblk, hfr, hsz⟩ := run_copy_slc (P := Try.prog) (dT := 23) (sT := 23) (ty := 3) (o := 0) (dLen := 1024) (dCap := 1024) Try.underlying23 Try.size5
    (blk_new w (.cells Zb 5)) hb (by simp) hl (by rw [size_zb]; omega) (by simp [byteV_one])
  rw [spliced_zb] at hblk
  have hfin : Fr [] w w2 := (((Fr.alloc1 w (.cells Zb 5)).nil).trans hfr).drop (by simp)
  have hs2 : w2.heap.size = w.heap.size + 1 := by rw [hsz]; simp
  have HF := Lib.hid (And.intro hblk (And.intro hfin hs2))
  clear hblk hfin hs2 hfr hsz hb h
  go_enter Try.func30, Try.ntmps30
  go_wp2
  go_ret
  exact ⟨rfl, HF.out⟩
end Go.Proofs.Ytgockpichhgijaa
