/- Layer 4's awake answers true, and leaves all that was as it was. -/
import Derived.Test.YtgockpichhgijaaDevL
import Derived.Lib.SlBytesConst
namespace Go.Proofs.Ytgockpichhgijaa
open Go.RowKit Go.MapKept

def aw1 : Dv := writeD (Dv.new 8) 1 [97, 98]
def aw2 : Dv := syncD aw1
def aw3 : Dv := writeD aw2 1 [120, 121, 122]
def aw4 : Dv := restartD aw3 [] 1 1
def aw5 : Dv := aw4.fused 1
def aw6 : Dv := writeD aw5 0 [97]
def aw7 : Dv := syncD aw6
theorem awE1 : writeE (Dv.new 8) 1 [97, 98] = 0 := by decide +kernel
theorem awE2 : syncE aw1 = 0 := by decide +kernel
theorem awE3 : writeE aw2 1 [120, 121, 122] = 0 := by decide +kernel
theorem awU4 : useE aw4 1 0 = 0 := by decide +kernel
theorem awU5 : useE aw4 9 0 = 41 := by decide +kernel
theorem awE6 : writeE aw5 0 [97] = 0 := by decide +kernel
theorem awE7 : syncE aw6 = 40 := by decide +kernel
theorem awL7 : (lastingL aw7).length = 1 := by decide +kernel
theorem awC7 : (cachedL aw7).length = 1 := by decide +kernel
theorem awO7 : aw7.off = true := by decide +kernel
theorem awN7 : aw7.n = 8 := by decide +kernel
theorem awB0 : (aw4.bytes 1).getD 0 0 = 120 := by decide +kernel
theorem awB1 : (aw4.bytes 1).getD 1 0 = 98 := by decide +kernel
theorem awB2 : (aw4.bytes 1).getD 2 0 = 0 := by decide +kernel

theorem new_bytes {S : List Nat} (w : World) (l : List UInt8) (n : Nat) (hn : l.length = n) (hs : ∀ x, x ∈ S → x < w.heap.size) {cs : Array Value} (hc : (l.map byteV).toArray = cs) (z : Nat × Nat) :
    Bytes S (w.alloc (.cells cs 5 z)) (.slice (some ⟨w.heap.size, 0, none⟩) n n) l := by
  subst hc; subst hn
  have := Slc.ofBlock (S := S) (blk_new w (.cells (l.map byteV).toArray 5 z)) (fun hm => by have := hs _ hm; omega) l.length l.length (Nat.le_refl _)
  exact this

set_option maxRecDepth 100000 in
set_option maxHeartbeats 4000000 in
theorem awake_k (w : World) : Calls Try.prog 10 #[] w fun e w' => e = .returned (.bool true) ∧ Fr [] w w' := by
  have kc := fun (w : World) (C : Array Value) (n c : Nat) => Lib.run_convert_bytes_const (P := Try.prog) w 23 5 C n c Try.underlying23 Try.underlying5
  go_enter Try.func10, Try.ntmps10
  go_wp2_with fail
  refine (new_k 8 _ (by omega) (by omega)).mono ?_
  rintro e w1 ⟨rfl, hd1, hf1⟩
  obtain ⟨b, hb⟩ : ∃ b, w.heap.size + 2 = b := ⟨_, rfl⟩
  obtain ⟨mc, hmc⟩ : ∃ mc, w.heap.size + 1 = mc := ⟨_, rfl⟩
  obtain ⟨ml, hml⟩ : ∃ ml, w.heap.size = ml := ⟨_, rfl⟩
  rw [hb, hmc, hml] at hd1
  rw [hb]
  have HN : Hid (w.heap.size ≤ b ∧ w.heap.size ≤ ml ∧ w.heap.size ≤ mc) := ⟨by omega, by omega, by omega⟩
  have HD1 := Lib.hid hd1
  have HF1 := Lib.hid hf1
  clear hd1 hf1 hb hmc hml
  go_wp2_with fail
  -- Write(1, "ab")
  refine (write_k (b := b) (ml := ml) (mc := mc) 1 (l := [97, 98]) _ (HD1.out.kept (Fr.alloc1 _ _)) (new_bytes w1 [97, 98] 2 rfl (by have := HD1.out.lt; simp; omega) rfl _)).mono ?_
  rintro e w2 ⟨rfl, hd2, hf2⟩
  rw [awE1]
  have HD2 : Hid (DevAt w2 b ml mc aw1) := hd2
  have HF2 : Hid (Fr [] w w2) := ((HF1.out.alloc _).andThen hf2 (by have := HN.out; simp; omega))
  clear hd2 hf2
  go_wp2_with fail
  -- Sync
  refine (sync_k _ HD2.out).mono ?_
  rintro e w3 ⟨rfl, hd3, hf3⟩
  rw [awE2]
  have HD3 : Hid (DevAt w3 b ml mc aw2) := hd3
  have HF3 : Hid (Fr [] w w3) := (HF2.out.andThen hf3 (by have := HN.out; simp; omega))
  clear hd3 hf3
  go_wp2_with fail
  -- Write(1, "xyz")
  refine (write_k (b := b) (ml := ml) (mc := mc) 1 (l := [120, 121, 122]) _ (HD3.out.kept (Fr.alloc1 _ _)) (new_bytes w3 [120, 121, 122] 3 rfl (by have := HD3.out.lt; simp; omega) rfl _)).mono ?_
  rintro e w4 ⟨rfl, hd4, hf4⟩
  rw [awE3]
  have HD4 : Hid (DevAt w4 b ml mc aw3) := hd4
  have HF4 : Hid (Fr [] w w4) := ((HF3.out.alloc _).andThen hf4 (by have := HN.out; simp; omega))
  clear hd4 hf4
  go_wp2_with fail
  -- Restart(nil, 1, 1)
  refine (restart_k (keep := []) 1 1 _ HD4.out (Slc.nil _ _) (by simp)).mono ?_
  rintro e w5 ⟨rfl, hd5, hf5⟩
  have HD5 : Hid (DevAt w5 b ml mc aw4) := hd5
  have HF5 : Hid (Fr [] w w5) := (HF4.out.andThen hf5 (by have := HN.out; simp; omega))
  clear hd5 hf5
  go_wp2_with fail
  -- Read(1)
  refine (read_k 1 _ HD5.out awU4).mono ?_
  rintro e w6 ⟨rfl, hb6, hf6, hs6⟩
  have HB6 := Lib.hid hb6
  have HD6 := Lib.hid (HD5.out.kept hf6)
  have HF6 := Lib.hid (HF5.out.trans hf6)
  clear hb6 hf6 hs6
  go_wp2_with fail
  -- Read(9)
  refine (read_no 9 41 _ HD6.out awU5 (by decide)).mono ?_
  rintro e w' ⟨rfl, rfl⟩
  go_wp2_with fail
  -- Fuse(1)
  refine (fuse_k 1 _ HD6.out (by decide) (by decide)).mono ?_
  rintro e w7 ⟨rfl, hd7, hf7, hs7⟩
  have HD7 : Hid (DevAt w7 b ml mc aw5) := hd7
  have HB7 := Lib.hid (Blk.kept HB6.out hf7 (by have := HD5.out.lt; simp; omega))
  have HF7 := Lib.hid (HF6.out.andThen hf7 (by have := HN.out; simp; omega))
  clear hd7 hf7 hs7
  go_wp2_with fail
  -- Write(0, "a")
  refine (write_k (b := b) (ml := ml) (mc := mc) 0 (l := [97]) _ (HD7.out.kept (Fr.alloc1 _ _)) (new_bytes w7 [97] 1 rfl (by have := HD7.out.lt; simp; omega) rfl _)).mono ?_
  rintro e w8 ⟨rfl, hd8, hf8⟩
  rw [awE6]
  have HD8 : Hid (DevAt w8 b ml mc aw6) := hd8
  have HB8 := Lib.hid (Blk.kept (Blk.kept HB7.out (Fr.alloc1 _ _) (by simp)) hf8 (by have := HD5.out.lt; simp; omega))
  have HF8 := Lib.hid ((HF7.out.alloc _).andThen hf8 (by have := HN.out; simp; omega))
  clear hd8 hf8
  go_wp2_with fail
  -- Sync
  refine (sync_k _ HD8.out).mono ?_
  rintro e w9 ⟨rfl, hd9, hf9⟩
  rw [awE7]
  have HD9 : Hid (DevAt w9 b ml mc aw7) := hd9
  have HB9 := Lib.hid (Blk.kept HB8.out hf9 (by have := HD5.out.lt; simp; omega))
  have HF9 := Lib.hid (HF8.out.andThen hf9 (by have := HN.out; simp; omega))
  clear hd9 hf9
  go_wp2_with fail
  -- Lasting
  refine (lasting_k _ HD9.out).mono ?_
  rintro e wa ⟨va, rfl, hka, hfa⟩
  obtain ⟨aa, ca, rfl, _⟩ := (hka [] (by simp)).form
  rw [awL7]
  have HDa := Lib.hid (HD9.out.kept hfa)
  have HBa := Lib.hid (Blk.kept HB9.out hfa (by simp))
  have HFa := Lib.hid (HF9.out.trans hfa)
  clear hka hfa
  go_wp2_with fail
  -- Cached
  refine (cached_k _ HDa.out).mono ?_
  rintro e wb ⟨vb, rfl, hkb, hfb⟩
  obtain ⟨ab, cb, rfl, _⟩ := (hkb [] (by simp)).form
  rw [awC7]
  have HDb := Lib.hid (HDa.out.kept hfb)
  have HBb := Blk.kept HBa.out hfb (by simp)
  have HFb := Lib.hid (HFa.out.trans hfb)
  have hl4 := HD5.out.fine.bytes_length 1
  have k0 := Blk.cell HBb (i := 0) (by omega)
  have k1 := Blk.cell HBb (i := 1) (by omega)
  have k2 := Blk.cell HBb (i := 2) (by omega)
  rw [awB0] at k0
  rw [awB1] at k1
  rw [awB2] at k2
  clear hkb hfb HBb hl4
  go_wp2_with fail
  -- Off, Sectors
  refine (off_k _ HDb.out).mono ?_
  rintro e w' ⟨rfl, rfl⟩
  rw [awO7]
  go_wp2_with fail
  refine (sectors_k _ HDb.out).mono ?_
  rintro e w' ⟨rfl, rfl⟩
  rw [awN7]
  go_wp2
  go_ret
  exact ⟨rfl, HFb.out⟩
end Go.Proofs.Ytgockpichhgijaa
