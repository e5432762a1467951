/- Did: a call is done to a device and to the document's one, and answers the same. -/
import Derived.Test.YtgockpichhgijaaRef4Q
import Derived.Test.YtgockpichhgijaaDone4
import Derived.Deep.RegionHeld3
namespace Go.Proofs.Ytgockpichhgijaa
open Go.RowKit Go.MapKept

theorem bytes_str {S : List Nat} {v : Value} {w : World} {l : List UInt8} (h : Bytes S w v l) : (convert 23 9 v).run Try.prog w = .ok (.string ⟨l.toArray⟩) w :=
  run_string_bytes (P := Try.prog) (w := w) (src := 23) (dst := 9) (e := 5) Try.underlying23 Try.underlying5 Try.underlying9 h

theorem read_any {b ml mc : Nat} {D : Dv} (k : Int) (w : World) (h : DevAt w b ml mc D) :
    Calls Try.prog 14 #[devP b, .int .i64 k] w fun e w' => ∃ v, e = .returned (.tuple #[v, .int .i64 (useE D k 0)]) ∧ Bytes [] w' v (if useE D k 0 = 0 then D.bytes k else []) ∧ Fr [] w w' := by
  by_cases hu : useE D k 0 = 0
  · refine (read_k k w h hu).mono ?_
    rintro e w1 ⟨rfl, hbk, hf1, _⟩
    rw [hu, if_pos rfl]
    exact ⟨_, rfl, hbk.bytes (by simp) (h.fine.bytes_length k), hf1⟩
  · refine (read_no k _ w h rfl hu).mono ?_
    rintro e w1 ⟨rfl, rfl⟩
    rw [if_neg hu]
    exact ⟨_, rfl, Bytes.nil _ _, Fr.refl _ _⟩

/-- The device's own act leaves the document's one, and what came in. -/
theorem Two.devDone {w w' : World} {b ml mc r LB CB IB : Nat} {D : Dv} (h : Two w b ml mc r LB CB IB D) (hf : Fr [b, ml, mc] w w') : RefAt w' r LB CB IB D := h.ref.otherDev h.dev hf
theorem frDev {b ml mc r LB CB IB : Nat} {w w' : World} (hf : Fr [b, ml, mc] w w') : Fr (twoS b ml mc r LB CB IB) w w' := hf.mono (fun x hx _ => by simp only [List.mem_cons, List.not_mem_nil, or_false] at hx ⊢; omega)
theorem frRef {b ml mc r LB CB IB : Nat} {w w' : World} (hf : Fr [r, LB, CB, IB] w w') : Fr (twoS b ml mc r LB CB IB) w w' := hf.mono (fun x hx _ => by simp only [List.mem_cons, List.not_mem_nil, or_false] at hx ⊢; omega)
theorem Two.notIn {w : World} {b ml mc r LB CB IB : Nat} {D : Dv} (h : Two w b ml mc r LB CB IB D) : ∀ x ∈ twoS b ml mc r LB CB IB, x < w.heap.size := by
  have h1 := h.dev.lt
  have h2 := h.ref.lt
  intro x hx
  simp only [List.mem_cons, List.not_mem_nil, or_false] at hx
  omega

abbrev didP (b ml mc r LB CB IB : Nat) (D' : Dv) (w : World) (e : Ending) (w' : World) : Prop := e = .returned (.bool true) ∧ Two w' b ml mc r LB CB IB D' ∧ Fr (twoS b ml mc r LB CB IB) w w'

set_option maxRecDepth 100000 in
set_option maxHeartbeats 2000000 in
theorem did4 {b ml mc r LB CB IB : Nat} {D : Dv} {c : CallD} (w : World) (h : Two w b ml mc r LB CB IB D) (hcb : Bytes (twoS b ml mc r LB CB IB) w (.slice c.bp c.b.length c.bc) c.b) (hck : Ints (twoS b ml mc r LB CB IB) w (.slice c.kp c.keep.length c.kc) c.keep)
    (klen : c.keep.length ≤ 9223372036854775807) (hn1 : -9223372036854775808 ≤ c.n) (hn2 : c.n ≤ 9223372036854775807) (hkd : c.kind = 4) :
    Calls Try.prog 23 #[devP b, refP r, .agg #[.int .i64 c.kind, .int .i64 c.n, .slice c.bp c.b.length c.bc, .slice c.kp c.keep.length c.kc, .int .i64 c.cut, byteV c.x]] w (didP b ml mc r LB CB IB (D.fused c.n) w) := by
  have HS := Lib.hid (fun x hx => (Nat.ne_of_lt (h.notIn x hx)))
  have hal := Fr.alloc1 w (.cells #[.int .i64 c.kind, .int .i64 c.n, .slice c.bp c.b.length c.bc, .slice c.kp c.keep.length c.kc, .int .i64 c.cut, byteV c.x] 47)
  have hbk := blk_new w (.cells #[.int .i64 c.kind, .int .i64 c.n, .slice c.bp c.b.length c.bc, .slice c.kp c.keep.length c.kc, .int .i64 c.cut, byteV c.x] 47)
  have HT := Lib.hid (h.kept hal)
  have HCB := Lib.hid (hcb.kept hal.nil)
  have HCK := Lib.hid (Ints.kept hck hal.nil)
  have HAL := Lib.hid (hal.nil (S := twoS b ml mc r LB CB IB))
  have HG : Hid (w.heap.size ∉ twoS b ml mc r LB CB IB) := Lib.hid (fun hm => (Nat.lt_irrefl _ (h.notIn _ hm)))
  have HBK := Lib.hid hbk
  clear hal hbk h hcb hck HS
  unfold byteV at *
  unfold didP
  rw [hkd] at *
  clear hkd
  go_enter Try.func23, Try.ntmps23
  go_wp2_with fail
  refine (fuse_k c.n _ HT.out.dev hn1 hn2).mono ?_
  rintro e w1 ⟨rfl, hd1, hf1, _⟩
  have HR1 := Lib.hid (HT.out.devDone (hf1.mono (by simp)))
  have HF1 := Lib.hid (HAL.out.trans (frDev (hf1.mono (by simp))))
  have hb1 := (frDev (r := r) (LB := LB) (CB := CB) (IB := IB) (hf1.mono (S' := [b, ml, mc]) (by simp))).heap HBK.out HG.out
  have l1 := blk_cell hb1 1
  have HD1 := Lib.hid hd1
  simp only [List.getElem?_toArray, List.getElem?_cons_zero, List.getElem?_cons_succ] at l1
  clear hd1 hf1 hb1
  go_wp2_with fail
  refine (rfuse_k c.n _ HR1.out hn1 hn2).mono ?_
  rintro e w2 ⟨rfl, hr2, hf2⟩
  have HD2 := Lib.hid (HD1.out.otherRef HR1.out (hf2.mono (by simp)))
  have HR2 := Lib.hid hr2
  have HF2 := Lib.hid (HF1.out.trans (frRef (hf2.mono (by simp))))
  clear hr2 hf2
  go_wp2
  go_ret
  exact ⟨rfl, ⟨HD2.out, HR2.out⟩, HF2.out⟩
set_option maxRecDepth 100000 in
set_option maxHeartbeats 2000000 in
theorem did5 {b ml mc r LB CB IB : Nat} {D : Dv} {c : CallD} (w : World) (h : Two w b ml mc r LB CB IB D) (hcb : Bytes (twoS b ml mc r LB CB IB) w (.slice c.bp c.b.length c.bc) c.b) (hck : Ints (twoS b ml mc r LB CB IB) w (.slice c.kp c.keep.length c.kc) c.keep)
    (klen : c.keep.length ≤ 9223372036854775807) (hn1 : -9223372036854775808 ≤ c.n) (hn2 : c.n ≤ 9223372036854775807) (hkd : c.kind = 5) :
    Calls Try.prog 23 #[devP b, refP r, .agg #[.int .i64 c.kind, .int .i64 c.n, .slice c.bp c.b.length c.bc, .slice c.kp c.keep.length c.kc, .int .i64 c.cut, byteV c.x]] w (didP b ml mc r LB CB IB (restartD D c.keep c.n c.cut) w) := by
  have HS := Lib.hid (fun x hx => (Nat.ne_of_lt (h.notIn x hx)))
  have hal := Fr.alloc1 w (.cells #[.int .i64 c.kind, .int .i64 c.n, .slice c.bp c.b.length c.bc, .slice c.kp c.keep.length c.kc, .int .i64 c.cut, byteV c.x] 47)
  have hbk := blk_new w (.cells #[.int .i64 c.kind, .int .i64 c.n, .slice c.bp c.b.length c.bc, .slice c.kp c.keep.length c.kc, .int .i64 c.cut, byteV c.x] 47)
  have HT := Lib.hid (h.kept hal)
  have HCB := Lib.hid (hcb.kept hal.nil)
  have HCK := Lib.hid (Ints.kept hck hal.nil)
  have HAL := Lib.hid (hal.nil (S := twoS b ml mc r LB CB IB))
  have HG : Hid (w.heap.size ∉ twoS b ml mc r LB CB IB) := Lib.hid (fun hm => (Nat.lt_irrefl _ (h.notIn _ hm)))
  have HBK := Lib.hid hbk
  clear hal hbk h hcb hck HS
  unfold byteV at *
  unfold didP
  rw [hkd] at *
  clear hkd
  go_enter Try.func23, Try.ntmps23
  go_wp2_with fail
  refine (restart_k c.n c.cut _ HT.out.dev (HCK.out.mono (by intro x hx; simp only [List.mem_cons, List.not_mem_nil, or_false] at hx ⊢; omega)) klen).mono ?_
  rintro e w1 ⟨rfl, hd1, hf1⟩
  have hf1' : Fr [b, ml, mc] _ w1 := hf1.mono (fun x hx _ => by simp only [List.mem_cons, List.not_mem_nil, or_false] at hx ⊢; omega)
  have HR1 := Lib.hid (HT.out.devDone hf1')
  have HF1 := Lib.hid (HAL.out.trans (frDev (r := r) (LB := LB) (CB := CB) (IB := IB) hf1'))
  have hb1 := (frDev (r := r) (LB := LB) (CB := CB) (IB := IB) hf1').heap HBK.out HG.out
  have HCB1 := Lib.hid ((HCB.out.kept (frDev hf1')).mono (S' := [r, LB, CB, IB]) (by intro x hx; simp only [List.mem_cons, List.not_mem_nil, or_false] at hx ⊢; omega))
  have HCK1 := Lib.hid ((Ints.kept HCK.out (frDev hf1')).mono (S' := [r, LB, CB, IB]) (by intro x hx; simp only [List.mem_cons, List.not_mem_nil, or_false] at hx ⊢; omega))
  have HD1 := Lib.hid hd1
  have l1 := blk_cell hb1 1
  have l3 := blk_cell hb1 3
  have l4 := blk_cell hb1 4
  simp only [List.getElem?_toArray, List.getElem?_cons_zero, List.getElem?_cons_succ] at l1 l3 l4
  clear hd1 hf1 hf1' hb1
  go_wp2_with fail
  refine (rrestart_k c.n c.cut _ HR1.out HCK1.out klen).mono ?_
  rintro e w2 ⟨rfl, hr2, hf2⟩
  have HD2 := Lib.hid (HD1.out.otherRef HR1.out (hf2.mono (fun x hx _ => by simp only [List.mem_cons, List.not_mem_nil, or_false] at hx ⊢; omega)))
  have HR2 := Lib.hid hr2
  have HF2 := Lib.hid (HF1.out.trans (frRef (hf2.mono (fun x hx _ => by simp only [List.mem_cons, List.not_mem_nil, or_false] at hx ⊢; omega))))
  clear hr2 hf2
  go_wp2
  go_ret
  exact ⟨rfl, ⟨HD2.out, HR2.out⟩, HF2.out⟩
set_option maxRecDepth 100000 in
set_option maxHeartbeats 2000000 in
theorem did3 {b ml mc r LB CB IB : Nat} {D : Dv} {c : CallD} (w : World) (h : Two w b ml mc r LB CB IB D) (hcb : Bytes (twoS b ml mc r LB CB IB) w (.slice c.bp c.b.length c.bc) c.b) (hck : Ints (twoS b ml mc r LB CB IB) w (.slice c.kp c.keep.length c.kc) c.keep)
    (klen : c.keep.length ≤ 9223372036854775807) (hn1 : -9223372036854775808 ≤ c.n) (hn2 : c.n ≤ 9223372036854775807) (hkd : c.kind = 3) :
    Calls Try.prog 23 #[devP b, refP r, .agg #[.int .i64 c.kind, .int .i64 c.n, .slice c.bp c.b.length c.bc, .slice c.kp c.keep.length c.kc, .int .i64 c.cut, byteV c.x]] w (didP b ml mc r LB CB IB (syncD D) w) := by
  have HS := Lib.hid (fun x hx => (Nat.ne_of_lt (h.notIn x hx)))
  have hal := Fr.alloc1 w (.cells #[.int .i64 c.kind, .int .i64 c.n, .slice c.bp c.b.length c.bc, .slice c.kp c.keep.length c.kc, .int .i64 c.cut, byteV c.x] 47)
  have hbk := blk_new w (.cells #[.int .i64 c.kind, .int .i64 c.n, .slice c.bp c.b.length c.bc, .slice c.kp c.keep.length c.kc, .int .i64 c.cut, byteV c.x] 47)
  have HT := Lib.hid (h.kept hal)
  have HCB := Lib.hid (hcb.kept hal.nil)
  have HCK := Lib.hid (Ints.kept hck hal.nil)
  have HAL := Lib.hid (hal.nil (S := twoS b ml mc r LB CB IB))
  have HG : Hid (w.heap.size ∉ twoS b ml mc r LB CB IB) := Lib.hid (fun hm => (Nat.lt_irrefl _ (h.notIn _ hm)))
  have HBK := Lib.hid hbk
  clear hal hbk h hcb hck HS
  unfold byteV at *
  unfold didP
  rw [hkd] at *
  clear hkd
  go_enter Try.func23, Try.ntmps23
  go_wp2_with fail
  refine (sync_k _ HT.out.dev).mono ?_
  rintro e w1 ⟨rfl, hd1, hf1⟩
  have hf1' : Fr [b, ml, mc] _ w1 := hf1.mono (fun x hx _ => by simp only [List.mem_cons, List.not_mem_nil, or_false] at hx ⊢; omega)
  have HR1 := Lib.hid (HT.out.devDone hf1')
  have HF1 := Lib.hid (HAL.out.trans (frDev (r := r) (LB := LB) (CB := CB) (IB := IB) hf1'))
  have hb1 := (frDev (r := r) (LB := LB) (CB := CB) (IB := IB) hf1').heap HBK.out HG.out
  have HCB1 := Lib.hid ((HCB.out.kept (frDev hf1')).mono (S' := [r, LB, CB, IB]) (by intro x hx; simp only [List.mem_cons, List.not_mem_nil, or_false] at hx ⊢; omega))
  have HCK1 := Lib.hid ((Ints.kept HCK.out (frDev hf1')).mono (S' := [r, LB, CB, IB]) (by intro x hx; simp only [List.mem_cons, List.not_mem_nil, or_false] at hx ⊢; omega))
  have HD1 := Lib.hid hd1
  clear hd1 hf1 hf1' hb1
  go_wp2_with fail
  refine (rsync_k _ HR1.out).mono ?_
  rintro e w2 ⟨rfl, hr2, hf2⟩
  have HD2 := Lib.hid (HD1.out.otherRef HR1.out (hf2.mono (fun x hx _ => by simp only [List.mem_cons, List.not_mem_nil, or_false] at hx ⊢; omega)))
  have HR2 := Lib.hid hr2
  have HF2 := Lib.hid (HF1.out.trans (frRef (hf2.mono (fun x hx _ => by simp only [List.mem_cons, List.not_mem_nil, or_false] at hx ⊢; omega))))
  clear hr2 hf2
  go_wp2
  go_ret
  exact ⟨rfl, ⟨HD2.out, HR2.out⟩, HF2.out⟩
set_option maxRecDepth 100000 in
set_option maxHeartbeats 2000000 in
theorem didN {b ml mc r LB CB IB : Nat} {D : Dv} {c : CallD} (w : World) (h : Two w b ml mc r LB CB IB D) (hcb : Bytes (twoS b ml mc r LB CB IB) w (.slice c.bp c.b.length c.bc) c.b) (hck : Ints (twoS b ml mc r LB CB IB) w (.slice c.kp c.keep.length c.kc) c.keep)
    (klen : c.keep.length ≤ 9223372036854775807) (hn1 : -9223372036854775808 ≤ c.n) (hn2 : c.n ≤ 9223372036854775807) (hkd : c.kind ≠ 1 ∧ c.kind ≠ 2 ∧ c.kind ≠ 3 ∧ c.kind ≠ 4 ∧ c.kind ≠ 5 ∧ c.kind ≠ 6) :
    Calls Try.prog 23 #[devP b, refP r, .agg #[.int .i64 c.kind, .int .i64 c.n, .slice c.bp c.b.length c.bc, .slice c.kp c.keep.length c.kc, .int .i64 c.cut, byteV c.x]] w (didP b ml mc r LB CB IB (D) w) := by
  have HS := Lib.hid (fun x hx => (Nat.ne_of_lt (h.notIn x hx)))
  have hal := Fr.alloc1 w (.cells #[.int .i64 c.kind, .int .i64 c.n, .slice c.bp c.b.length c.bc, .slice c.kp c.keep.length c.kc, .int .i64 c.cut, byteV c.x] 47)
  have hbk := blk_new w (.cells #[.int .i64 c.kind, .int .i64 c.n, .slice c.bp c.b.length c.bc, .slice c.kp c.keep.length c.kc, .int .i64 c.cut, byteV c.x] 47)
  have HT := Lib.hid (h.kept hal)
  have HCB := Lib.hid (hcb.kept hal.nil)
  have HCK := Lib.hid (Ints.kept hck hal.nil)
  have HAL := Lib.hid (hal.nil (S := twoS b ml mc r LB CB IB))
  have HG : Hid (w.heap.size ∉ twoS b ml mc r LB CB IB) := Lib.hid (fun hm => (Nat.lt_irrefl _ (h.notIn _ hm)))
  have HBK := Lib.hid hbk
  clear hal hbk h hcb hck HS
  unfold byteV at *
  unfold didP
  obtain ⟨k1, k2, k3, k4, k5, k6⟩ := hkd
  go_enter Try.func23, Try.ntmps23
  go_wp2
  go_ret
  exact ⟨rfl, HT.out, HAL.out⟩
set_option maxRecDepth 100000 in
set_option maxHeartbeats 2000000 in
theorem did1 {b ml mc r LB CB IB : Nat} {D : Dv} {c : CallD} (w : World) (h : Two w b ml mc r LB CB IB D) (hcb : Bytes (twoS b ml mc r LB CB IB) w (.slice c.bp c.b.length c.bc) c.b) (hck : Ints (twoS b ml mc r LB CB IB) w (.slice c.kp c.keep.length c.kc) c.keep)
    (klen : c.keep.length ≤ 9223372036854775807) (hn1 : -9223372036854775808 ≤ c.n) (hn2 : c.n ≤ 9223372036854775807) (hkd : c.kind = 1) :
    Calls Try.prog 23 #[devP b, refP r, .agg #[.int .i64 c.kind, .int .i64 c.n, .slice c.bp c.b.length c.bc, .slice c.kp c.keep.length c.kc, .int .i64 c.cut, byteV c.x]] w (didP b ml mc r LB CB IB (D) w) := by
  have HS := Lib.hid (fun x hx => (Nat.ne_of_lt (h.notIn x hx)))
  have hal := Fr.alloc1 w (.cells #[.int .i64 c.kind, .int .i64 c.n, .slice c.bp c.b.length c.bc, .slice c.kp c.keep.length c.kc, .int .i64 c.cut, byteV c.x] 47)
  have hbk := blk_new w (.cells #[.int .i64 c.kind, .int .i64 c.n, .slice c.bp c.b.length c.bc, .slice c.kp c.keep.length c.kc, .int .i64 c.cut, byteV c.x] 47)
  have HT := Lib.hid (h.kept hal)
  have HCB := Lib.hid (hcb.kept hal.nil)
  have HCK := Lib.hid (Ints.kept hck hal.nil)
  have HAL := Lib.hid (hal.nil (S := twoS b ml mc r LB CB IB))
  have HG : Hid (w.heap.size ∉ twoS b ml mc r LB CB IB) := Lib.hid (fun hm => (Nat.lt_irrefl _ (h.notIn _ hm)))
  have HBK := Lib.hid hbk
  clear hal hbk h hcb hck HS
  unfold byteV at *
  unfold didP
  rw [hkd] at *
  clear hkd
  go_enter Try.func23, Try.ntmps23
  go_wp2_with fail
  refine (read_any c.n _ HT.out.dev).mono ?_
  rintro e w1 ⟨v1, rfl, hv1, hf1⟩
  have HT1 := Lib.hid (HT.out.kept hf1)
  have HF1 := Lib.hid (HAL.out.trans hf1.nil)
  have l1 := blk_cell (hf1.heap HBK.out (by simp)) 1
  simp only [List.getElem?_toArray, List.getElem?_cons_zero, List.getElem?_cons_succ] at l1
  have HST := Lib.hid (bytes_str hv1)
  clear hv1 hf1
  go_wp2_with fail
  refine (rread_k c.n _ HT1.out.ref).mono ?_
  rintro e w2 ⟨v, rfl, hv, rfl⟩
  have hs2 := bytes_str hv
  have hs1 := HST.out
  clear hv HST
  generalize useE D c.n 0 = u at *
  generalize (if u = 0 then D.bytes c.n else []) = l at *
  go_wp2
  go_ret
  exact ⟨rfl, HT1.out, HF1.out⟩
end Go.Proofs.Ytgockpichhgijaa
