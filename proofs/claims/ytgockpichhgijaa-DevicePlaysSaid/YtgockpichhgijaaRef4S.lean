/- Did: kinds whose two calls stand in one region that draws. -/
import Derived.Test.YtgockpichhgijaaRef4R
namespace Go.Proofs.Ytgockpichhgijaa
open Go.RowKit Go.MapKept

def spoilF (D : Dv) (k a : Int) (x : UInt8) : Dv := if spoilE D k a = 0 then spoilD D k a x else D
theorem rspoil_any {r LB CB IB : Nat} {D : Dv} (k a : Int) (x : UInt8) (w : World) (h : RefAt w r LB CB IB D) :
    Calls Try.prog 39 #[refP r, .int .i64 k, .int .i64 a, byteV x] w fun e w' => e = .returned (.int .i64 (spoilE D k a)) ∧ RefAt w' r LB CB IB (spoilF D k a x) ∧ Fr [LB, CB] w w' := rspoil_k k a x w h
theorem spoil_any {b ml mc : Nat} {D : Dv} (k a : Int) (x : UInt8) (w : World) (h : DevAt w b ml mc D) :
    Calls Try.prog 26 #[devP b, .int .i64 k, .int .i64 a, byteV x] w fun e w' => e = .returned (.int .i64 (spoilE D k a)) ∧ DevAt w' b ml mc (spoilF D k a x) ∧ Fr [ml, mc] w w' := by
  unfold spoilF
  by_cases hE : spoilE D k a = 0
  · rw [hE, if_pos rfl]
    exact spoil_k k a x w h hE
  · rw [if_neg hE]
    refine (spoil_no k a _ x w h rfl hE).mono ?_
    rintro e w' ⟨rfl, rfl⟩
    exact ⟨rfl, h, Fr.refl _ _⟩

set_option maxRecDepth 100000 in
set_option maxHeartbeats 2000000 in
theorem did2 {b ml mc r LB CB IB : Nat} {D : Dv} {c : CallD} (w : World) (h : Two w b ml mc r LB CB IB D) (hcb : Bytes (twoS b ml mc r LB CB IB) w (.slice c.bp c.b.length c.bc) c.b) (hck : Ints (twoS b ml mc r LB CB IB) w (.slice c.kp c.keep.length c.kc) c.keep)
    (klen : c.keep.length ≤ 9223372036854775807) (hn1 : -9223372036854775808 ≤ c.n) (hn2 : c.n ≤ 9223372036854775807) (hkd : c.kind = 2) :
    Calls Try.prog 23 #[devP b, refP r, .agg #[.int .i64 c.kind, .int .i64 c.n, .slice c.bp c.b.length c.bc, .slice c.kp c.keep.length c.kc, .int .i64 c.cut, byteV c.x]] w (didP b ml mc r LB CB IB (writeD D c.n c.b) w) := by
  have HS := Lib.hid (fun x hx => (Nat.ne_of_lt (h.notIn x hx)))
  have hal := Fr.alloc1 w (.cells #[.int .i64 c.kind, .int .i64 c.n, .slice c.bp c.b.length c.bc, .slice c.kp c.keep.length c.kc, .int .i64 c.cut, byteV c.x] 47)
  have hbk := blk_new w (.cells #[.int .i64 c.kind, .int .i64 c.n, .slice c.bp c.b.length c.bc, .slice c.kp c.keep.length c.kc, .int .i64 c.cut, byteV c.x] 47)
  have HT := Lib.hid (h.kept hal)
  have HCB := Lib.hid (hcb.kept hal.nil)
  have HCK := Lib.hid (Ints.kept hck hal.nil)
  have HAL := Lib.hid (hal.nil (S := twoS b ml mc r LB CB IB))
  have HG : Hid (w.heap.size ∉ twoS b ml mc r LB CB IB) := Lib.hid (fun hm => (Nat.lt_irrefl _ (h.notIn _ hm)))
  have HBK := Lib.hid hbk
  clear hal hbk h hcb hck HS
  unfold byteV at *
  unfold didP
  rw [hkd] at *
  clear hkd
  have m1 := blk_cell HBK.out 1
  have m2 := blk_cell HBK.out 2
  simp only [List.getElem?_toArray, List.getElem?_cons_zero, List.getElem?_cons_succ] at m1 m2
  have HS0 := Lib.hid (⟨m1, m2⟩ : (w.alloc (.cells #[.int .i64 2, .int .i64 c.n, .slice c.bp c.b.length c.bc, .slice c.kp c.keep.length c.kc, .int .i64 c.cut, .int .u8 c.x.toNat] 47)).cell? ⟨w.heap.size, 1, none⟩ = some (.int .i64 c.n) ∧ (w.alloc (.cells #[.int .i64 2, .int .i64 c.n, .slice c.bp c.b.length c.bc, .slice c.kp c.keep.length c.kc, .int .i64 c.cut, .int .u8 c.x.toNat] 47)).cell? ⟨w.heap.size, 2, none⟩ = some (.slice c.bp c.b.length c.bc))
  clear m1 m2
  go_enter Try.func23, Try.ntmps23
  go_wp2_with fail
  go_region_held3 (fun w' => w'.cell? ⟨w.heap.size, 1, none⟩ = some (.int .i64 c.n) ∧ w'.cell? ⟨w.heap.size, 2, none⟩ = some (.slice c.bp c.b.length c.bc)) (first | exact HS0.out | exact ⟨l1, l2⟩ | exact ⟨q1, q2⟩ | go_keep)
    (first
    | (go_at_call 12
       refine (write_k c.n _ HT.out.dev.drew ((HCB.out.kept (Fr.refl _ _).drew).mono (S' := [b, ml, mc]) (by intro x hx; simp only [List.mem_cons, List.not_mem_nil, or_false] at hx ⊢; omega))).mono ?_
       rintro e w1 ⟨rfl, hd1, hf1⟩
       have hf1' : Fr [b, ml, mc] _ w1 := hf1.mono (fun x hx _ => by simp only [List.mem_cons, List.not_mem_nil, or_false] at hx ⊢; omega)
       have HR1 := Lib.hid (HT.out.devDone (Fr.ofDrew hf1'))
       have HF1 := Lib.hid (HAL.out.trans (frDev (r := r) (LB := LB) (CB := CB) (IB := IB) (Fr.ofDrew hf1')))
       have hb1 := (frDev (r := r) (LB := LB) (CB := CB) (IB := IB) (Fr.ofDrew hf1')).heap HBK.out HG.out
       have HCB1 := Lib.hid ((HCB.out.kept (frDev (Fr.ofDrew hf1'))).mono (S' := [r, LB, CB, IB]) (by intro x hx; simp only [List.mem_cons, List.not_mem_nil, or_false] at hx ⊢; omega))
       have HD1 := Lib.hid hd1
       have l1 := blk_cell hb1 1
       have l2 := blk_cell hb1 2
       simp only [List.getElem?_toArray, List.getElem?_cons_zero, List.getElem?_cons_succ] at l1 l2
       clear hf1 hf1' hb1 hd1)
    | (go_at_call 35
       refine (rwrite_k c.n _ HR1.out HCB1.out).mono ?_
       rintro e w2 ⟨rfl, hr2, hf2⟩
       have HD2 := Lib.hid (HD1.out.otherRef HR1.out (hf2.mono (fun x hx _ => by simp only [List.mem_cons, List.not_mem_nil, or_false] at hx ⊢; omega)))
       have hf2' : Fr (twoS b ml mc r LB CB IB) w1 w2 := frRef (hf2.mono (fun x hx _ => by simp only [List.mem_cons, List.not_mem_nil, or_false] at hx ⊢; omega))
       have HR2 := Lib.hid hr2
       have HF2 := Lib.hid (HF1.out.trans hf2')
       have q1 := hf2'.cellSome l1 HG.out
       have q2 := hf2'.cellSome l2 HG.out
       clear hr2 hf2 hf2'))
  all_goals
    go_wp2
    go_ret
    exact ⟨rfl, ⟨HD2.out, HR2.out⟩, HF2.out⟩

set_option maxRecDepth 100000 in
set_option maxHeartbeats 2000000 in
theorem did6 {b ml mc r LB CB IB : Nat} {D : Dv} {c : CallD} (w : World) (h : Two w b ml mc r LB CB IB D) (hcb : Bytes (twoS b ml mc r LB CB IB) w (.slice c.bp c.b.length c.bc) c.b) (hck : Ints (twoS b ml mc r LB CB IB) w (.slice c.kp c.keep.length c.kc) c.keep)
    (klen : c.keep.length ≤ 9223372036854775807) (hn1 : -9223372036854775808 ≤ c.n) (hn2 : c.n ≤ 9223372036854775807) (hkd : c.kind = 6) :
    Calls Try.prog 23 #[devP b, refP r, .agg #[.int .i64 c.kind, .int .i64 c.n, .slice c.bp c.b.length c.bc, .slice c.kp c.keep.length c.kc, .int .i64 c.cut, byteV c.x]] w (didP b ml mc r LB CB IB (spoilF D c.n c.cut c.x) w) := by
  have HS := Lib.hid (fun x hx => (Nat.ne_of_lt (h.notIn x hx)))
  have hal := Fr.alloc1 w (.cells #[.int .i64 c.kind, .int .i64 c.n, .slice c.bp c.b.length c.bc, .slice c.kp c.keep.length c.kc, .int .i64 c.cut, byteV c.x] 47)
  have hbk := blk_new w (.cells #[.int .i64 c.kind, .int .i64 c.n, .slice c.bp c.b.length c.bc, .slice c.kp c.keep.length c.kc, .int .i64 c.cut, byteV c.x] 47)
  have HT := Lib.hid (h.kept hal)
  have HCB := Lib.hid (hcb.kept hal.nil)
  have HCK := Lib.hid (Ints.kept hck hal.nil)
  have HAL := Lib.hid (hal.nil (S := twoS b ml mc r LB CB IB))
  have HG : Hid (w.heap.size ∉ twoS b ml mc r LB CB IB) := Lib.hid (fun hm => (Nat.lt_irrefl _ (h.notIn _ hm)))
  have HBK := Lib.hid hbk
  clear hal hbk h hcb hck HS
  unfold byteV at *
  unfold didP
  rw [hkd] at *
  clear hkd
  have m1 := blk_cell HBK.out 1
  have m4 := blk_cell HBK.out 4
  have m5 := blk_cell HBK.out 5
  simp only [List.getElem?_toArray, List.getElem?_cons_zero, List.getElem?_cons_succ] at m1 m4 m5
  have HS0 := Lib.hid (⟨m1, m4, m5⟩ : (w.alloc (.cells #[.int .i64 6, .int .i64 c.n, .slice c.bp c.b.length c.bc, .slice c.kp c.keep.length c.kc, .int .i64 c.cut, .int .u8 c.x.toNat] 47)).cell? ⟨w.heap.size, 1, none⟩ = some (.int .i64 c.n) ∧ (w.alloc (.cells #[.int .i64 6, .int .i64 c.n, .slice c.bp c.b.length c.bc, .slice c.kp c.keep.length c.kc, .int .i64 c.cut, .int .u8 c.x.toNat] 47)).cell? ⟨w.heap.size, 4, none⟩ = some (.int .i64 c.cut) ∧ (w.alloc (.cells #[.int .i64 6, .int .i64 c.n, .slice c.bp c.b.length c.bc, .slice c.kp c.keep.length c.kc, .int .i64 c.cut, .int .u8 c.x.toNat] 47)).cell? ⟨w.heap.size, 5, none⟩ = some (.int .u8 c.x.toNat))
  clear m1 m4 m5
  go_enter Try.func23, Try.ntmps23
  go_wp2_with fail
  go_region_held3 (fun w' => w'.cell? ⟨w.heap.size, 1, none⟩ = some (.int .i64 c.n) ∧ w'.cell? ⟨w.heap.size, 4, none⟩ = some (.int .i64 c.cut) ∧ w'.cell? ⟨w.heap.size, 5, none⟩ = some (.int .u8 c.x.toNat)) (first | exact HS0.out | exact ⟨l1, l4, l5⟩ | exact ⟨q1, q4, q5⟩ | go_keep)
    (first
    | (go_at_call 26
       refine (spoil_any c.n c.cut c.x _ HT.out.dev.drew).mono ?_
       rintro e w1 ⟨rfl, hd1, hf1⟩
       have hf1' : Fr [b, ml, mc] _ w1 := hf1.mono (fun x hx _ => by simp only [List.mem_cons, List.not_mem_nil, or_false] at hx ⊢; omega)
       have HR1 := Lib.hid (HT.out.devDone (Fr.ofDrew hf1'))
       have HF1 := Lib.hid (HAL.out.trans (frDev (r := r) (LB := LB) (CB := CB) (IB := IB) (Fr.ofDrew hf1')))
       have hb1 := (frDev (r := r) (LB := LB) (CB := CB) (IB := IB) (Fr.ofDrew hf1')).heap HBK.out HG.out
       have HCB1 := Lib.hid ((HCB.out.kept (frDev (Fr.ofDrew hf1'))).mono (S' := [r, LB, CB, IB]) (by intro x hx; simp only [List.mem_cons, List.not_mem_nil, or_false] at hx ⊢; omega))
       have HD1 := Lib.hid hd1
       have l1 := blk_cell hb1 1
       have l4 := blk_cell hb1 4
       have l5 := blk_cell hb1 5
       simp only [List.getElem?_toArray, List.getElem?_cons_zero, List.getElem?_cons_succ] at l1 l4 l5
       clear hf1 hf1' hb1 hd1)
    | (go_at_call 39
       refine (rspoil_any c.n c.cut c.x _ HR1.out).mono ?_
       rintro e w2 ⟨rfl, hr2, hf2⟩
       have HD2 := Lib.hid (HD1.out.otherRef HR1.out (hf2.mono (fun x hx _ => by simp only [List.mem_cons, List.not_mem_nil, or_false] at hx ⊢; omega)))
       have hf2' : Fr (twoS b ml mc r LB CB IB) w1 w2 := frRef (hf2.mono (fun x hx _ => by simp only [List.mem_cons, List.not_mem_nil, or_false] at hx ⊢; omega))
       have HR2 := Lib.hid hr2
       have HF2 := Lib.hid (HF1.out.trans hf2')
       have q1 := hf2'.cellSome l1 HG.out
       have q4 := hf2'.cellSome l4 HG.out
       have q5 := hf2'.cellSome l5 HG.out
       clear hr2 hf2 hf2'))
  all_goals
    go_wp2
    go_ret
    exact ⟨rfl, ⟨HD2.out, HR2.out⟩, HF2.out⟩

/-- Did, whatever the kind. -/
theorem did_k {b ml mc r LB CB IB : Nat} {D : Dv} {c : CallD} (w : World) (h : Two w b ml mc r LB CB IB D) (hcb : Bytes (twoS b ml mc r LB CB IB) w (.slice c.bp c.b.length c.bc) c.b) (hck : Ints (twoS b ml mc r LB CB IB) w (.slice c.kp c.keep.length c.kc) c.keep)
    (klen : c.keep.length ≤ 9223372036854775807) (hn1 : -9223372036854775808 ≤ c.n) (hn2 : c.n ≤ 9223372036854775807) :
    Calls Try.prog 23 #[devP b, refP r, .agg #[.int .i64 c.kind, .int .i64 c.n, .slice c.bp c.b.length c.bc, .slice c.kp c.keep.length c.kc, .int .i64 c.cut, byteV c.x]] w (didP b ml mc r LB CB IB (stepD D c) w) := by
  unfold stepD
  by_cases h2 : c.kind = 2
  · rw [if_pos h2]; exact did2 w h hcb hck klen hn1 hn2 h2
  · rw [if_neg h2]
    by_cases h3 : c.kind = 3
    · rw [if_pos h3]; exact did3 w h hcb hck klen hn1 hn2 h3
    · rw [if_neg h3]
      by_cases h4 : c.kind = 4
      · rw [if_pos h4]; exact did4 w h hcb hck klen hn1 hn2 h4
      · rw [if_neg h4]
        by_cases h5 : c.kind = 5
        · rw [if_pos h5]; exact did5 w h hcb hck klen hn1 hn2 h5
        · rw [if_neg h5]
          by_cases h6 : c.kind = 6
          · rw [if_pos h6]; exact did6 w h hcb hck klen hn1 hn2 h6
          · rw [if_neg h6]
            by_cases h1 : c.kind = 1
            · exact did1 w h hcb hck klen hn1 hn2 h1
            · exact didN w h hcb hck klen hn1 hn2 ⟨h1, h2, h3, h4, h5, h6⟩
end Go.Proofs.Ytgockpichhgijaa
