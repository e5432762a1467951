/- DeviceOrder, walked. -/
import Derived.Test.YtgockpichhgijaaWOrd4A
import Derived.StillTailTactics
namespace Go.Proofs.Ytgockpichhgijaa
open Go.RowKit Go.MapKept

set_option maxRecDepth 100000 in
set_option maxHeartbeats 4000000 in
theorem DeviceOrder_walk (W : World) {v0 : Value} {l0 : List UInt8} (b0 : Bytes [] W v0 l0) (_m0 : l0.length ≤ maxLen) {v1 : Value} {l1 : List UInt8} (b1 : Bytes [] W v1 l1) (_m1 : l1.length ≤ maxLen) (a2 : Int) (w2 : (Lit.int .u8 a2).wf = true) (a3 : Int) (w3 : (Lit.int .u8 a3).wf = true) :
    Calls Try.prog 6 #[v0, v1, .int .u8 a2, .int .u8 a3] W fun e w' => e = .returned (.bool true) ∧ Fr [] W w' := by
  obtain ⟨p0, q0, rfl, _⟩ := Slc.form b0
  obtain ⟨p1, q1, rfl, _⟩ := Slc.form b1
  obtain ⟨h2a, h2b⟩ := u8_bd w2
  obtain ⟨h3a, h3b⟩ := u8_bd w3
  clear w2 w3 _m0 _m1
  have B0 := Lib.hid b0
  have B1 := Lib.hid b1
  clear b0 b1
  go_enter Try.func6, Try.ntmps6
  go_wp2_with fail
  refine (awake_k _).mono ?_
  rintro e w1 ⟨rfl, hf1⟩
  have HF1 := Lib.hid hf1
  clear hf1
  by_cases hl0 : 1000 < l0.length
  · go_wp2
    go_ret
    exact ⟨rfl, HF1.out⟩
  by_cases hl1 : 1000 < l1.length
  · go_wp2
    go_ret
    exact ⟨rfl, HF1.out⟩
  have hl0' : l0.length ≤ 1000 := by omega
  have hl1' : l1.length ≤ 1000 := by omega
  clear hl0 hl1
  go_wp2_with fail
  refine (new_k 8 _ (by omega) (by omega)).mono ?_
  rintro e w2 ⟨rfl, hd2, hf2⟩
  obtain ⟨b, hb⟩ : ∃ b, w1.heap.size + 2 = b := ⟨_, rfl⟩
  obtain ⟨mc, hmc⟩ : ∃ mc, w1.heap.size + 1 = mc := ⟨_, rfl⟩
  obtain ⟨ml, hml⟩ : ∃ ml, w1.heap.size = ml := ⟨_, rfl⟩
  rw [hb, hmc, hml] at hd2
  rw [hb]
  have HN : Hid (W.heap.size ≤ b ∧ W.heap.size ≤ ml ∧ W.heap.size ≤ mc) := by have := HF1.out.size; exact ⟨by omega, by omega, by omega⟩
  have HD2 := Lib.hid hd2
  have HF2 := Lib.hid (HF1.out.trans hf2)
  clear hd2 hf2 hb hmc hml
  go_wp2_with fail
  refine (new_k 8 _ (by omega) (by omega)).mono ?_
  rintro e w3 ⟨rfl, he3, hf3⟩
  obtain ⟨eb, hb⟩ : ∃ b, w2.heap.size + 2 = b := ⟨_, rfl⟩
  obtain ⟨emc, hmc⟩ : ∃ mc, w2.heap.size + 1 = mc := ⟨_, rfl⟩
  obtain ⟨eml, hml⟩ : ∃ ml, w2.heap.size = ml := ⟨_, rfl⟩
  rw [hb, hmc, hml] at he3
  rw [hb]
  have HX : Hid ((∀ x ∈ [b, ml, mc], x ∉ [eb, eml, emc]) ∧ (∀ x ∈ [eb, eml, emc], x ∉ [b, ml, mc]) ∧ W.heap.size ≤ eb ∧ W.heap.size ≤ eml ∧ W.heap.size ≤ emc) := by
    have h1 := HD2.out.lt
    have h2 := HF2.out.size
    simp only [List.mem_cons, List.not_mem_nil, or_false]
    refine ⟨fun x hx => by omega, fun x hx => by omega, by omega, by omega, by omega⟩
  have HD3 := Lib.hid (HD2.out.kept hf3)
  have HE3 := Lib.hid he3
  have HF3 := Lib.hid (HF2.out.trans hf3)
  clear he3 hf3 hb hmc hml
  have hx0 : (0 : Int) ≤ a2 % 8 ∧ a2 % 8 < 8 := by omega
  have hy0 : (0 : Int) ≤ a3 % 8 ∧ a3 % 8 < 8 := by omega
  have HR : Hid (∀ {w' : World} {S : List Nat} {v : Value} {l : List UInt8}, Bytes [] W v l → Fr [] W w' → (∀ x ∈ S, W.heap.size ≤ x) → Bytes S w' v l) :=
    fun hb hf hs => (hb.more (fun x hx => .inr (hs x hx))).kept hf.nil
  have hSd : Hid (∀ x ∈ [b, ml, mc], W.heap.size ≤ x) := by have := HN.out; intro x hx; simp only [List.mem_cons, List.not_mem_nil, or_false] at hx; omega
  have hSe : Hid (∀ x ∈ [eb, eml, emc], W.heap.size ≤ x) := by have := HX.out.2.2; intro x hx; simp only [List.mem_cons, List.not_mem_nil, or_false] at hx; omega
  -- d.Write(x, a)
  have q1 := (Calm.new 8).write hx0.1 hx0.2 (l := l0) (by omega)
  have Q1 := Lib.hid q1
  clear q1
  go_wp2_with fail
  refine (write_k (b := b) (ml := ml) (mc := mc) (a2 % 8) (l := l0) _ HD3.out (HR.out B0.out HF3.out hSd.out)).mono ?_
  rintro e w4 ⟨rfl, hd4, hf4⟩
  rw [Q1.out.2.1] at hd4
  rw [Q1.out.1]
  have HD4 := Lib.hid hd4
  have HE4 := Lib.hid (HE3.out.other HD3.out HX.out.2.1 (hf4.mono (by simp)))
  have HF4 := Lib.hid (HF3.out.andThen hf4 (by have := HN.out; simp; omega))
  clear hd4 hf4
  -- d.Write(y, b)
  have q2 := Q1.out.2.2.write hy0.1 hy0.2 (l := l1) (by omega)
  have Q2 := Lib.hid q2
  clear q2
  go_wp2_with fail
  refine (write_k (b := b) (ml := ml) (mc := mc) (a3 % 8) (l := l1) _ HD4.out (HR.out B1.out HF4.out hSd.out)).mono ?_
  rintro e w5 ⟨rfl, hd5, hf5⟩
  rw [Q2.out.2.1] at hd5
  rw [Q2.out.1]
  have HD5 := Lib.hid hd5
  have HE5 := Lib.hid (HE4.out.other HD4.out HX.out.2.1 (hf5.mono (by simp)))
  have HF5 := Lib.hid (HF4.out.andThen hf5 (by have := HN.out; simp; omega))
  clear hd5 hf5
  -- e.Write(y, b)
  have q3 := (Calm.new 8).write hy0.1 hy0.2 (l := l1) (by omega)
  have Q3 := Lib.hid q3
  clear q3
  go_wp2_with fail
  refine (write_k (b := eb) (ml := eml) (mc := emc) (a3 % 8) (l := l1) _ HE5.out (HR.out B1.out HF5.out hSe.out)).mono ?_
  rintro e w6 ⟨rfl, he6, hf6⟩
  rw [Q3.out.2.1] at he6
  rw [Q3.out.1]
  have HE6 := Lib.hid he6
  have HD6 := Lib.hid (HD5.out.other HE5.out HX.out.1 (hf6.mono (by simp)))
  have HF6 := Lib.hid (HF5.out.andThen hf6 (by have := HX.out.2.2; simp; omega))
  clear he6 hf6
  have HC : Hid (∃ C : Int → Option (List UInt8), upd (upd (fun _ => none) (a2 % 8) (some (pad l0))) (a3 % 8) (some (pad l1)) = C ∧ C (a3 % 8) = some (pad l1)) := ⟨_, rfl, upd_same _ _ _⟩
  by_cases hxy : a2 % 8 = a3 % 8
  · have hxb : (a2 % 8 != a3 % 8) = false := by simp [hxy]
    obtain ⟨C, hC, hCy⟩ := HC.out
    have h6d : DevAt w6 b ml mc { n := 8, last := fun _ => none, cache := C, off := false, fuse := -1 } := by rw [← hC]; exact HD6.out
    have h6e : DevAt w6 eb eml emc { n := 8, last := fun _ => none, cache := C, off := false, fuse := -1 } := by rw [← hC, hxy, upd_upd]; exact HE6.out
    have hyb := hy0
    have HCY := Lib.hid hCy
    have HF7 := HF6
    have HB := HCY
    clear hC hCy hxy HC HD2 HD3 HD4 HD5 HD6 HE3 HE4 HE5 HE6 Q1 Q2 Q3
    generalize a2 % 8 = x at *
    generalize a3 % 8 = y at *
    obtain ⟨D, E, hDD, hsE, hsD, hu, hbb, hcl, hll⟩ := order_plain hyb HCY.out
    rw [hDD] at h6d h6e
    have H6d := Lib.hid h6d
    have H6e := Lib.hid h6e
    have HP := Lib.hid (And.intro hsE (And.intro hsD (And.intro hu (And.intro hbb (And.intro hcl hll)))))
    clear h6d h6e hDD hsE hsD hu hbb hcl hll HCY hyb
    go_wp2_with fail
    refine (sync_k _ H6d.out).mono ?_
    rintro e ws ⟨rfl, hds, hfs⟩
    rw [HP.out.2.1] at hds
    rw [HP.out.1]
    have HDs := Lib.hid hds
    have HEs := Lib.hid (H6e.out.other H6d.out HX.out.2.1 hfs)
    have HFs := Lib.hid (HF7.out.andThen hfs (by have := HN.out; simp; omega))
    clear hds hfs
    go_wp2_with fail
    refine (sync_k _ HEs.out).mono ?_
    rintro e wt ⟨rfl, het, hft⟩
    rw [HP.out.2.1] at het
    rw [HP.out.1]
    have HEt := Lib.hid het
    have HDt := Lib.hid (HDs.out.other HEs.out HX.out.1 hft)
    have HFt := Lib.hid (HFs.out.andThen hft (by have := HX.out.2.2; simp; omega))
    clear het hft
    go_wp2_with fail
    refine (lasting_k _ HDt.out).mono ?_
    rintro e wu ⟨vu, rfl, hku, hfu⟩
    have HKu := Lib.hid (hku [] (by simp))
    have HDu := Lib.hid (HDt.out.kept hfu)
    have HEu := Lib.hid (HEt.out.kept hfu)
    have HFu := Lib.hid (HFt.out.trans hfu)
    clear hku hfu
    go_wp2_with fail
    refine (lasting_k _ HEu.out).mono ?_
    rintro e wv ⟨vv, rfl, hkv, hfv⟩
    have HKv := Lib.hid (hkv [] (by simp))
    have HKu' := Lib.hid (HKu.out.kept hfv)
    have HDv := Lib.hid (HDu.out.kept hfv)
    have HFv := Lib.hid (HFu.out.trans hfv)
    clear hkv hfv
    go_wp2_with fail
    refine (same_k _ HKu'.out HKv.out HP.out.2.2.2.2.2).mono ?_
    rintro e wx ⟨rfl, hfx⟩
    rw [show decide (lastingL E = lastingL E) = true from decide_eq_true rfl]
    have HDx := Lib.hid (HDv.out.kept hfx)
    have HFx := Lib.hid (HFv.out.trans hfx)
    clear hfx
    go_wp2_with fail
    refine (read_k y _ HDx.out HP.out.2.2.1).mono ?_
    rintro e wy ⟨rfl, hby, hfy, hsy⟩
    rw [HP.out.2.2.2.1] at hby
    have hle : l1.length ≤ 1024 := by omega
    have hl4 : (l1.length : Int) ≤ 1024 := by omega
    have hl5 : (0 : Int) ≤ (l1.length : Int) := by omega
    obtain ⟨A, hA⟩ : ∃ A, wx.heap.size = A := ⟨_, rfl⟩
    rw [hA] at hby
    rw [hA]
    have hty : Bytes [] wy (.slice (some ⟨A, 0, none⟩) l1.length 1024) l1 := by
      have := (Blk.bytes (S := []) (n := 1024) hby (by simp) (pad_length hle)).take (k := l1.length) (by rw [pad_length hle]; exact hle)
      have e : (pad l1).take l1.length = l1 := by unfold pad; exact List.take_left
      rw [e] at this
      exact this
    have HDy := Lib.hid (HDx.out.kept hfy)
    have HFy := Lib.hid (HFx.out.trans hfy)
    have h1y : Bytes [] wy (.slice p1 l1.length q1) l1 := HR.out B1.out HFy.out (by simp)
    have s1 := run_string_bytes (P := Try.prog) (w := wy.drew) (src := 23) (dst := 9) (e := 5) Try.underlying23 Try.underlying5 Try.underlying9 (by exact hty)
    have s2 := run_string_bytes (P := Try.prog) (w := wy.drew) (src := 23) (dst := 9) (e := 5) Try.underlying23 Try.underlying5 Try.underlying9 (by exact h1y)
    have HDq := Lib.hid HDy.out.drew
    have HFq := Lib.hid HFy.out.drew
    clear hby hfy hsy hty h1y hA HB HX H6d H6e HDs HEs HFs HDt HEt HFt HDu HEu HFu HDv HFv HFx HDx HF1 HF2 HF3 HF4 HF5 HF6 HF7 HKu HKv HKu' HR hSd hSe HN B0 B1 HDy HFy
    go_wp2_with fail
    refine wp_region_still_tail 22 (by kernel_rfl) (by kernel_rfl) ?_
    simp only [List.take_succ_cons, List.take_zero, List.drop_succ_cons, List.drop_zero]
    repeat still_step
    refine wpStill_nil ?_
    go_wp2_with fail
    refine (cached_k (b := b) (ml := ml) (mc := mc) _ HDq.out).mono ?_
    rintro e wz ⟨vz, rfl, hkz, hfz⟩
    obtain ⟨az, cz, rfl, _⟩ := (hkz [] (by simp)).form
    rw [HP.out.2.2.2.2.1]
    have HFz := Lib.hid (HFq.out.trans hfz)
    clear hkz hfz
    go_wp2
    go_ret
    exact ⟨rfl, HFz.out⟩
  · have hxb : (a2 % 8 != a3 % 8) = true := by simp [hxy]
    have q4 := Q3.out.2.2.write hx0.1 hx0.2 (l := l0) (by omega)
    have Q4 := Lib.hid q4
    clear q4
    go_wp2_with fail
    refine (write_k (b := eb) (ml := eml) (mc := emc) (a2 % 8) (l := l0) _ HE6.out (HR.out B0.out HF6.out hSe.out)).mono ?_
    rintro e w7 ⟨rfl, he7, hf7⟩
    rw [Q4.out.2.1] at he7
    rw [Q4.out.1]
    have HE7 := Lib.hid he7
    have HD7 := Lib.hid (HD6.out.other HE6.out HX.out.1 (hf7.mono (by simp)))
    have HF7 := Lib.hid (HF6.out.andThen hf7 (by have := HX.out.2.2; simp; omega))
    clear he7 hf7
    obtain ⟨C, hC, hCy⟩ := HC.out
    have h6d : DevAt w7 b ml mc { n := 8, last := fun _ => none, cache := C, off := false, fuse := -1 } := by rw [← hC]; exact HD7.out
    have h6e : DevAt w7 eb eml emc { n := 8, last := fun _ => none, cache := C, off := false, fuse := -1 } := by rw [← hC, upd_comm _ hxy]; exact HE7.out
    have hyb := hy0
    have HCY := Lib.hid hCy
    have HB := HCY
    clear hC hCy hxy HC HD2 HD3 HD4 HD5 HD6 HE3 HE4 HE5 HE6 HE7 HD7 Q1 Q2 Q3 Q4
    generalize a2 % 8 = x at *
    generalize a3 % 8 = y at *
    obtain ⟨D, E, hDD, hsE, hsD, hu, hbb, hcl, hll⟩ := order_plain hyb HCY.out
    rw [hDD] at h6d h6e
    have H6d := Lib.hid h6d
    have H6e := Lib.hid h6e
    have HP := Lib.hid (And.intro hsE (And.intro hsD (And.intro hu (And.intro hbb (And.intro hcl hll)))))
    clear h6d h6e hDD hsE hsD hu hbb hcl hll HCY hyb
    go_wp2_with fail
    refine (sync_k _ H6d.out).mono ?_
    rintro e ws ⟨rfl, hds, hfs⟩
    rw [HP.out.2.1] at hds
    rw [HP.out.1]
    have HDs := Lib.hid hds
    have HEs := Lib.hid (H6e.out.other H6d.out HX.out.2.1 hfs)
    have HFs := Lib.hid (HF7.out.andThen hfs (by have := HN.out; simp; omega))
    clear hds hfs
    go_wp2_with fail
    refine (sync_k _ HEs.out).mono ?_
    rintro e wt ⟨rfl, het, hft⟩
    rw [HP.out.2.1] at het
    rw [HP.out.1]
    have HEt := Lib.hid het
    have HDt := Lib.hid (HDs.out.other HEs.out HX.out.1 hft)
    have HFt := Lib.hid (HFs.out.andThen hft (by have := HX.out.2.2; simp; omega))
    clear het hft
    go_wp2_with fail
    refine (lasting_k _ HDt.out).mono ?_
    rintro e wu ⟨vu, rfl, hku, hfu⟩
    have HKu := Lib.hid (hku [] (by simp))
    have HDu := Lib.hid (HDt.out.kept hfu)
    have HEu := Lib.hid (HEt.out.kept hfu)
    have HFu := Lib.hid (HFt.out.trans hfu)
    clear hku hfu
    go_wp2_with fail
    refine (lasting_k _ HEu.out).mono ?_
    rintro e wv ⟨vv, rfl, hkv, hfv⟩
    have HKv := Lib.hid (hkv [] (by simp))
    have HKu' := Lib.hid (HKu.out.kept hfv)
    have HDv := Lib.hid (HDu.out.kept hfv)
    have HFv := Lib.hid (HFu.out.trans hfv)
    clear hkv hfv
    go_wp2_with fail
    refine (same_k _ HKu'.out HKv.out HP.out.2.2.2.2.2).mono ?_
    rintro e wx ⟨rfl, hfx⟩
    rw [show decide (lastingL E = lastingL E) = true from decide_eq_true rfl]
    have HDx := Lib.hid (HDv.out.kept hfx)
    have HFx := Lib.hid (HFv.out.trans hfx)
    clear hfx
    go_wp2_with fail
    refine (read_k y _ HDx.out HP.out.2.2.1).mono ?_
    rintro e wy ⟨rfl, hby, hfy, hsy⟩
    rw [HP.out.2.2.2.1] at hby
    have hle : l1.length ≤ 1024 := by omega
    have hl4 : (l1.length : Int) ≤ 1024 := by omega
    have hl5 : (0 : Int) ≤ (l1.length : Int) := by omega
    obtain ⟨A, hA⟩ : ∃ A, wx.heap.size = A := ⟨_, rfl⟩
    rw [hA] at hby
    rw [hA]
    have hty : Bytes [] wy (.slice (some ⟨A, 0, none⟩) l1.length 1024) l1 := by
      have := (Blk.bytes (S := []) (n := 1024) hby (by simp) (pad_length hle)).take (k := l1.length) (by rw [pad_length hle]; exact hle)
      have e : (pad l1).take l1.length = l1 := by unfold pad; exact List.take_left
      rw [e] at this
      exact this
    have HDy := Lib.hid (HDx.out.kept hfy)
    have HFy := Lib.hid (HFx.out.trans hfy)
    have h1y : Bytes [] wy (.slice p1 l1.length q1) l1 := HR.out B1.out HFy.out (by simp)
    have s1 := run_string_bytes (P := Try.prog) (w := wy.drew) (src := 23) (dst := 9) (e := 5) Try.underlying23 Try.underlying5 Try.underlying9 (by exact hty)
    have s2 := run_string_bytes (P := Try.prog) (w := wy.drew) (src := 23) (dst := 9) (e := 5) Try.underlying23 Try.underlying5 Try.underlying9 (by exact h1y)
    have HDq := Lib.hid HDy.out.drew
    have HFq := Lib.hid HFy.out.drew
    clear hby hfy hsy hty h1y hA HB HX H6d H6e HDs HEs HFs HDt HEt HFt HDu HEu HFu HDv HFv HFx HDx HF1 HF2 HF3 HF4 HF5 HF6 HF7 HKu HKv HKu' HR hSd hSe HN B0 B1 HDy HFy
    go_wp2_with fail
    refine wp_region_still_tail 22 (by kernel_rfl) (by kernel_rfl) ?_
    simp only [List.take_succ_cons, List.take_zero, List.drop_succ_cons, List.drop_zero]
    repeat still_step
    refine wpStill_nil ?_
    go_wp2_with fail
    refine (cached_k (b := b) (ml := ml) (mc := mc) _ HDq.out).mono ?_
    rintro e wz ⟨vz, rfl, hkz, hfz⟩
    obtain ⟨az, cz, rfl, _⟩ := (hkz [] (by simp)).form
    rw [HP.out.2.2.2.2.1]
    have HFz := Lib.hid (HFq.out.trans hfz)
    clear hkz hfz
    go_wp2
    go_ret
    exact ⟨rfl, HFz.out⟩
end Go.Proofs.Ytgockpichhgijaa
