/- a part. -/
import Derived.Test.YtgpohemcfgepeaaGreatT3
import Derived.Test.YtgpohemcfgepeaaGreatGI
import Derived.Test.YtgpohemcfgepeaaGreatTC
import Derived.Test.YtgpohemcfgepeaaGreatT5
import Derived.BigQuiet
namespace Go.Proofs.YtgpohemcfgepeaaGreat
open Go.RowKit Go.MapKept
structure MineT (w wr : World) (tb sb b ml mc fm : Nat) (t : TrD) : Prop where
  tr : TrAt wr tb sb b ml mc fm t
  fr : Fr [] w wr
  lo : ∀ x ∈ [tb, sb, fm, b, ml, mc], w.heap.size ≤ x
theorem MineT.next {w wr w' : World} {tb sb b ml mc fm : Nat} {t t' : TrD} (h : MineT w wr tb sb b ml mc fm t) (hr : TrR wr tb sb b ml mc fm t' w') : ∃ fm', MineT w w' tb sb b ml mc fm' t' ∧ (fm' = fm ∨ wr.heap.size ≤ fm') ∧ Fr [tb, sb, fm, b, ml, mc] wr w' := by
  obtain ⟨fm', h1, h2, h3, _⟩ := hr
  have hz := h.fr.size
  refine ⟨fm', ⟨h1, h.fr.andThen h2 (fun x hx => .inr (h.lo x hx)), fun x hx => ?_⟩, h3, h2⟩
  have hl := h.lo
  simp only [List.mem_cons, List.not_mem_nil, or_false] at hx hl
  rcases hx with e | e | e | e | e | e
  · exact hl x (by simp [e])
  · exact hl x (by simp [e])
  · rcases h3 with h3 | h3
    · exact hl x (by simp [e, h3])
    · omega
  · exact hl x (by simp [e])
  · exact hl x (by simp [e])
  · exact hl x (by simp [e])
set_option maxRecDepth 100000 in
theorem tnew_k (n : Nat) (w : World) (h2 : 2 ≤ n) (h4 : n ≤ 4096) :
    Calls Tryz.prog 16 #[.int .i64 n] w fun e w' => ∃ tb sb b ml mc fm, e = .returned (.pointer (some ⟨tb, 0, none⟩)) ∧ MineT w w' tb sb b ml mc fm (TrD.new n) := by
  have HF0 := Lib.hid (format_ok h2 h4).1
  have HT : Hid (TrD.new n = ⟨(formatD (Dv.new n)).2, (formatD (Dv.new n)).2.super.root, (formatD (Dv.new n)).2.super.depth, (formatD (Dv.new n)).2.super.count⟩) := Lib.hid rfl
  have HN2 := Lib.hid (And.intro h2 h4)
  obtain ⟨⟨x1, T1⟩, hF⟩ : ∃ R, formatD (Dv.new n) = R := ⟨_, rfl⟩
  rw [hF] at HF0 HT
  have HFM := Lib.hid hF
  obtain ⟨t0, ht0⟩ : ∃ t0, TrD.new n = t0 := ⟨_, rfl⟩
  rw [ht0] at HT ⊢
  clear h2 h4 hF ht0
  go_enter Tryz.func16, Tryz.ntmps16
  go_wp2_with fail
  refine (new_k n _ HN2.out.1 HN2.out.2).mono ?_
  rintro e w1 ⟨rfl, hd1, hf1⟩
  obtain ⟨b, hb⟩ : ∃ b, w.heap.size + 2 = b := ⟨_, rfl⟩
  obtain ⟨mc, hmc⟩ : ∃ mc, w.heap.size + 1 = mc := ⟨_, rfl⟩
  obtain ⟨ml, hml⟩ : ∃ ml, w.heap.size = ml := ⟨_, rfl⟩
  have HB : Hid (w.heap.size ≤ b ∧ w.heap.size ≤ ml ∧ w.heap.size ≤ mc) := Lib.hid ⟨by omega, by omega, by omega⟩
  rw [hb, hmc, hml] at hd1
  rw [hb]
  have HD1 := Lib.hid hd1
  have HF1 := Lib.hid hf1
  clear hd1 hf1 hb hmc hml
  go_wp2_with fail
  refine (format_k w1 HD1.out HN2.out.1).mono ?_
  rw [HFM.out]
  rintro e w3 ⟨hf3, h3⟩
  have h3 := h3.resolve_right (fun h => h.1 HF0.out)
  obtain ⟨_, fm, hfm, rfl, hs3⟩ := h3
  obtain ⟨sb, hsb⟩ : ∃ sb, w1.heap.size = sb := ⟨_, rfl⟩
  rw [hsb] at hfm hs3 ⊢
  have HM3 : Hid (Mine w w3 sb b ml mc fm T1) := Lib.hid ⟨hs3, HF1.out.andThen hf3 (fun x hx => .inr (by have := HB.out; simp only [List.mem_cons, List.not_mem_nil, or_false] at hx; rcases hx with h | h | h <;> omega)), by have := HB.out; have := HF1.out.size; omega⟩
  clear hfm hs3 hf3 hsb
  go_wp2_with fail
  refine (of_tree w3 HM3.out.sto).mono ?_
  rintro e w4 ⟨rfl, fm4, ht4, hf4, hm4, _⟩
  obtain ⟨tb, htb⟩ : ∃ tb, w3.heap.size = tb := ⟨_, rfl⟩
  rw [htb] at ht4 hm4 ⊢
  have HQ : Hid (MineT w w4 tb sb b ml mc fm4 t0) := Lib.hid (by
    rw [HT.out]
    have hlo := HM3.out.lo
    have hz := HM3.out.fr.size
    refine ⟨ht4, HM3.out.fr.andThen hf4 (fun x hx => ?_), fun x hx => ?_⟩
    · simp only [List.mem_cons, List.not_mem_nil, or_false] at hx
      right
      rcases hx with h | h | h | h | h <;> omega
    · simp only [List.mem_cons, List.not_mem_nil, or_false] at hx
      rcases hx with h | h | h | h | h | h
      · omega
      · omega
      · rcases hm4 with h4 | h4 <;> omega
      · omega
      · omega
      · omega)
  clear ht4 hf4 hm4 htb
  go_wp2_with fail
  go_ret
  exact ⟨tb, sb, b, ml, mc, fm4, rfl, HQ.out⟩
end Go.Proofs.YtgpohemcfgepeaaGreat

namespace Go.Proofs.YtgpohemcfgepeaaGreat
open Go.RowKit Go.MapKept
theorem gotA : gotten kA [(kA, k1)] = (k1, true, 0) := by unfold gotten getP; simp
theorem gotB : gotten kB [(kA, k1)] = (⟨#[]⟩, false, 0) := by
  unfold gotten getP
  have h : ¬ kA = kB := by unfold kA kB; intro h; injection h with h; exact absurd h (by decide)
  simp [h]
set_option maxRecDepth 100000 in
set_option maxHeartbeats 2000000 in
theorem awake8_k (w : World) : Calls Tryz.prog 15 #[] w fun e w' => e = .returned (.bool true) ∧ Fr [] w w' := by
  obtain ⟨t1, t2, t3, hA⟩ := awkT_plain
  have hG0 := TrD.new_good (n := 32) (by decide) (by decide)
  have HA := Lib.hid hA
  obtain ⟨t0, ht0⟩ : ∃ t0, TrD.new 32 = t0 := ⟨_, rfl⟩
  rw [ht0] at hG0
  have HG0 := Lib.hid hG0
  have HT0 := Lib.hid ht0
  have HS1 : Hid (t0.set kA k1 = (0, t1)) := Lib.hid (by rw [← ht0]; exact hA.s1)
  have HBAD : Hid (t1.set ⟨#[]⟩ ⟨#[]⟩ = (80, t1)) := Lib.hid (by unfold TrD.set; rw [if_pos]; unfold pairBad; decide)
  clear hA hG0 ht0
  go_enter Tryz.func15, Tryz.ntmps15
  go_wp2_with fail
  refine (tnew_k 32 _ (by omega) (by omega)).mono ?_
  rw [HT0.out]
  rintro e w1 ⟨tb, sb, b, ml, mc, fm, rfl, hm1⟩
  have HM1 := Lib.hid hm1
  clear hm1
  go_wp2_with fail
  -- Set
  have hb := HG0.out.bounds
  refine (set_k kA k1 w1 HM1.out.tr hb.2.2.1 hb.1.1 hb.1.2 hb.2.1.1 hb.2.1.2).mono ?_
  rw [HS1.out]
  rintro e w2 ⟨rfl, hr⟩
  obtain ⟨fm2, hm2, _⟩ := HM1.out.next hr
  have HM2 := Lib.hid hm2
  clear hr hm2 hb
  go_wp2_with fail
  -- Get
  have hb := HA.out.g1.bounds
  refine (get_k kA w2 HM2.out.tr hb.1.1 hb.1.2).mono ?_
  rw [HA.out.g1.getK, gotA]
  rintro e w3 ⟨rfl, hr⟩
  rw [TrD.end_ok] at hr
  obtain ⟨fm3, hm3, _⟩ := HM2.out.next hr
  have HM3 := Lib.hid hm3
  clear hr hm3
  go_wp2_with fail
  refine (get_k kB w3 HM3.out.tr hb.1.1 hb.1.2).mono ?_
  rw [HA.out.g1.getK, gotB]
  rintro e w4 ⟨rfl, hr⟩
  rw [TrD.end_ok] at hr
  obtain ⟨fm4, hm4, _⟩ := HM3.out.next hr
  have HM4 := Lib.hid hm4
  clear hr hm4 hb
  go_wp2_with fail
  refine (tDepth_k w4 HM4.out.tr).mono ?_
  rw [HA.out.r1.2.1]
  rintro e w' ⟨rfl, rfl⟩
  go_wp2_with fail
  refine (tCount_k w4 HM4.out.tr).mono ?_
  rw [HA.out.r1.2.2]
  rintro e w' ⟨rfl, rfl⟩
  go_wp2_with fail
  refine (tRoot_k w4 HM4.out.tr).mono ?_
  rw [HA.out.r1.1]
  rintro e w' ⟨rfl, rfl⟩
  go_wp2_with fail
  have hb := HA.out.g1.bounds
  refine (set_k ⟨#[]⟩ ⟨#[]⟩ w4 HM4.out.tr hb.2.2.1 hb.1.1 hb.1.2 hb.2.1.1 hb.2.1.2).mono ?_
  rw [HBAD.out]
  rintro e w5 ⟨rfl, hr⟩
  obtain ⟨fm5, hm5, _⟩ := HM4.out.next hr
  have HM5 := Lib.hid hm5
  clear hr hm5
  go_wp2_with fail
  -- Keep
  have he1 := HA.out.e1
  refine (keep_k w5 HM5.out.tr hb.2.2.1 (by rw [he1]; decide) (by rw [he1]; decide) (by have := hb.2.2.2; omega)).mono ?_
  rw [HA.out.c2]
  rintro e w6 ⟨rfl, hr⟩
  obtain ⟨fm6, hm6, _⟩ := HM5.out.next hr
  have HM6 := Lib.hid hm6
  clear hr hm6 hb he1
  go_wp2_with fail
  -- Cut
  have hb := HA.out.g2.bounds
  refine (cut_k kA w6 HM6.out.tr hb.2.2.1 hb.1.1 hb.1.2 hb.2.1.1 hb.2.1.2).mono ?_
  rw [HA.out.u3]
  rintro e w7 ⟨rfl, hr⟩
  obtain ⟨fm7, hm7, _⟩ := HM6.out.next hr
  have HM7 := Lib.hid hm7
  clear hr hm7 hb
  go_wp2_with fail
  have hb := HA.out.g3.bounds
  refine (cut_k kA w7 HM7.out.tr hb.2.2.1 hb.1.1 hb.1.2 hb.2.1.1 hb.2.1.2).mono ?_
  rw [HA.out.u4]
  rintro e w8 ⟨rfl, hr⟩
  obtain ⟨fm8, hm8, _⟩ := HM7.out.next hr
  have HM8 := Lib.hid hm8
  clear hr hm8 hb
  have hk1 : k1.toList = [49] := by unfold k1; rw [ByteArray.toList_eq]
  go_wp2_with fail
  refine (tDepth_k w8 HM8.out.tr).mono ?_
  rw [HA.out.g3.nil.2.1]
  rintro e w' ⟨rfl, rfl⟩
  go_wp2_with fail
  refine (tCount_k w8 HM8.out.tr).mono ?_
  rw [HA.out.g3.nil.2.2]
  rintro e w' ⟨rfl, rfl⟩
  go_wp2_with fail
  refine (tStore_k w8 HM8.out.tr).mono ?_
  rintro e w' ⟨rfl, rfl⟩
  go_wp2_with fail
  go_ret
  exact ⟨rfl, HM8.out.fr⟩
end Go.Proofs.YtgpohemcfgepeaaGreat
