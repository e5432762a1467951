/- DeviceTears, walked. -/
import Derived.Test.YtgockpichhgijaaWOrd4A
import Derived.Test.YtgockpichhgijaaZer4
namespace Go.Proofs.Ytgockpichhgijaa
open Go.RowKit Go.MapKept

theorem torn_plain {D : Dv} {x y : Int} (hxy : x ≠ y) {p q r : List UInt8} (hc : D.cache x = some p) (hl : (D.last x).getD zeros = q) (hy : (D.last y).getD zeros = r) {N : Nat} (hn : D.n = N) (cut : Int) :
    (restartD D [] x cut).bytes x = p.take (clampN cut) ++ q.drop (clampN cut) ∧ (restartD D [] x cut).bytes y = r ∧ ((restartD D [] x cut).n : Int) = N := by
  unfold restartD keepAll
  rw [List.foldl_nil]
  unfold tornD
  rw [hc, hl]
  refine ⟨?_, ?_, congrArg Nat.cast hn⟩
  · show Option.getD none (Option.getD (upd D.last x (some (p.take (clampN cut) ++ q.drop (clampN cut))) x) zeros) = _
    rw [upd_same]; rfl
  · show Option.getD none (Option.getD (upd D.last x (some (p.take (clampN cut) ++ q.drop (clampN cut))) y) zeros) = _
    rw [upd_ne _ _ (Ne.symm hxy), hy]; rfl

theorem tears_plain {x y : Int} (hx : 0 ≤ x ∧ x < 8) (hy : 0 ≤ y ∧ y < 8) (hxy : x ≠ y) {l0 l1 : List UInt8} (h0 : l0.length ≤ 1000) (h1 : l1.length ≤ 1000) (cut : Int) :
    ∃ D1 D2 D3 D4 D5 D6 : Dv, writeE (Dv.new 8) x l0 = 0 ∧ writeD (Dv.new 8) x l0 = D1 ∧ writeE D1 y l0 = 0 ∧ writeD D1 y l0 = D2 ∧ syncE D2 = 0 ∧ syncD D2 = D3 ∧
      writeE D3 x l1 = 0 ∧ writeD D3 x l1 = D4 ∧ writeE D4 y l1 = 0 ∧ writeD D4 y l1 = D5 ∧ useE D5 x 0 = 0 ∧ D5.bytes x = pad l1 ∧ restartD D5 [] x cut = D6 ∧ useE D6 x 0 = 0 ∧ useE D6 y 0 = 0 ∧
      D6.bytes x = (pad l1).take (clampN cut) ++ (pad l0).drop (clampN cut) ∧ D6.bytes y = pad l0 := by
  have e0 : l0.length ≤ 1024 := by omega
  have e1 : l1.length ≤ 1024 := by omega
  have q1 := (Calm.new 8).write hx.1 hx.2 e0
  have q2 := q1.2.2.write hy.1 hy.2 e0
  have q3 := q2.2.2.sync
  have q4 := q3.2.2.write hx.1 hx.2 e1
  have q5 := q4.2.2.write hy.1 hy.2 e1
  have t := torn_plain (D := { n := 8, last := joinM (upd (upd (fun _ => none) x (some (pad l0))) y (some (pad l0))) (fun _ => none), cache := upd (upd (fun _ => none) x (some (pad l1))) y (some (pad l1)), off := false, fuse := -1 }) hxy (p := pad l1) (q := pad l0) (r := pad l0)
    (by show upd (upd (fun _ => none) x (some (pad l1))) y (some (pad l1)) x = _; rw [upd_ne _ _ hxy, upd_same])
    (by show Option.getD (joinM (upd (upd (fun _ => none) x (some (pad l0))) y (some (pad l0))) (fun _ => none) x) zeros = _; unfold joinM; rw [upd_ne _ _ hxy, upd_same]; rfl)
    (by show Option.getD (joinM (upd (upd (fun _ => none) x (some (pad l0))) y (some (pad l0))) (fun _ => none) y) zeros = _; unfold joinM; rw [upd_same]; rfl) (N := 8) rfl cut
  have u1 := hx.2
  have u2 := hy.2
  rw [← show _ = (8 : Int) from t.2.2] at u1 u2
  refine ⟨_, _, _, _, _, _, q1.1, q1.2.1, q2.1, q2.2.1, q3.1, q3.2.1, q4.1, q4.2.1, q5.1, q5.2.1, q5.2.2.useE hx.1 hx.2 (by omega), ?_, rfl, (Calm.wake _).useE hx.1 u1 (by omega), (Calm.wake _).useE hy.1 u2 (by omega), t.1, t.2.1⟩
  show Option.getD ((upd (upd (fun _ => none) x (some (pad l1))) y (some (pad l1)) : Int → Option (List UInt8)) x) _ = _
  rw [upd_ne _ _ hxy, upd_same]
  rfl

theorem bytes_none {S : List Nat} {w : World} {l : List UInt8} (h : l = []) (a : Addr) (cap : Nat) : Bytes S w (.slice (some a) 0 cap) l := by
  subst h
  exact .inl ⟨some a, cap, rfl, rfl, rfl, fun h => by cases h⟩
abbrev strAt (v : Value) (w : World) (l : List UInt8) : Prop := ∀ nq, (convert 23 9 v).run Try.prog (w.drewN nq) = .ok (.string ⟨l.toArray⟩) (w.drewN nq)
theorem str_at {v : Value} {w : World} {l : List UInt8} (h : Bytes [] w v l) : strAt v w l := fun nq =>
  run_string_bytes (P := Try.prog) (w := w.drewN nq) (src := 23) (dst := 9) (e := 5) Try.underlying23 Try.underlying5 Try.underlying9 (h.kept (fr_drewN _ _))
theorem tears_facts {w : World} {A Bb Cc g2 cap2 k : Nat} {l0 l1 : List UInt8} (hk : k ≤ 1024) (h0 : l0.length ≤ 1024) (h1 : l1.length ≤ 1024) (hA : Blk w A (pad l1)) (hB : Blk w Bb ((pad l1).take k ++ (pad l0).drop k)) (hC : Blk w Cc (pad l0)) (hg : Bytes [] w (.slice (some ⟨g2, 0, none⟩) 1024 cap2) (pad l0)) :
    strAt (.slice (some ⟨Bb, 0, none⟩) k 1024) w ((pad l1).take k) ∧ strAt (.slice (some ⟨A, 0, none⟩) k 1024) w ((pad l1).take k) ∧ strAt (.slice (some ⟨Bb, 0 + k, none⟩) (1024 - k) (1024 - k)) w ((pad l0).drop k) ∧
    strAt (.slice (some ⟨g2, 0 + k, none⟩) (1024 - k) (cap2 - k)) w ((pad l0).drop k) ∧ strAt (.slice (some ⟨Cc, 0, none⟩) 1024 1024) w (pad l0) ∧ strAt (.slice (some ⟨g2, 0, none⟩) 1024 cap2) w (pad l0) := by
  have hp0 := pad_length h0
  have hp1 := pad_length h1
  have hbl : ((pad l1).take k ++ (pad l0).drop k).length = 1024 := by rw [List.length_append, List.length_take, List.length_drop, hp0, hp1]; omega
  have hB' := Blk.bytes (S := []) (n := 1024) hB (by simp) hbl
  have e1 : ((pad l1).take k ++ (pad l0).drop k).take k = (pad l1).take k := by
    have : k = ((pad l1).take k).length := by rw [List.length_take, hp1]; omega
    conv => lhs; arg 1; rw [this]
    exact List.take_left
  have e2 : ((pad l1).take k ++ (pad l0).drop k).drop k = (pad l0).drop k := by
    have : k = ((pad l1).take k).length := by rw [List.length_take, hp1]; omega
    conv => lhs; arg 1; rw [this]
    exact List.drop_left
  have t1 := hB'.take (k := k) (by rw [hbl]; exact hk)
  have t2 := (Blk.bytes (S := []) (n := 1024) hA (by simp) hp1).take (k := k) (by rw [hp1]; exact hk)
  have t3 := hB'.drop (k := k) (by rw [hbl]; exact hk)
  have t4 := hg.drop (k := k) (by rw [hp0]; exact hk)
  rw [e1] at t1
  rw [e2] at t3
  exact ⟨str_at t1, str_at t2, str_at t3, str_at t4, str_at (Blk.bytes (S := []) (n := 1024) hC (by simp) hp0), str_at hg⟩
theorem tears_was {w w1 : World} {v : Value} {l0 : List UInt8} (h0 : l0.length ≤ 1000) (b0 : Bytes [] w v l0) {ty1 ty2 : TypeId} (h1 : w.alloc (.cells #[] 5) = w1) :
    ∃ v1 w2 g cap w3, (Builtin.append_ #[23, 23] ty1 #[.slice (some ⟨w.heap.size, 0, none⟩) 0 0, v]).run Try.prog w1 = .ok v1 w2 ∧
      (Builtin.append_ #[23, 3] ty2 #[v1, .int .i64 (1024 - (l0.length : Int))]).run Try.prog w2 = .ok (.slice (some ⟨g, 0, none⟩) 1024 cap) w3 ∧
      Bytes [] w3 (.slice (some ⟨g, 0, none⟩) 1024 cap) (pad l0) ∧ Fr [] w w3 ∧ 1024 ≤ cap := by
  subst h1
  have hown : (w.alloc (.cells #[] 5)).ownsRow w.heap.size 5 1 (.slice (some ⟨w.heap.size, 0, none⟩) 0 0) 0 [] :=
    ⟨rfl, .inr ⟨w.heap.size, 0, #[], rfl, Nat.le_refl _, heap_alloc_new w _, Nat.le_refl _, Nat.zero_le _, rfl, rfl⟩⟩
  obtain ⟨v1, w2, hr1, ho1, hf1, hn1⟩ := run_append_slc (P := Try.prog) (t := 23) (ty := ty1) Try.underlying23 Try.info5 rfl (by decide) hown (b0.kept (Fr.alloc1 _ _)) (by simp) (bytes_one l0) (by unfold maxLen; omega) (by omega) (by simp)
  rw [Nat.zero_add, List.nil_append] at ho1
  obtain ⟨g, cap, w3, hr2, ho2, hf2⟩ := run_append_zeros (P := Try.prog) (t := 23) (tn := 3) (ty := ty2) .i64 Try.underlying23 Try.underlying3 Try.info5 ho1 (1024 - l0.length) (by omega) (by unfold maxLen; omega) (by omega) (by have := hf1.size; simp at this; omega)
  have e1 : l0.length + (1024 - l0.length) = 1024 := by omega
  have e2 : ((1024 - l0.length : Nat) : Int) = 1024 - (l0.length : Int) := by omega
  rw [e1] at ho2 hr2
  rw [e2] at hr2
  have hb : Bytes [] w3 (.slice (some ⟨g, 0, none⟩) 1024 cap) (pad l0) := by
    have := Slc.ofOwns (S := []) ho2 (by simp)
    unfold Bytes
    rw [pad_length (by omega)]
    unfold pad
    rw [List.map_append, List.map_replicate]
    exact this
  have hfa : Fr [] w w2 := (Fr.alloc1 w _).andThen hf1 (by simp [Value.ownBlock])
  refine ⟨v1, w2, g, cap, w3, hr1, hr2, hb, hfa.andThen hf2 ?_, ?_⟩
  · intro x hx
    right
    rcases ho1.2 with ⟨rfl, _⟩ | ⟨g1, cap1, cur, rfl, hbg, _⟩
    · simp [Value.ownBlock] at hx
    · simp [Value.ownBlock] at hx; omega
  · obtain ⟨_, _, h, h2⟩ := Slc.form hb
    simp only [Value.slice.injEq] at h
    have := pad_length (l := l0) (by omega)
    omega

set_option maxRecDepth 100000 in
set_option maxHeartbeats 4000000 in
theorem DeviceTears_walk (W : World) {v0 : Value} {l0 : List UInt8} (b0 : Bytes [] W v0 l0) (_m0 : l0.length ≤ maxLen) {v1 : Value} {l1 : List UInt8} (b1 : Bytes [] W v1 l1) (_m1 : l1.length ≤ maxLen) (a2 : Int) (w2 : (Lit.int .u8 a2).wf = true) (a3 : Int) (_w3 : (Lit.int .i64 a3).wf = true) :
    Calls Try.prog 4 #[v0, v1, .int .u8 a2, .int .i64 a3] W fun e w' => e = .returned (.bool true) ∧ Fr [] W w' := by
  obtain ⟨p0, q0, rfl, _⟩ := Slc.form b0
  obtain ⟨p1, q1, rfl, _⟩ := Slc.form b1
  obtain ⟨h2a, h2b⟩ := u8_bd w2
  clear w2 _w3 _m0 _m1
  have B0 := Lib.hid b0
  have B1 := Lib.hid b1
  clear b0 b1
  go_enter Try.func4, Try.ntmps4
  go_wp2_with fail
  refine (awake_k _).mono ?_
  rintro e w1 ⟨rfl, hf1⟩
  have HF1 := Lib.hid hf1
  clear hf1
  by_cases hl0 : 1000 < l0.length
  · go_wp2
    go_ret
    exact ⟨rfl, HF1.out⟩
  by_cases hl1 : 1000 < l1.length
  · go_wp2
    go_ret
    exact ⟨rfl, HF1.out⟩
  have hl0' : l0.length ≤ 1000 := by omega
  have hl1' : l1.length ≤ 1000 := by omega
  clear hl0 hl1
  go_wp2_with fail
  refine (new_k 8 _ (by omega) (by omega)).mono ?_
  rintro e w2 ⟨rfl, hd2, hf2⟩
  obtain ⟨b, hb⟩ : ∃ b, w1.heap.size + 2 = b := ⟨_, rfl⟩
  obtain ⟨mc, hmc⟩ : ∃ mc, w1.heap.size + 1 = mc := ⟨_, rfl⟩
  obtain ⟨ml, hml⟩ : ∃ ml, w1.heap.size = ml := ⟨_, rfl⟩
  rw [hb, hmc, hml] at hd2
  rw [hb]
  have HN : Hid (W.heap.size ≤ b ∧ W.heap.size ≤ ml ∧ W.heap.size ≤ mc) := by have := HF1.out.size; exact ⟨by omega, by omega, by omega⟩
  have HD2 := Lib.hid hd2
  have HF2 := Lib.hid (HF1.out.trans hf2)
  clear hd2 hf2 hb hmc hml
  have HR : Hid (∀ {w' : World} {v : Value} {l : List UInt8}, Bytes [] W v l → Fr [] W w' → Bytes [b, ml, mc] w' v l) :=
    fun hb hf => (hb.more (fun x hx => .inr (by have := HN.out; simp only [List.mem_cons, List.not_mem_nil, or_false] at hx; omega))).kept hf.nil
  have hx0 : (0 : Int) ≤ a2 % 8 ∧ a2 % 8 < 8 := by omega
  have HS : Hid (∀ {w w' : World} {S : List Nat}, Fr [] W w → Fr S w w' → (∀ x, x ∈ S → x ∈ [b, ml, mc]) → Fr [] W w') := fun h h' hs => h.andThen h' (fun x hx => .inr (by have h1 := hs x hx; have := HN.out; simp only [List.mem_cons, List.not_mem_nil, or_false] at h1; omega))
  go_wp2_with fail
  generalize a2 % 8 = x at *
  obtain ⟨y, hy⟩ : ∃ y, (x + 1) % 8 = y := ⟨_, rfl⟩
  have hwx : IntKind.i64.wrap (x + 1) = x + 1 := by rw [IntKind.wrap_i64]; omega
  have htx : (x + 1).tmod 8 = y := by rw [Int.tmod_eq_emod_of_nonneg (by omega)]; exact hy
  obtain ⟨D1, D2, D3, D4, D5, D6, hPL⟩ := tears_plain (x := x) (y := y) hx0 (by omega) (by omega) hl0' hl1' a3
  have PL := Lib.hid hPL
  clear hPL h2a h2b
  refine (write_k (b := b) (ml := ml) (mc := mc) x (l := l0) _ HD2.out (HR.out B0.out HF2.out)).mono ?_
  rintro e w3 ⟨rfl, hd3, hf3⟩
  rw [PL.out.2.1] at hd3
  rw [PL.out.1]
  have HD3 := Lib.hid hd3
  have HF3 := Lib.hid (HS.out HF2.out hf3 (by simp))
  clear hd3 hf3
  go_wp2_with fail
  refine (write_k (b := b) (ml := ml) (mc := mc) y (l := l0) _ HD3.out (HR.out B0.out HF3.out)).mono ?_
  rintro e w4 ⟨rfl, hd4, hf4⟩
  rw [PL.out.2.2.2.1] at hd4
  rw [PL.out.2.2.1]
  have HD4 := Lib.hid hd4
  have HF4 := Lib.hid (HS.out HF3.out hf4 (by simp))
  clear hd4 hf4
  go_wp2_with fail
  refine (sync_k _ HD4.out).mono ?_
  rintro e w5 ⟨rfl, hd5, hf5⟩
  rw [PL.out.2.2.2.2.2.1] at hd5
  rw [PL.out.2.2.2.2.1]
  have HD5 := Lib.hid hd5
  have HF5 := Lib.hid (HS.out HF4.out hf5 (by simp))
  clear hd5 hf5
  go_wp2_with fail
  refine (write_k (b := b) (ml := ml) (mc := mc) x (l := l1) _ HD5.out (HR.out B1.out HF5.out)).mono ?_
  rintro e w6 ⟨rfl, hd6, hf6⟩
  rw [PL.out.2.2.2.2.2.2.2.1] at hd6
  rw [PL.out.2.2.2.2.2.2.1]
  have HD6 := Lib.hid hd6
  have HF6 := Lib.hid (HS.out HF5.out hf6 (by simp))
  clear hd6 hf6
  go_wp2_with fail
  refine (write_k (b := b) (ml := ml) (mc := mc) y (l := l1) _ HD6.out (HR.out B1.out HF6.out)).mono ?_
  rintro e w7 ⟨rfl, hd7, hf7⟩
  rw [PL.out.2.2.2.2.2.2.2.2.2.1] at hd7
  rw [PL.out.2.2.2.2.2.2.2.2.1]
  have HD7 := Lib.hid hd7
  have HF7 := Lib.hid (HS.out HF6.out hf7 (by simp))
  have PL2 := Lib.hid PL.out.2.2.2.2.2.2.2.2.2.2
  clear hd7 hf7 PL
  go_wp2_with fail
  refine (read_k x _ HD7.out PL2.out.1).mono ?_
  rintro e w8 ⟨rfl, hk8, hf8, hs8⟩
  obtain ⟨A, hA⟩ : ∃ A, w7.heap.size = A := ⟨_, rfl⟩
  rw [hA, PL2.out.2.1] at hk8
  rw [hA]
  have HA : Hid (A ∉ [b, ml, mc] ∧ W.heap.size ≤ A) := by
    have h := HD7.out.lt
    have h2 := HF7.out.size
    refine ⟨?_, by omega⟩
    simp only [List.mem_cons, List.not_mem_nil, or_false]; omega
  have HD8 := Lib.hid (HD7.out.kept hf8)
  have HF8 := Lib.hid (HF7.out.trans hf8)
  have HKA := Lib.hid hk8
  clear hk8 hf8 hs8 hA
  go_wp2_with fail
  refine (restart_k (keep := []) x a3 _ HD8.out (Slc.nil _ _) (by simp)).mono ?_
  rintro e w9 ⟨rfl, hd9, hf9⟩
  rw [PL2.out.2.2.1] at hd9
  have HD9 := Lib.hid hd9
  have HKA9 := Lib.hid (HKA.out.kept hf9 HA.out.1)
  have HF9 := Lib.hid (HS.out HF8.out hf9 (by simp))
  clear hd9 hf9
  go_wp2_with fail
  refine (read_k x _ HD9.out PL2.out.2.2.2.1).mono ?_
  rintro e w10 ⟨rfl, hk10, hf10, hs10⟩
  obtain ⟨Bb, hB⟩ : ∃ B, w9.heap.size = B := ⟨_, rfl⟩
  rw [hB, PL2.out.2.2.2.2.2.1] at hk10
  rw [hB]
  have HD10 := Lib.hid (HD9.out.kept hf10)
  have HF10 := Lib.hid (HF9.out.trans hf10)
  have HKA10 := Lib.hid (HKA9.out.kept hf10 (by simp))
  have HKB10 := Lib.hid hk10
  clear hk10 hf10 hs10 hB
  go_wp2_with fail
  refine (read_k y _ HD10.out PL2.out.2.2.2.2.1).mono ?_
  rintro e w11 ⟨rfl, hk11, hf11, hs11⟩
  obtain ⟨Cc, hC⟩ : ∃ B, w10.heap.size = B := ⟨_, rfl⟩
  rw [hC, PL2.out.2.2.2.2.2.2] at hk11
  rw [hC]
  have HF11 := Lib.hid (HF10.out.trans hf11)
  have HKA11 := Lib.hid (HKA10.out.kept hf11 (by simp))
  have HKB11 := Lib.hid (HKB10.out.kept hf11 (by simp))
  have HKC11 := Lib.hid hk11
  clear hk11 hf11 hs11 hC
  obtain ⟨v1, w12, g, cap, w13, hr1, hr2, hg, hfw, hcap⟩ := tears_was (ty1 := 0) (ty2 := 0) hl0' (B0.out.kept HF11.out.nil) rfl
  have KA := HKA11.out.kept hfw (by simp)
  have KB := HKB11.out.kept hfw (by simp)
  have KC := HKC11.out.kept hfw (by simp)
  have HG := hg
  have HR1 := Lib.hid hr1
  have HR2 := Lib.hid hr2
  have HFW := Lib.hid hfw
  have hsub : IntKind.i64.wrap (1024 - (l0.length : Int)) = 1024 - (l0.length : Int) := by rw [IntKind.wrap_i64]; omega
  have hcI : (1024 : Int) ≤ (cap : Int) := by omega
  have he0 : l0.length ≤ 1024 := by omega
  have he1 : l1.length ≤ 1024 := by omega
  clear hg hr1 hr2 hfw HKA11 HKB11 HKC11 PL2 HA HD2 HD3 HD4 HD5 HD6 HD7 HD8 HD9 HD10 HF1 HF2 HF3 HF4 HF5 HF6 HF7 HF8 HF9 HF10 HKA HKA9 HKA10 HKB10 HN HR HS hwx htx hx0 hy B0 B1 hl1' hl0'
  rcases Int.lt_or_le 0 a3 with hc0 | hc0
  · rcases Int.lt_or_le a3 1024 with hc1 | hc1
    · obtain ⟨c, rfl⟩ := Int.eq_ofNat_of_zero_le (Int.le_of_lt hc0)
      have hkN : clampN (c : Int) = c := by unfold clampN; omega
      have hkI : min (c : Int) 1024 = (c : Int) := by omega
      rw [hkN] at KB
      have hc1' : c < 1024 := by omega
      obtain ⟨f1, f2, f3, f4, f5, f6⟩ := tears_facts (k := c) (by omega) he0 he1 KA KB KC HG
      have f3' := f3
      have f4' := f4
      rw [Nat.zero_add] at f3' f4'
      have n1 : ¬ (1024 : Nat) = c := by omega
      have n2 : ¬ cap = c := by omega
      have i1 : (c : Int) ≤ 1024 := by omega
      have i2 : (c : Int) ≤ (cap : Int) := by omega
      clear hkN KA KB KC HG
      go_wp2_with (first | (at_builtin; refine wpList_append_run rfl _ _ _ rfl HR1.out ?_) | (at_builtin; refine Lib.wpList_append_run _ rfl _ _ _ _ rfl _ _ rfl rfl _ _ HR2.out ?_))
      go_quiet (fail)
      go_wp2
      go_ret
      exact ⟨rfl, (HF11.out.trans HFW.out).trans (fr_drewN _ _)⟩
    · have hkN : clampN a3 = 1024 := by unfold clampN; omega
      have hkI : min (max a3 0) 1024 = 1024 := by omega
      rw [hkN] at KB
      obtain ⟨f1, f2, f3, f4, f5, f6⟩ := tears_facts (k := 1024) (by omega) he0 he1 KA KB KC HG
      have f3' : strAt (.slice (some ⟨Bb, 0, none⟩) 0 0) w13 ((pad l0).drop 1024) := str_at (bytes_none (List.drop_of_length_le (by rw [pad_length he0]; omega)) _ _)
      by_cases hc : cap = 1024
      · subst hc
        have f4' : strAt (.slice (some ⟨g, 0, none⟩) 0 0) w13 ((pad l0).drop 1024) := str_at (bytes_none (List.drop_of_length_le (by rw [pad_length he0]; omega)) _ _)
        clear hkN KA KB KC HG f3 f4
        go_wp2_with (first | (at_builtin; refine wpList_append_run rfl _ _ _ rfl HR1.out ?_) | (at_builtin; refine Lib.wpList_append_run _ rfl _ _ _ _ rfl _ _ rfl rfl _ _ HR2.out ?_))
        go_quiet (fail)
        go_wp2
        go_ret
        exact ⟨rfl, (HF11.out.trans HFW.out).trans (fr_drewN _ _)⟩
      · have f4' : strAt (.slice (some ⟨g, 1024, none⟩) 0 (cap - 1024)) w13 ((pad l0).drop 1024) := str_at (bytes_none (List.drop_of_length_le (by rw [pad_length he0]; omega)) _ _)
        have n2 : ¬ cap = 1024 := hc
        clear hkN KA KB KC HG f3 f4
        go_wp2_with (first | (at_builtin; refine wpList_append_run rfl _ _ _ rfl HR1.out ?_) | (at_builtin; refine Lib.wpList_append_run _ rfl _ _ _ _ rfl _ _ rfl rfl _ _ HR2.out ?_))
        go_quiet (fail)
        go_wp2
        go_ret
        exact ⟨rfl, (HF11.out.trans HFW.out).trans (fr_drewN _ _)⟩
  · have hkN : clampN a3 = 0 := by unfold clampN; omega
    have hkI : min (max a3 0) 1024 = 0 := by omega
    rw [hkN] at KB
    obtain ⟨f1, f2, f3, f4, f5, f6⟩ := tears_facts (k := 0) (by omega) he0 he1 KA KB KC HG
    simp only [Nat.add_zero, Nat.sub_zero] at f3 f4
    have n2 : ¬ cap = 0 := by omega
    clear hkN KA KB KC HG
    go_wp2_with (first | (at_builtin; refine wpList_append_run rfl _ _ _ rfl HR1.out ?_) | (at_builtin; refine Lib.wpList_append_run _ rfl _ _ _ _ rfl _ _ rfl rfl _ _ HR2.out ?_))
    go_quiet (fail)
    go_wp2
    go_ret
    exact ⟨rfl, (HF11.out.trans HFW.out).trans (fr_drewN _ _)⟩
end Go.Proofs.Ytgockpichhgijaa
