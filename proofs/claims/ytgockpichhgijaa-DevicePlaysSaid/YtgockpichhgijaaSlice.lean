/- Plain words on slices and bytes in memory. No program in sight. -/
import Derived.Test.YtgockpichhgijaaBase
import Derived.Laws.CopyOwn
namespace Go.Proofs.Ytgockpichhgijaa
open Go.RowKit Go.MapKept

def byteV (x : UInt8) : Value := .int .u8 x.toNat
def intV (x : Int) : Value := .int .i64 x
theorem byteV_one (x : UInt8) : (byteV x).oneCell' = true := rfl
theorem bytes_one (l : List UInt8) : ∀ u ∈ l.map byteV, u.oneCell' = true := by
  intro u hu; obtain ⟨x, _, rfl⟩ := List.mem_map.1 hu; rfl
theorem ints_one (l : List Int) : ∀ u ∈ l.map intV, u.oneCell' = true := by
  intro u hu; obtain ⟨x, _, rfl⟩ := List.mem_map.1 hu; rfl

/-- From place 'off' of block B on lie the cells cs. -/
def Cells (w : World) (B off : Nat) (cs : List Value) : Prop := ∀ i v, cs[i]? = some v → w.cell? ⟨B, off + i, none⟩ = some v

theorem Cells.kept {S : List Nat} {w w' : World} {B off : Nat} {cs : List Value} (h : Cells w B off cs) (hf : Fr S w w') (hs : B ∉ S) : Cells w' B off cs :=
  fun i v hv => hf.cellSome (h i v hv) hs
theorem Cells.drop {w : World} {B off : Nat} {cs : List Value} (h : Cells w B off cs) (k : Nat) : Cells w B (off + k) (cs.drop k) := fun i v hv => by
  rw [List.getElem?_drop] at hv
  have := h (k + i) v hv
  rwa [Nat.add_assoc]
theorem Cells.take {w : World} {B off : Nat} {cs : List Value} (h : Cells w B off cs) (k : Nat) : Cells w B off (cs.take k) := fun i v hv => by
  rw [List.getElem?_take] at hv
  split at hv
  · exact h i v hv
  · cases hv
theorem Cells.ofBlock {w : World} {b : Nat} {cs : Array Value} {T : TypeId} {z : Nat × Nat} (h : w.heap[b]? = some (.cells cs T z)) (off : Nat) : Cells w b off (cs.toList.drop off) := fun i v hv => by
  rw [blk_cell h, ← Array.getElem?_toList]
  rwa [List.getElem?_drop] at hv

/-- v is a slice of n elements whose cells are cs; they lie in no block of S. -/
def Slc (S : List Nat) (w : World) (v : Value) (n : Nat) (cs : List Value) : Prop :=
  (∃ a cap, v = .slice a 0 cap ∧ n = 0 ∧ cs = [] ∧ (a = none → cap = 0)) ∨
  ∃ B off cap, v = .slice (some ⟨B, off, none⟩) n cap ∧ n ≤ cap ∧ (cs = [] ∨ B ∉ S) ∧ Cells w B off cs

theorem Slc.nil (S : List Nat) (w : World) : Slc S w (.slice none 0 0) 0 [] := .inl ⟨none, 0, rfl, rfl, rfl, fun _ => rfl⟩
theorem Slc.kept {S : List Nat} {w w' : World} {v : Value} {n : Nat} {cs : List Value} (h : Slc S w v n cs) (hf : Fr S w w') : Slc S w' v n cs := by
  rcases h with h | ⟨B, off, cap, hv, hc, hs, hcs⟩
  · exact .inl h
  · refine .inr ⟨B, off, cap, hv, hc, hs, ?_⟩
    rcases hs with rfl | hs
    · intro i v hv; simp at hv
    · exact hcs.kept hf hs
theorem Slc.mono {S S' : List Nat} {w : World} {v : Value} {n : Nat} {cs : List Value} (h : Slc S w v n cs) (hs : ∀ x, x ∈ S' → x ∈ S) : Slc S' w v n cs := by
  rcases h with h | ⟨B, off, cap, hv, hc, hb, hcs⟩
  · exact .inl h
  · exact .inr ⟨B, off, cap, hv, hc, hb.imp id (fun hn hm => hn (hs _ hm)), hcs⟩
/-- A slice whose cells lie in blocks that are there is none of the blocks that are new. -/
theorem Slc.more {S S' : List Nat} {w : World} {v : Value} {n : Nat} {cs : List Value} (h : Slc S w v n cs) (hs : ∀ x, x ∈ S' → x ∈ S ∨ w.heap.size ≤ x) : Slc S' w v n cs := by
  rcases h with h | ⟨B, off, cap, hv, hc, hb, hcs⟩
  · exact .inl h
  · refine .inr ⟨B, off, cap, hv, hc, ?_, hcs⟩
    rcases hb with rfl | hb
    · exact .inl rfl
    · cases hcs' : cs with
      | nil => exact .inl rfl
      | cons c l =>
        right
        intro hm
        rcases hs _ hm with h1 | h1
        · exact hb h1
        · have := lt_of_cell (hcs 0 c (by simp [hcs']))
          simp at this; omega
theorem Slc.ofOwns {S : List Nat} {w : World} {base : Nat} {e : TypeId} {size : Nat} {v : Value} {n : Nat} {xs : List Value} (h : w.ownsRow base e size v n xs) (hs : ∀ x, x ∈ S → x < base) : Slc S w v n xs := by
  obtain ⟨h1, ⟨rfl, rfl⟩ | ⟨g, cap, cur, rfl, hb, hg, hn, _, _, ht⟩⟩ := h
  · exact .inl ⟨none, 0, rfl, rfl, List.eq_nil_of_length_eq_zero (by simpa using h1), fun _ => rfl⟩
  · refine .inr ⟨g, 0, cap, rfl, hn, .inr (fun hm => by have := hs g hm; omega), ?_⟩
    have := (Cells.ofBlock hg 0).take (n * size)
    simpa [ht] using this
theorem Slc.ofBlock {S : List Nat} {w : World} {b : Nat} {cs : Array Value} {T : TypeId} {z : Nat × Nat} (h : w.heap[b]? = some (.cells cs T z)) (hs : b ∉ S) (n cap : Nat) (hn : n ≤ cap) : Slc S w (.slice (some ⟨b, 0, none⟩) n cap) n cs.toList :=
  .inr ⟨b, 0, cap, rfl, hn, .inr hs, by simpa using Cells.ofBlock h 0⟩

/-- v reads as the bytes l. -/
def Bytes (S : List Nat) (w : World) (v : Value) (l : List UInt8) : Prop := Slc S w v l.length (l.map byteV)
/-- v reads as the numbers l. -/
def Ints (S : List Nat) (w : World) (v : Value) (l : List Int) : Prop := Slc S w v l.length (l.map intV)

theorem Bytes.nil (S : List Nat) (w : World) : Bytes S w (.slice none 0 0) [] := Slc.nil S w
theorem Bytes.kept {S : List Nat} {w w' : World} {v : Value} {l : List UInt8} (h : Bytes S w v l) (hf : Fr S w w') : Bytes S w' v l := Slc.kept h hf
theorem Bytes.mono {S S' : List Nat} {w : World} {v : Value} {l : List UInt8} (h : Bytes S w v l) (hs : ∀ x, x ∈ S' → x ∈ S) : Bytes S' w v l := Slc.mono h hs
theorem Bytes.more {S S' : List Nat} {w : World} {v : Value} {l : List UInt8} (h : Bytes S w v l) (hs : ∀ x, x ∈ S' → x ∈ S ∨ w.heap.size ≤ x) : Bytes S' w v l := Slc.more h hs
theorem Ints.kept {S : List Nat} {w w' : World} {v : Value} {l : List Int} (h : Ints S w v l) (hf : Fr S w w') : Ints S w' v l := Slc.kept h hf
theorem Ints.mono {S S' : List Nat} {w : World} {v : Value} {l : List Int} (h : Ints S w v l) (hs : ∀ x, x ∈ S' → x ∈ S) : Ints S' w v l := Slc.mono h hs
theorem Ints.more {S S' : List Nat} {w : World} {v : Value} {l : List Int} (h : Ints S w v l) (hs : ∀ x, x ∈ S' → x ∈ S ∨ w.heap.size ≤ x) : Ints S' w v l := Slc.more h hs

theorem Bytes.take {S : List Nat} {w : World} {B off n cap : Nat} {l : List UInt8} (h : Bytes S w (.slice (some ⟨B, off, none⟩) n cap) l) {k : Nat} (hk : k ≤ l.length) :
    Bytes S w (.slice (some ⟨B, off, none⟩) k cap) (l.take k) := by
  rcases h with ⟨a, c, h, h0, hl, _⟩ | ⟨B', off', cap', h, hc, hs, hcs⟩
  · obtain rfl : l = [] := List.eq_nil_of_length_eq_zero h0
    obtain rfl : k = 0 := by simpa using hk
    exact .inl ⟨_, cap, rfl, rfl, rfl, fun h => by cases h⟩
  · cases h
    refine .inr ⟨B, off, cap, by simp; omega, by simp; omega, ?_, ?_⟩
    · exact hs.imp (fun h => by simp at h; simp [h]) id
    · rw [List.map_take]; exact hcs.take k
theorem Bytes.drop {S : List Nat} {w : World} {B off n cap : Nat} {l : List UInt8} (h : Bytes S w (.slice (some ⟨B, off, none⟩) n cap) l) {k : Nat} (hk : k ≤ l.length) :
    Bytes S w (.slice (some ⟨B, off + k, none⟩) (n - k) (cap - k)) (l.drop k) := by
  rcases h with ⟨a, c, h, h0, hl, _⟩ | ⟨B', off', cap', h, hc, hs, hcs⟩
  · obtain rfl : l = [] := List.eq_nil_of_length_eq_zero h0
    obtain rfl : k = 0 := by simpa using hk
    obtain rfl : n = 0 := by simp only [Value.slice.injEq] at h; omega
    exact .inl ⟨_, cap, rfl, rfl, rfl, fun h => by cases h⟩
  · cases h
    refine .inr ⟨B, off + k, cap - k, by simp, by simp; omega, ?_, ?_⟩
    · exact hs.imp (fun h => by simp at h; simp [h]) id
    · rw [List.map_drop]; exact hcs.drop k
theorem Bytes.at {S : List Nat} {w : World} {B off n cap : Nat} {l : List UInt8} (h : Bytes S w (.slice (some ⟨B, off, none⟩) n cap) l) {i : Nat} (hi : i < l.length) :
    w.cell? ⟨B, off + i, none⟩ = some (.int .u8 (l[i]).toNat) := by
  rcases h with ⟨a, c, h, h0, hl, _⟩ | ⟨B', off', cap', h, hc, hs, hcs⟩
  · omega
  · cases h
    exact hcs i _ (by simp [hi, byteV])
theorem Ints.at {S : List Nat} {w : World} {B off n cap : Nat} {l : List Int} (h : Ints S w (.slice (some ⟨B, off, none⟩) n cap) l) {i : Nat} (hi : i < l.length) :
    w.cell? ⟨B, off + i, none⟩ = some (.int .i64 l[i]) := by
  rcases h with ⟨a, c, h, h0, hl, _⟩ | ⟨B', off', cap', h, hc, hs, hcs⟩
  · omega
  · cases h
    exact hcs i _ (by simp [hi, intV])

/-- Such a slice, its length and where it lies; for a walk. -/
theorem Slc.form {S : List Nat} {w : World} {v : Value} {n : Nat} {cs : List Value} (h : Slc S w v n cs) : ∃ a cap, v = .slice a n cap ∧ n ≤ cap := by
  rcases h with ⟨a, cap, rfl, rfl, _⟩ | ⟨B, off, cap, hv, hc, _⟩
  · exact ⟨a, cap, rfl, Nat.zero_le _⟩
  · exact ⟨_, cap, hv, hc⟩

theorem ownsKept {S : List Nat} {w w' : World} {base : Nat} {e : TypeId} {size : Nat} {v : Value} {n : Nat} {xs : List Value} (h : w.ownsRow base e size v n xs) (hf : Fr S w w') (hs : ∀ k, v.ownBlock = some k → k ∉ S) : w'.ownsRow base e size v n xs := by
  refine ⟨h.1, ?_⟩
  rcases h.2 with hn | ⟨g, cap, cur, rfl, hb, hgg, rest⟩
  · exact .inl hn
  · exact .inr ⟨g, cap, cur, rfl, hb, hf.heap hgg (hs g rfl), rest⟩
theorem ownsBase {w : World} {base base' : Nat} {e : TypeId} {size : Nat} {v : Value} {n : Nat} {xs : List Value} (h : w.ownsRow base e size v n xs) (hb : base' ≤ base) : w.ownsRow base' e size v n xs := by
  refine ⟨h.1, ?_⟩
  rcases h.2 with hn | ⟨g, cap, cur, rfl, hbg, rest⟩
  · exact .inl hn
  · exact .inr ⟨g, cap, cur, rfl, Nat.le_trans hb hbg, rest⟩

def splicedAt (cur : List Value) (o : Nat) (cs : List Value) : List Value := cur.take o ++ cs ++ cur.drop (o + cs.length)

theorem Fr.setRow (w : World) (g : Nat) (cs : Array Value) : Fr [g] w (w.setRow g cs) :=
  ⟨rfl, rfl, rfl, by simp, fun k _ hs => setRow_other w g k cs (fun h => hs (by simp [h]))⟩

theorem addr_add (B off i : Nat) : (⟨B, off, none⟩ : Addr).add i = ⟨B, off + i, none⟩ := by
  unfold Addr.add; split <;> simp_all

section
variable {P : Program} {w : World}

/-- 'copy(dst[o:], src)' where all of src has room: dst lies in a block known whole. -/
theorem run_copy_slc {S : List Nat} {dT sT ty elem : TypeId} {g o dLen dCap : Nat} {cur : Array Value} {T : TypeId} {v : Value} {n : Nat} {cs : List Value}
    (hu : P.underlying dT = some (.slice elem)) (hs : (P.info? elem).map (·.size) = some 1)
    (hg : w.heap[g]? = some (.cells cur T (0, 0))) (hv : Slc S w v n cs) (hn : cs.length = n) (hd : n ≤ dLen) (hfit : o + n ≤ cur.size) (h1 : ∀ u ∈ cs, u.oneCell' = true) :
    ∃ w2, (Builtin.copy_ #[dT, sT] ty #[.slice (some ⟨g, o, none⟩) dLen dCap, v]).run P w = .ok (.int .i64 n) w2 ∧
      w2.heap[g]? = some (.cells (splicedAt cur.toList o cs).toArray T (0, 0)) ∧ Fr [g] w w2 ∧ w2.heap.size = w.heap.size := by
  rcases hv with ⟨a, c, rfl, rfl, rfl, _⟩ | ⟨B, off, cap, rfl, hc, hb, hcs⟩
  · refine ⟨w, run_copy_none (P := P) w dT sT ty elem (some ⟨g, o, none⟩) a dLen dCap 0 c hu hs (by simp), ?_, Fr.refl _ _, rfl⟩
    simp [splicedAt, hg]
  · subst hn
    have hr := run_copy_row P w dT sT ty elem g o dLen dCap ⟨B, off, none⟩ cs.length cap cur T cs hu hs hg (Nat.min_eq_left hd).symm (fun j u hj => by rw [addr_add]; exact hcs j u hj) (by omega) h1
    exact ⟨_, by rw [hr]; rfl, setRow_heap w g cur _ T _ hg, Fr.setRow _ _ _, by simp⟩

/-- 'append(v, x...)', v a row of the call's own. -/
theorem run_append_slc {S : List Nat} {base : Nat} {t ty e : TypeId} {z : Value} {size bytes : Nat} (ht : P.underlying t = some (.slice e)) (hi : (P.info? e).map (fun i => (i.zero, i.size, i.bytes)) = some (some z, size, bytes)) (hzs : z.cells.size = size) (hsz : 0 < size)
    {v : Value} {n : Nat} {xs : List Value} (hown : w.ownsRow base e size v n xs) {x : Value} {m : Nat} {news : List Value} (hx : Slc S w x m news) (hl : news.length = m * size) (h1 : ∀ u ∈ news, u.oneCell' = true)
    (h63 : n + m ≤ maxLen) (hbytes : (n + m) * bytes ≤ 140737488355328) (hbase : base ≤ w.heap.size) :
    ∃ v' w', (Builtin.append_ #[t, t] ty #[v, x]).run P w = .ok v' w' ∧ w'.ownsRow base e size v' (n + m) (xs ++ news) ∧ Fr v.ownBlock.toList w w' ∧ (v' = .slice none 0 0 → v = .slice none 0 0 ∧ m = 0) := by
  obtain ⟨i0, hi0, hz0, hz1, hz2⟩ := info_parts hi
  rcases hx with ⟨a, c, rfl, rfl, rfl, ha⟩ | ⟨B, off, cap, rfl, hc, hb, hcs⟩
  · cases a with
    | none =>
      obtain rfl := ha rfl
      exact ⟨v, w, run_append_owned_none w base t ty e i0 size ht hi0 v n xs hown, by simpa using hown, Fr.refl _ _, fun h => ⟨h, rfl⟩⟩
    | some a =>
      obtain ⟨v', w', hr, ho, hg, hn⟩ := run_append_own (P := P) w base t ty e i0 z size bytes ht hi0 hz0 hz1 hz2 hzs hsz v n xs hown a 0 c [] (by simp) (by simp) (by simp) h63 hbytes hbase
      exact ⟨v', w', hr, ho, Fr.grown hg, hn.1⟩
  · obtain ⟨v', w', hr, ho, hg, hn⟩ := run_append_own (P := P) w base t ty e i0 z size bytes ht hi0 hz0 hz1 hz2 hzs hsz v n xs hown ⟨B, off, none⟩ m cap news hl (fun j u hj => by rw [addr_add]; exact hcs j u hj) h1 h63 hbytes hbase
    exact ⟨v', w', hr, ho, Fr.grown hg, hn.1⟩

/-- A builtin append whose run is known, as one step of a walk. -/
theorem wp_append_run {o : Oper} {a : Act} {K : Act → World → Prop} {Q : Exit → Act → World → Prop} (s x : Operand) (t : TypeId)
    (ho : o.op = .call { callee := .builtin .append, args := #[s, x], argTypes := #[t, t] }) {v' : Value} {w' : World}
    (hrun : (Builtin.append_ #[t, t] o.type #[a.eval s, a.eval x]).run P w = .ok v' w') (h : K (a.put o.dst v') w') : o.wp P a w K Q := by
  unfold Oper.wp execOp
  simp only [ho, resolve, invoke, builtin, Sem.run_bind, Sem.run_pure, Result.andThen_ok, List.map_toArray, List.map_cons, List.map_nil, hrun]
  exact h
theorem wpList_append_run {ops : Array Oper} {rest : List Oper} {o : Oper} {a : Act} {Q : Exit → Act → World → Prop} (hgd : o.guard = none) (s x : Operand) (t : TypeId)
    (ho : o.op = .call { callee := .builtin .append, args := #[s, x], argTypes := #[t, t] }) {v' : Value} {w' : World}
    (hrun : (Builtin.append_ #[t, t] o.type #[a.eval s, a.eval x]).run P w = .ok v' w') (h : wpList P ops Q rest (a.put o.dst v') w') : wpList P ops Q (o :: rest) a w :=
  wpList_plain hgd fun _ hK => wp_append_run s x t ho hrun (hK _ _ h)

theorem step_append_run {ops : Array Oper} {o : Oper} {a : Act} {K : Act → World → Prop} {Q : Exit → Act → World → Prop} {E : Prop} (hgd : o.guard = none) (s x : Operand) (t : TypeId)
    (ho : o.op = .call { callee := .builtin .append, args := #[s, x], argTypes := #[t, t] }) {v' : Value} {w' : World}
    (hrun : (Builtin.append_ #[t, t] o.type #[a.eval s, a.eval x]).run P w = .ok v' w') (h : K (a.put o.dst v') w') :
    if Region.wanted o (yielded ops a.tmps) = true then Oper.wp P o a w K Q else E := by
  rw [if_pos (by simp [Region.wanted, hgd])]
  exact wp_append_run s x t ho hrun h

/-- The append law as one step of a region that draws. -/
theorem step_append_slc {ops : Array Oper} {o : Oper} {a : Act} {K : Act → World → Prop} {Q : Exit → Act → World → Prop} {E : Prop} (hgd : o.guard = none) (s x : Operand) (t : TypeId)
    (ho : o.op = .call { callee := .builtin .append, args := #[s, x], argTypes := #[t, t] })
    {S : List Nat} {base : Nat} {e : TypeId} {z : Value} {size bytes : Nat} (ht : P.underlying t = some (.slice e)) (hi : (P.info? e).map (fun i => (i.zero, i.size, i.bytes)) = some (some z, size, bytes)) (hzs : z.cells.size = size) (hsz : 0 < size)
    {v xv : Value} {n : Nat} {xs : List Value} (hs : a.eval s = v) (hown : w.ownsRow base e size v n xs) {m : Nat} {news : List Value} (hxe : a.eval x = xv) (hx : Slc S w xv m news) (hl : news.length = m * size) (h1 : ∀ u ∈ news, u.oneCell' = true)
    {N : Nat} (hN : n + m = N) (h63 : N ≤ maxLen) (hbytes : N * bytes ≤ 140737488355328) (hbase : base ≤ w.heap.size)
    (h : ∀ v' w', w'.ownsRow base e size v' N (xs ++ news) → Fr v.ownBlock.toList w w' → (v' = .slice none 0 0 → v = .slice none 0 0 ∧ m = 0) → K (a.put o.dst v') w') :
    if Region.wanted o (yielded ops a.tmps) = true then Oper.wp P o a w K Q else E := by
  subst hN
  obtain ⟨v', w', hr, ho', hf, hn⟩ := run_append_slc (P := P) (t := t) (ty := o.type) ht hi hzs hsz hown hx hl h1 h63 hbytes hbase
  exact step_append_run hgd s x t ho (by rw [hs, hxe]; exact hr) (h v' w' ho' hf hn)

theorem map_ofNat_byteV (l : List UInt8) : l.map (fun x => UInt8.ofNat ((x.toNat : Int)).toNat) = l := by
  conv => rhs; rw [← List.map_id l]
  apply List.map_congr_left
  intro x _; simp

/-- 'string(b)'. -/
theorem run_string_bytes {S : List Nat} {src dst e : TypeId} (hs : P.underlying src = some (.slice e)) (he : P.underlying e = some (.int .u8)) (hd : P.underlying dst = some .string) {v : Value} {l : List UInt8} (h : Bytes S w v l) :
    (convert src dst v).run P w = .ok (.string ⟨l.toArray⟩) w := by
  rcases h with ⟨a, c, rfl, hn, _⟩ | ⟨B, off, cap, rfl, hcp, hb, hcs⟩
  · have : l = [] := List.eq_nil_of_length_eq_zero hn
    subst this
    rw [run_convert_bytes_string w src dst e _ _ _ hs he hd]
    cases a with
    | none => simp [Conv.bytesToString]; rfl
    | some a =>
      have hl : (loadCells a 0).run P w = .ok (([] : List Int).map (Value.int .u8)).toArray w := by
        have := run_loadCells_list (P := P) w a [] (by simp)
        simpa using this
      rw [run_bytesToString w a 0 c [] hl]; rfl
  · have hl : (loadCells ⟨B, off, none⟩ l.length).run P w = .ok ((l.map (fun x : UInt8 => (x.toNat : Int))).map (Value.int .u8)).toArray w := by
      have := run_loadCells_list (P := P) w ⟨B, off, none⟩ (l.map byteV) (fun j u hj => by rw [addr_add]; exact hcs j u hj)
      rw [List.length_map] at this
      rw [this, List.map_map]; rfl
    rw [run_convert_bytes_string w src dst e _ _ _ hs he hd, run_bytesToString w _ _ cap _ hl, foldl_push_bytes, List.map_map]
    have : (fun n : Int => UInt8.ofNat n.toNat) ∘ (fun x : UInt8 => (x.toNat : Int)) = fun x => UInt8.ofNat ((x.toNat : Int)).toNat := rfl
    rw [this, map_ofNat_byteV]
    simp [ByteArray.empty, ByteArray.emptyWithCapacity]
    rfl
end
end Go.Proofs.Ytgockpichhgijaa
