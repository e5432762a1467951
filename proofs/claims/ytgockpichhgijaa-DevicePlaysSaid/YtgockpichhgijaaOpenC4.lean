/- A list of calls that came in ([]cambistlaw04.Call), as plain words. -/
import Derived.Test.YtgockpichhgijaaOpen
import Derived.Test.YtgockpichhgijaaProg
import Derived.Deep.Slices
namespace Go.Proofs.Ytgockpichhgijaa
open Go.ChangeShapes Go.WideShapes Go.ChangeAt Go.RowKit

structure CallD where
  kind : Int
  n : Int
  b : List UInt8
  bp : Option Addr
  bc : Nat
  keep : List Int
  kp : Option Addr
  kc : Nat
  cut : Int
  x : UInt8
instance : Inhabited CallD := ⟨⟨0, 0, [], none, 0, [], none, 0, 0, 0⟩⟩
def CallD.cells (c : CallD) : List Value := [.int .i64 c.kind, .int .i64 c.n, .slice c.bp c.b.length c.bc, .slice c.kp c.keep.length c.kc, .int .i64 c.cut, byteV c.x]
structure CallAt (S : List Nat) (w : World) (B off : Nat) (c : CallD) : Prop where
  cells : ∀ j u, c.cells[j]? = some u → w.cell? ⟨B, off + j, none⟩ = some u
  bytes : Bytes S w (.slice c.bp c.b.length c.bc) c.b
  keeps : Ints S w (.slice c.kp c.keep.length c.kc) c.keep
  out : B ∉ S
  blen : c.b.length ≤ maxLen
  klen : c.keep.length ≤ maxLen
  kwf : (Lit.int .i64 c.kind).wf = true
  nwf : (Lit.int .i64 c.n).wf = true
  cwf : (Lit.int .i64 c.cut).wf = true
theorem CallAt.kept {S : List Nat} {w w' : World} {B off : Nat} {c : CallD} (h : CallAt S w B off c) (hf : Fr S w w') : CallAt S w' B off c :=
  ⟨fun j u hj => hf.cellSome (h.cells j u hj) h.out, h.bytes.kept hf, Slc.kept h.keeps hf, h.out, h.blen, h.klen, h.kwf, h.nwf, h.cwf⟩
def Scr (S : List Nat) (w : World) (v : Value) (cs : List CallD) : Prop :=
  (∃ a cap, v = .slice a 0 cap ∧ cs = []) ∨ ∃ B off cap, v = .slice (some ⟨B, off, none⟩) cs.length cap ∧ ∀ i c, cs[i]? = some c → CallAt S w B (off + i * 6) c
theorem Scr.kept {S : List Nat} {w w' : World} {v : Value} {cs : List CallD} (h : Scr S w v cs) (hf : Fr S w w') : Scr S w' v cs := by
  rcases h with h | ⟨B, off, cap, h, hc⟩
  · exact .inl h
  · exact .inr ⟨B, off, cap, h, fun i c hi => (hc i c hi).kept hf⟩
theorem Scr.more {S : List Nat} {w : World} {v : Value} {cs : List CallD} (h : Scr [] w v cs) (hs : ∀ x, x ∈ S → w.heap.size ≤ x) : Scr S w v cs := by
  rcases h with h | ⟨B, off, cap, h, hc⟩
  · exact .inl h
  · refine .inr ⟨B, off, cap, h, fun i c hi => ?_⟩
    have hx := hc i c hi
    refine ⟨hx.cells, hx.bytes.more (fun x hx => .inr (hs x hx)), Slc.more hx.keeps (fun x hx => .inr (hs x hx)), fun hm => ?_, hx.blen, hx.klen, hx.kwf, hx.nwf, hx.cwf⟩
    have h0 := hx.cells 0 _ rfl
    have h1 := hs B hm
    unfold World.cell? at h0
    simp [Array.getElem?_eq_none h1] at h0
theorem Scr.form {S : List Nat} {w : World} {v : Value} {cs : List CallD} (h : Scr S w v cs) : ∃ a cap, v = .slice a cs.length cap := by
  rcases h with ⟨a, cap, h, rfl⟩ | ⟨B, off, cap, h, _⟩
  · exact ⟨a, cap, h⟩
  · exact ⟨_, _, h⟩

section
variable {H : Type} {enc : TypeId × Value → H} {W : World}

theorem row_bytes {v : Value} {zs : List Int} (hs : Slc [] W v zs.length (zs.map (Value.int .u8))) (hw : ∀ n ∈ zs, (Lit.int .u8 n).wf = true) : ∃ l : List UInt8, l.length = zs.length ∧ Bytes [] W v l := by
  refine ⟨zs.map fun n => UInt8.ofNat n.toNat, by simp, ?_⟩
  unfold Bytes
  rw [List.length_map, List.map_map]
  have : zs.map (byteV ∘ fun n => UInt8.ofNat n.toNat) = zs.map (Value.int .u8) := by
    apply List.map_congr_left
    intro n hn
    simp only [Function.comp, byteV]
    rw [toNat_u8 (hw n hn)]
  rw [this]
  exact hs

theorem open_call {n : Nat} {cs : List Value} {B off : Nat} {x : DataW H × List MemPlace} (h : DataW.trod enc Try.prog W 0 (fun _ => true) true n 47 cs = some x)
    (hc : ∀ i, i < 6 → W.cell? ⟨B, off + i, none⟩ = cs[i]?) : ∃ c : CallD, CallAt [] W B off c := by
  obtain ⟨xs, n', rfl, _, hlen, hxl, hf⟩ := DataW.trod_struct Try.underlying47 h
  have e6 : Try.prog.cellsOf 47 = 6 := by kernel_rfl
  have ei : Try.prog.cellsOf 3 = 1 := by kernel_rfl
  have eb : Try.prog.cellsOf 23 = 1 := by kernel_rfl
  have ek : Try.prog.cellsOf 45 = 1 := by kernel_rfl
  have e8 : Try.prog.cellsOf 5 = 1 := by kernel_rfl
  rw [e6] at hlen
  have hxl' : xs.length = 6 := hxl
  match cs, hlen with
  | [c0, c1, c2, c3, c4, c5], _ =>
    have h0 := hf 0 _ rfl
    change DataW.trod enc _ W 0 _ true n' 3 ((List.drop 0 _).take (Try.prog.cellsOf 3)) = _ at h0
    have h1 := hf 1 _ rfl
    change DataW.trod enc _ W 0 _ true n' 3 ((List.drop 1 _).take (Try.prog.cellsOf 3)) = _ at h1
    have h2 := hf 2 _ rfl
    change DataW.trod enc _ W 0 _ true n' 23 ((List.drop 2 _).take (Try.prog.cellsOf 23)) = _ at h2
    have h3 := hf 3 _ rfl
    change DataW.trod enc _ W 0 _ true n' 45 ((List.drop 3 _).take (Try.prog.cellsOf 45)) = _ at h3
    have h4 := hf 4 _ rfl
    change DataW.trod enc _ W 0 _ true n' 3 ((List.drop 4 _).take (Try.prog.cellsOf 3)) = _ at h4
    have h5 := hf 5 _ rfl
    change DataW.trod enc _ W 0 _ true n' 5 ((List.drop 5 _).take (Try.prog.cellsOf 5)) = _ at h5
    rw [ei, List.getElem?_eq_getElem (by omega)] at h0 h1 h4
    rw [eb, List.getElem?_eq_getElem (by omega)] at h2
    rw [ek, List.getElem?_eq_getElem (by omega)] at h3
    rw [e8, List.getElem?_eq_getElem (by omega)] at h5
    simp only [List.drop_zero, List.drop_succ_cons, List.take_succ_cons, List.take_zero] at h0 h1 h2 h3 h4 h5
    obtain ⟨k0, e0, _, w0⟩ := DataW.trod_int Try.underlying3 h0
    obtain ⟨k1, e1, _, w1⟩ := DataW.trod_int Try.underlying3 h1
    obtain ⟨k4, e4, _, w4⟩ := DataW.trod_int Try.underlying3 h4
    obtain ⟨k5, e5, _, w5⟩ := DataW.trod_int Try.underlying5 h5
    obtain ⟨v2, z2, e2, s2, y2, m2⟩ := open_row Try.underlying23 Try.underlying5 e8 h2
    obtain ⟨v3, z3, e3, s3, y3, m3⟩ := open_row Try.underlying45 Try.underlying3 ei h3
    simp only [List.cons.injEq, and_true] at e0 e1 e2 e3 e4 e5
    subst e0 e1 e2 e3 e4 e5
    obtain ⟨l2, hl2, b2⟩ := row_bytes s2 y2
    obtain ⟨bp, bc, rfl, _⟩ := Slc.form b2
    obtain ⟨kp, kc, rfl, _⟩ := Slc.form s3
    refine ⟨⟨k0, k1, l2, bp, bc, z3, kp, kc, k4, UInt8.ofNat k5.toNat⟩, ⟨?_, b2, s3, by simp, by simp only; omega, m3, w0, w1, w4⟩⟩
    intro j u hj
    have hj6 : j < 6 := (List.getElem?_eq_some_iff.1 hj).1
    rw [hc j hj6]
    rw [← hj]
    unfold CallD.cells byteV
    simp only
    rw [toNat_u8 w5]

theorem open_calls {base : Nat} {v : Value} {d : DataW H} {p : List MemPlace} (hv : Value.okWide Try.prog W .any base 40 v) (h : DataW.Trod enc Try.prog W 0 (fun _ => true) true 40 v d p) :
    ∃ cs : List CallD, Scr [] W v cs ∧ cs.length ≤ maxLen := by
  obtain ⟨a, len, cap, rfl⟩ := okWide_slice Try.underlying40 hv
  obtain ⟨fuel, hf⟩ := h
  rcases Deep.open_slice Try.underlying40 hf with ⟨hcs, _⟩ | ⟨a', len', cap', m, n, D, Pl, hcs, _, hl, hm, hmm, _, hx⟩
  · have : Value.slice a len cap = .slice none 0 0 := by simpa [Value.cells] using hcs
    rw [this]
    exact ⟨[], .inl ⟨none, 0, rfl, rfl⟩, Nat.zero_le _⟩
  · have : Value.slice a len cap = .slice (some a') len' cap' := by simpa [Value.cells] using hcs
    rw [this]
    have hmm' : m = cap' := by simpa using hmm
    have e6 : Try.prog.cellsOf 47 = 6 := by kernel_rfl
    rw [e6] at hx
    by_cases h0 : len' = 0
    · subst h0
      exact ⟨[], .inl ⟨_, _, rfl, rfl⟩, Nat.zero_le _⟩
    · obtain ⟨B, off, rfl⟩ : ∃ B off, a' = ⟨B, off, none⟩ := by
        obtain ⟨cs', h1, h2⟩ := hx 0 (by omega)
        obtain ⟨_, hlen, hcell⟩ := World.cells?_some h1
        have h3 := hcell 0 (by omega)
        rw [Deep.add_add, List.getElem?_eq_getElem (by omega)] at h3
        exact addr_cases h3
      obtain ⟨f, hfc⟩ := Deep.choose_lt (n := len') (p := fun i c => CallAt [] W B (off + i * 6) c) (fun i hi => by
        obtain ⟨cs', h1, h2⟩ := hx i (by omega)
        obtain ⟨_, hlen, hcell⟩ := World.cells?_some h1
        refine open_call h2 (fun j hj => ?_)
        rw [← hcell j hj, Deep.add_add, addr_add, Nat.add_assoc])
      refine ⟨(List.range len').map f, .inr ⟨B, off, cap', by simp, fun i c hi => ?_⟩, by simp; omega⟩
      rw [List.getElem?_map, Option.map_eq_some_iff] at hi
      obtain ⟨k, hk, rfl⟩ := hi
      have := List.getElem?_eq_some_iff.1 hk
      obtain ⟨h1, h2⟩ := this
      simp at h1 h2
      subst h2
      exact hfc i h1
end
end Go.Proofs.Ytgockpichhgijaa
