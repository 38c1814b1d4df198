/- Reading, making and writing blocks: what the world does beside the abstract heap. -/
import Derived.Test.YtcfjhdhpofomjaaGreatDoorAbsRel
import Derived.Laws.Rows
set_option linter.unusedSectionVars false
set_option linter.unusedSimpArgs false
set_option linter.unusedVariables false
set_option linter.constructorNameAsVariable false
namespace Go.Abs
variable [Env] [Fr]
open Go.RowKit

theorem look_some {h : Hp} {b : Pth} {B : Blk} (e : look h b = some B) :
    T.getP b h.m = some B ∧ ∃ Q, T.getP (rootP b B) h.m = some Q ∧ Q.low ≤ B.ver := by
  unfold look at e
  obtain ⟨X, hx, e⟩ := onO_eq_some e
  cases hr : X.root with
  | none =>
    rw [hr] at e
    obtain ⟨hle, e⟩ := cnd_eq_some (c := Nat.ble X.low X.ver) (a := some X) e
    cases e
    refine ⟨hx, B, ?_, Nat.le_of_ble_eq_true hle⟩
    simp only [rootP, hr, Option.getD_none]; exact hx
  | some q =>
    rw [hr] at e
    obtain ⟨Q, hq, e⟩ := onO_eq_some (x := T.getP q h.m) e
    obtain ⟨hle, e⟩ := cnd_eq_some e
    cases e
    refine ⟨hx, Q, ?_, Nat.le_of_ble_eq_true hle⟩
    simp only [rootP, hr, Option.getD_some]; exact hq
theorem look_of {h : Hp} {b : Pth} {B Q : Blk} (hb : T.getP b h.m = some B) (hq : T.getP (rootP b B) h.m = some Q) (hle : Q.low ≤ B.ver) : look h b = some B := by
  unfold look
  rw [hb, onO_some]
  cases hr : B.root with
  | none =>
    simp only [rootP, hr, Option.getD_none] at hq
    rw [hb] at hq; cases hq
    show cnd (Nat.ble B.low B.ver) (some B) none = _
    rw [Nat.ble_eq_true_of_le hle]; rfl
  | some q =>
    simp only [rootP, hr, Option.getD_some] at hq
    show onO (T.getP q h.m) none (fun Q => cnd (Nat.ble Q.low B.ver) (some B) none) = _
    rw [hq, onO_some, Nat.ble_eq_true_of_le hle]; rfl
/-- A block can be read if it is there and no newer member has been written. -/
theorem look_iff {h : Hp} {b : Pth} {B : Blk} : look h b = some B ↔ T.getP b h.m = some B ∧ ∃ Q, T.getP (rootP b B) h.m = some Q ∧ Q.low ≤ B.ver :=
  ⟨look_some, fun ⟨hb, Q, hq, hle⟩ => look_of hb hq hle⟩

theorem blt_iff {a b : Nat} : Nat.blt a b = true ↔ a < b := by
  unfold Nat.blt; rw [Nat.ble_eq]; exact Iff.rfl
theorem readB_some {B : Blk} {o : Nat} {x : AV} (e : readB B o = some x) : o < B.size ∧ B.cells.get o = some x := by
  obtain ⟨hlt, e⟩ := cnd_eq_some e
  exact ⟨blt_iff.1 hlt, e⟩
theorem readBN_zero (B : Blk) (off : Nat) : readBN B off 0 = some [] := rfl
theorem readBN_succ (B : Blk) (off n : Nat) : readBN B off (n + 1) = onO (readB B off) none fun v => onO (readBN B (off + 1) n) none fun l => some (v :: l) := rfl
theorem readBN_some {B : Blk} : ∀ {n off : Nat} {l : List AV}, readBN B off n = some l → l.length = n ∧ ∀ i x, l[i]? = some x → off + i < B.size ∧ B.cells.get (off + i) = some x
  | 0, off, l, e => by
    rw [readBN_zero] at e; cases e
    exact ⟨rfl, fun i x h => by simp at h⟩
  | n + 1, off, l, e => by
    rw [readBN_succ] at e
    obtain ⟨v, hv, e⟩ := onO_eq_some e
    obtain ⟨r, hr, e⟩ := onO_eq_some e
    cases e
    obtain ⟨h1, h2⟩ := readBN_some hr
    refine ⟨by simp [h1], fun i x hx => ?_⟩
    cases i with
    | zero => simp at hx; subst hx; exact readB_some hv
    | succ i =>
      have := h2 i x (by simpa using hx)
      rwa [show off + (i + 1) = off + 1 + i by omega]

section
variable {P : Program} {N : Nat} {w0 w : World} {φ : Phi} {h : Hp}

/-- A cell that is read. -/
theorem HRel.read (H : HRel N w0 φ h w) {b : Pth} {L : Loc} (hb : φ b = some L) {B : Blk} (hl : look h b = some B) {o : Nat} {x : AV} (e : readB B o = some x) :
    ∃ y, w.cell? ⟨L.blk, L.base + o, none⟩ = some y ∧ VRel φ x y ∧ x.one = true := by
  obtain ⟨B', hB, hrel⟩ := H.dom b L hb
  have : B' = B := by have := (look_some hl).1; rw [hB] at this; cases this; rfl
  subst this
  obtain ⟨arr, elem, lo, hi, hrow, hsz, hcells⟩ := hrel.row
  obtain ⟨hlt, hget⟩ := readB_some e
  obtain ⟨x', y, h1, h2, h3⟩ := hcells o hlt hl
  rw [hget] at h1; cases h1
  refine ⟨y, ?_, h3⟩
  simp only [World.cell?, hrow]; simpa using h2
theorem HRel.readN (H : HRel N w0 φ h w) {b : Pth} {L : Loc} (hb : φ b = some L) {B : Blk} (hl : look h b = some B) {o n : Nat} {l : List AV} (e : readBN B o n = some l) :
    ∃ ys : List Value, ys.length = n ∧ VRels φ l ys ∧ (∀ x ∈ l, x.one = true) ∧ (∀ j v, ys[j]? = some v → w.cell? ⟨L.blk, L.base + o + j, none⟩ = some v) := by
  obtain ⟨hlen, hc⟩ := readBN_some e
  have hread : ∀ j, j < n → ∃ y, w.cell? ⟨L.blk, L.base + o + j, none⟩ = some y ∧ ∀ x, l[j]? = some x → VRel φ x y ∧ x.one = true := by
    intro j hj
    have hx : l[j]? = some l[j] := List.getElem?_eq_getElem (by omega)
    obtain ⟨h1, h2⟩ := hc j _ hx
    have : readB B (o + j) = some l[j] := by
      unfold readB; rw [blt_iff.2 h1]; exact h2
    obtain ⟨y, hy, hv⟩ := H.read hb hl this
    refine ⟨y, by rw [Nat.add_assoc]; exact hy, fun x hx' => ?_⟩
    rw [hx] at hx'; cases hx'; exact hv
  refine ⟨(List.range n).map fun j => (w.cell? ⟨L.blk, L.base + o + j, none⟩).getD undef, by simp, ?_, ?_, ?_⟩
  · refine VRels.of_get (by simp [hlen]) fun i a y ha hy => ?_
    have hi : i < n := by
      rcases Nat.lt_or_ge i n with h | h
      · exact h
      · rw [List.getElem?_eq_none (by simpa [hlen] using h)] at ha; cases ha
    obtain ⟨y', h1, h2⟩ := hread i hi
    have : y = y' := by
      simp [List.getElem?_map, List.getElem?_range hi, h1] at hy
      exact hy.symm
    subst this; exact (h2 a ha).1
  · intro x hx
    obtain ⟨j, hj, e⟩ := List.getElem_of_mem hx
    obtain ⟨y', h1, h2⟩ := hread j (by omega)
    exact (h2 x (by rw [List.getElem?_eq_getElem hj, e])).2
  · intro j v hv
    have hj : j < n := by
      rcases Nat.lt_or_ge j n with h | h
      · exact h
      · rw [List.getElem?_eq_none (by simpa using h)] at hv; cases hv
    obtain ⟨y', h1, _⟩ := hread j hj
    simp [List.getElem?_map, List.getElem?_range hj, h1] at hv
    rw [h1, hv]
theorem add_addr (b o n : Nat) : (⟨b, o, none⟩ : Addr).add n = ⟨b, o + n, none⟩ := Addr.add_lit b o n
theorem run_loadCells_of (P : Program) {w : World} {b o : Nat} {ys : List Value} {n : Nat} (hn : ys.length = n) (h : ∀ j v, ys[j]? = some v → w.cell? ⟨b, o + j, none⟩ = some v) :
    (loadCells ⟨b, o, none⟩ n).run P w = .ok ys.toArray w := by
  subst hn
  exact run_loadCells_list (P := P) w ⟨b, o, none⟩ ys fun j v hv => by rw [add_addr]; exact h j v hv

/-- A draw changes nothing that is said. -/
theorem HRel.drew (H : HRel N w0 φ h w) : HRel N w0 φ h w.drew :=
  ⟨H.kept, H.zero, H.pos, H.base0, H.below.drew, H.base, H.fresh, fun b L hb => let ⟨B, h1, h2⟩ := H.dom b L hb; ⟨B, h1, ⟨h2.row, h2.fits, h2.stride⟩⟩, H.roots, H.apart, H.tip, H.vers, H.le, H.lows, H.ends⟩

def Phi.set (φ : Phi) (b : Pth) (L : Loc) : Phi := ⟨fun p => if p = b then some L else φ p, φ.keep⟩
theorem Phi.set_same (φ : Phi) (b : Pth) (L : Loc) : φ.set b L b = some L := by simp [Phi.set]
theorem Phi.set_ext {φ : Phi} {b : Pth} (hb : φ b = none) (L : Loc) : Ext φ (φ.set b L) := by
  refine ⟨fun p M hp => ?_, fun _ _ h => h⟩
  simp only [Phi.set]
  split
  · rename_i e; subst e; rw [hb] at hp; cases hp
  · exact hp
theorem Phi.set_some {φ : Phi} {b p : Pth} {L M : Loc} (h : φ.set b L p = some M) : (p = b ∧ M = L) ∨ (p ≠ b ∧ φ p = some M) := by
  simp only [Phi.set] at h
  split at h
  · rename_i e; cases h; exact .inl ⟨e, rfl⟩
  · rename_i e; exact .inr ⟨e, h⟩

theorem getP_fresh (H : HRel N w0 φ h w) : T.getP h.nx h.m = none := by
  cases e : T.getP h.nx h.m with
  | none => rfl
  | some B => exact absurd (H.fresh _ _ e) (Nat.lt_irrefl _)
theorem phi_fresh (H : HRel N w0 φ h w) : φ h.nx = none := by
  cases e : φ h.nx with
  | none => rfl
  | some L => obtain ⟨B, hB, _⟩ := H.dom _ _ e; rw [getP_fresh H] at hB; cases hB

/-- Lookups of blocks that are named are not changed by laying another one. -/
theorem look_put {h : Hp} {p b : Pth} {X : Blk} {nx : Pth} (hp : T.getP p h.m = none) (hb : b ≠ p) (hr : ∀ B q, T.getP b h.m = some B → B.root = some q → q ≠ p) :
    look ⟨T.putP X p h.m, nx⟩ b = look h b := by
  unfold look
  simp only [T.getP_other _ hb]
  cases e : T.getP b h.m with
  | none => rfl
  | some B =>
    rw [onO_some, onO_some]
    cases er : B.root with
    | none => rfl
    | some q => rw [onO_some, onO_some, T.getP_other _ (hr B q e er)]

/-- A new block that the world does not know yet. -/
theorem Pth.inc_ne : ∀ p : Pth, p.inc ≠ .z
  | .z, e | .l _, e | .r _, e => by cases e
theorem pendOf_eq {h h' : Hp} (e : T.getP .z h'.m = T.getP .z h.m) : pendOf h' = pendOf h := by unfold pendOf; rw [e]
theorem pendOf_put {m : T Blk} {p nx nx' : Pth} {X : Blk} (hp : p ≠ .z) : pendOf ⟨T.putP X p m, nx⟩ = pendOf ⟨m, nx'⟩ := pendOf_eq (T.getP_other _ (fun e => hp e.symm) _)
theorem pendOf_sizes {h h' : Hp} (back : ∀ X', T.getP .z h'.m = some X' → ∃ X, T.getP .z h.m = some X ∧ X'.size = X.size) (forth : ∀ X, T.getP .z h.m = some X → ∃ X', T.getP .z h'.m = some X') : pendOf h' = pendOf h := by
  unfold pendOf
  cases e : T.getP .z h.m with
  | none => cases e' : T.getP .z h'.m with
    | none => rfl
    | some X' => obtain ⟨X, h1, _⟩ := back X' e'; rw [e] at h1; cases h1
  | some X =>
    obtain ⟨X', e'⟩ := forth X e
    obtain ⟨X1, h1, h2⟩ := back X' e'
    rw [e] at h1; cases h1
    rw [e']; exact h2
/-- Objects that are no cells, where only a row of cells has turned. -/
theorem kept_setRow {w : World} {blk : Nat} {arr arr' : Array Value} {elem : TypeId} {fz : Nat × Nat} (hrow : w.heap[blk]? = some (.cells arr elem fz)) {i : Nat} {o : Obj} (hi : w.heap[i]? = some o) (hn : NoCells o) :
    (w.setRow blk arr').heap[i]? = some o := by
  have hne : i ≠ blk := fun e => by subst e; rw [hrow] at hi; cases hi; exact hn
  rw [setRow_other w blk i arr' hne]; exact hi
theorem HRel.lay (H : HRel N w0 φ h w) (X : Blk) : HRel N w0 φ ⟨T.putP X h.nx h.m, h.nx.inc⟩ w := by
  have hf := getP_fresh H
  have hne : ∀ b L, φ b = some L → b ≠ h.nx := fun b L hb e => by subst e; rw [phi_fresh H] at hb; cases hb
  have hg : ∀ b L, φ b = some L → T.getP b (T.putP X h.nx h.m) = T.getP b h.m := fun b L hb => T.getP_other _ (hne b L hb) _
  have hroot : ∀ b L B, φ b = some L → T.getP b h.m = some B → ∃ L', φ (rootP b B) = some L' := by
    intro b L B hb hB
    cases e : B.root with
    | none => exact ⟨L, by simp only [rootP, e, Option.getD_none]; exact hb⟩
    | some q => obtain ⟨Q, LQ, h1, _⟩ := H.roots b L B q hb hB e; exact ⟨LQ, by simp only [rootP, e, Option.getD_some]; exact h1⟩
  refine ⟨fun i o hi => by rw [pendOf_put H.pos (nx' := h.nx)]; exact H.kept i o hi, H.zero, Pth.inc_ne _, H.base0, H.below, H.base, ?_, ?_, ?_, ?_, ?_, ?_, ?_, ?_, ?_⟩
  · intro p B e
    rw [Pth.num_inc]
    rw [T.getP_putP] at e
    split at e
    · rename_i e'; rw [e']; exact Nat.lt_succ_self _
    · exact Nat.lt_succ_of_lt (H.fresh _ _ e)
  · intro b L hb
    obtain ⟨B, h1, h2⟩ := H.dom b L hb
    refine ⟨B, by rw [hg b L hb]; exact h1, ?_⟩
    rwa [look_put hf (hne b L hb) (fun B' q hB' hq => by
      obtain ⟨Q, LQ, h3, _⟩ := H.roots b L B' q hb hB' hq
      exact hne q LQ h3)]
  · intro b L B q hb hB hq
    rw [hg b L hb] at hB
    obtain ⟨Q, LQ, h1, h2, h3⟩ := H.roots b L B q hb hB hq
    exact ⟨Q, LQ, h1, by rw [hg q LQ h1]; exact h2, h3⟩
  · intro b b' L L' B B' hb hb' hB hB'
    rw [hg b L hb] at hB; rw [hg b' L' hb'] at hB'
    exact H.apart b b' L L' B B' hb hb' hB hB'
  · intro b L B Q hb hB hQ
    rw [hg b L hb] at hB
    obtain ⟨L', h'⟩ := hroot b L B hb hB
    rw [hg _ L' h'] at hQ
    exact H.tip b L B Q hb hB hQ
  · intro b b' L L' B B' hb hb' hB hB'
    rw [hg b L hb] at hB; rw [hg b' L' hb'] at hB'
    exact H.vers b b' L L' B B' hb hb' hB hB'
  · intro b L B Q hb hB hQ
    rw [hg b L hb] at hB
    obtain ⟨L', h'⟩ := hroot b L B hb hB
    rw [hg _ L' h'] at hQ
    exact H.le b L B Q hb hB hQ
  · intro b L B Q hb hB hQ
    rw [hg b L hb] at hB
    obtain ⟨L', h'⟩ := hroot b L B hb hB
    rw [hg _ L' h'] at hQ
    exact H.lows b L B Q hb hB hQ
  · intro b b' L L' B B' Q hb hb' hB hB' hr hQ
    rw [hg b L hb] at hB; rw [hg b' L' hb'] at hB'
    obtain ⟨L'', h'⟩ := hroot b L B hb hB
    rw [hg _ L'' h'] at hQ
    exact H.ends b b' L L' B B' Q hb hb' hB hB' hr hQ

theorem Keep.lay {φ : Phi} {h : Hp} (hf : T.getP h.nx h.m = none) (X : Blk) : Keep φ φ h ⟨T.putP X h.nx h.m, h.nx.inc⟩ := by
  refine ⟨fun b B _ hb hB => ⟨hb, ?_⟩, by show _ ≤ h.nx.inc.num; rw [Pth.num_inc]; omega⟩
  show T.getP b (T.putP X h.nx h.m) = some B
  rw [T.getP_other _ (fun e => by subst e; rw [hf] at hB; cases hB)]; exact hB

/-- The new block is known to the world. -/
theorem Keep.set {φ : Phi} {h h' : Hp} (k : Keep φ φ h h') (hf : T.getP h.nx h.m = none) (L : Loc) : Keep φ (φ.set h.nx L) h h' := by
  refine ⟨fun b B h0 hb hB => ⟨?_, (k.1 b B h0 hb hB).2⟩, k.2⟩
  simp only [Phi.set]
  rw [if_neg (fun e => by subst e; rw [hf] at hB; cases hB)]; exact hb

/-- The world makes the row of a block that it did not know. -/
theorem HRel.know (H : HRel N w0 φ h w) {b : Pth} {cells : T AV} {size stride : Nat} (hb : T.getP b h.m = some { cells, size, stride, root := none, ver := 0, tipv := 0, low := 0 })
    (hz0 : b ≠ .z) (hφ : φ b = none) (arr : Array Value) (elem : TypeId) (fz : Nat × Nat) (hfz : ∀ o, o < arr.size → ¬ (fz.1 ≤ o ∧ o < fz.2)) (hsz : size ≤ arr.size)
    (hc : ∀ i, i < size → ∃ x y, cells.get i = some x ∧ arr[i]? = some y ∧ VRel φ x y ∧ x.one = true) :
    HRel N w0 (φ.set b ⟨w.heap.size, 0, arr.size, stride⟩) h (w.alloc (.cells arr elem fz)) := by
  have hx := Phi.set_ext hφ ⟨w.heap.size, 0, arr.size, stride⟩
  have hold : ∀ p L, φ p = some L → L.blk < w.heap.size := by
    intro p L hp
    obtain ⟨B, _, hB⟩ := H.dom p L hp
    obtain ⟨arr, elem, lo, hi, hrow, _⟩ := hB.row
    exact (Array.getElem?_eq_some_iff.1 hrow).1
  have hrootne : ∀ p L B, φ p = some L → T.getP p h.m = some B → rootP p B ≠ b := by
    intro p L B hp hB e
    cases er : B.root with
    | none => simp only [rootP, er, Option.getD_none] at e; subst e; rw [hφ] at hp; cases hp
    | some q =>
      simp only [rootP, er, Option.getD_some] at e; subst e
      obtain ⟨Q, LQ, h1, _⟩ := H.roots p L B _ hp hB er
      rw [hφ] at h1; cases h1
  have hrowold : ∀ p L, φ p = some L → (w.alloc (.cells arr elem fz)).heap[L.blk]? = w.heap[L.blk]? := fun p L hp => Below.heap_alloc _ _ _ (hold p L hp)
  have hthaw : ∀ p L, φ p = some L → Thawed w L → Thawed (w.alloc (.cells arr elem fz)) L := by
    intro p L hp ht o ho
    have := ht o ho
    simp only [World.frozen?, hrowold p L hp] at this ⊢
    exact this
  have hbz := hz0
  refine ⟨fun i o hi => let ⟨q0, q1, q2⟩ := H.kept i o hi; ⟨q0, (Below.heap_alloc _ _ _ (Array.getElem?_eq_some_iff.1 q1).1).trans q1, q2⟩, ?_, H.pos, H.base0.trans hx, H.below.alloc H.base _, by rw [World.size_alloc]; have := H.base; omega, H.fresh, ?_, ?_, ?_, ?_, ?_, ?_, ?_, ?_⟩
  · simp only [Phi.set]; rw [if_neg (fun e => hbz e.symm)]; exact H.zero
  · intro p L hp
    rcases Phi.set_some hp with ⟨e, eL⟩ | ⟨hne, hp⟩
    · subst e eL
      refine ⟨_, hb, ⟨⟨arr, elem, fz.1, fz.2, ?_, rfl, fun i hi _ => ?_⟩, by simpa using hsz, rfl⟩⟩
      · exact heap_alloc_new w _
      · obtain ⟨x, y, h1, h2, h3⟩ := hc i hi
        exact ⟨x, y, h1, by simpa using h2, h3.1.mono hx, h3.2⟩
    · obtain ⟨B, h1, h2⟩ := H.dom p L hp
      obtain ⟨a, e, lo, hi, hrow, hs, hcs⟩ := h2.row
      refine ⟨B, h1, ⟨⟨a, e, lo, hi, by rw [hrowold p L hp]; exact hrow, hs, fun i hi hl => ?_⟩, h2.fits, h2.stride⟩⟩
      obtain ⟨x, y, h3, h4, h5⟩ := hcs i hi hl
      exact ⟨x, y, h3, h4, h5.1.mono hx, h5.2⟩
  · intro p L B q hp hB hq
    rcases Phi.set_some hp with ⟨e, eL⟩ | ⟨hne, hp⟩
    · subst e; rw [hb] at hB; cases hB; cases hq
    · obtain ⟨Q, LQ, h1, h2, h3⟩ := H.roots p L B q hp hB hq
      exact ⟨Q, LQ, hx _ _ h1, h2, h3⟩
  · intro p p' L L' B B' hp hp' hB hB' hblk hown
    rcases Phi.set_some hp with ⟨e, eL⟩ | ⟨hne, hp⟩ <;> rcases Phi.set_some hp' with ⟨e', eL'⟩ | ⟨hne', hp'⟩
    · subst e e'; rw [hB] at hB'; cases hB'; rfl
    · subst eL; have := hold p' L' hp'; simp only at hblk; omega
    · subst eL'; have := hold p L hp; simp only at hblk; omega
    · exact H.apart p p' L L' B B' hp hp' hB hB' hblk hown
  · intro p L B Q hp hB hQ ht
    rcases Phi.set_some hp with ⟨e, eL⟩ | ⟨hne, hp⟩
    · subst eL
      refine ⟨H.base, fun o ho => ?_⟩
      have := hfz o ho
      simp only [World.frozen?, heap_alloc_new, Bool.and_eq_false_iff, decide_eq_false_iff_not]
      simp only at ho
      omega
    · obtain ⟨h1, h2⟩ := H.tip p L B Q hp hB hQ ht
      exact ⟨h1, hthaw p L hp h2⟩
  · intro p p' L L' B B' hp hp' hB hB' hr hv
    rcases Phi.set_some hp with ⟨e, eL⟩ | ⟨hne, hp⟩ <;> rcases Phi.set_some hp' with ⟨e', eL'⟩ | ⟨hne', hp'⟩
    · rw [e, e']
    · have k := hrootne p' L' B' hp' hB'
      rw [e, hb] at hB; cases hB
      exact absurd (hr.symm.trans e) k
    · have k := hrootne p L B hp hB
      rw [e', hb] at hB'; cases hB'
      exact absurd (hr.trans e') k
    · exact H.vers p p' L L' B B' hp hp' hB hB' hr hv
  · intro p L B Q hp hB hQ
    rcases Phi.set_some hp with ⟨e, eL⟩ | ⟨hne, hp⟩
    · subst e; rw [hb] at hB; cases hB; exact Nat.zero_le _
    · exact H.le p L B Q hp hB hQ
  · intro p L B Q hp hB hQ
    rcases Phi.set_some hp with ⟨e, eL⟩ | ⟨hne, hp⟩
    · subst e; rw [hb] at hB; cases hB
      simp only [rootP, Option.getD_none] at hQ
      rw [hb] at hQ; cases hQ; exact Nat.zero_le _
    · exact H.lows p L B Q hp hB hQ
  · intro p p' L L' B B' Q hp hp' hB hB' hr hQ ht hlow hblk
    rcases Phi.set_some hp with ⟨e, eL⟩ | ⟨hne, hp⟩ <;> rcases Phi.set_some hp' with ⟨e', eL'⟩ | ⟨hne', hp'⟩
    · subst e e' eL eL'; rw [hB] at hB'; cases hB'; exact Nat.le_refl _
    · subst eL; have := hold p' L' hp'; simp only at hblk; omega
    · subst eL'; have := hold p L hp; simp only at hblk; omega
    · exact H.ends p p' L L' B B' Q hp hp' hB hB' hr hQ ht hlow hblk
end
end Go.Abs
