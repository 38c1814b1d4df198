/- append: the abstract machine's is the model's. -/
import Derived.Test.YtcfjhdhpofomjaaGreatDoorAbsOps8
set_option linter.unusedSectionVars false
set_option linter.unusedSimpArgs false
set_option linter.unusedVariables false
set_option linter.constructorNameAsVariable false
namespace Go.Abs
variable [Env] [Fr]
open Go.RowKit

theorem memCells_spec {B : Blk} {stride off len e : Nat} {xs : List AV} {cells : T AV} (hm : memCells B stride off len e xs = some cells) (he : e = off + len * stride) :
    (∀ i, i < len * stride → cells.get i = B.cells.get (off + i)) ∧ (∀ j, j < xs.length → cells.get (len * stride + j) = xs[j]?) := by
  unfold memCells at hm
  cases h0 : Nat.beq off 0 with
  | true =>
    rw [h0] at hm; cases hm
    have h0 := beq_true h0
    subst h0
    refine ⟨fun i hi => ?_, fun j hj => ?_⟩
    · rw [get_setL, if_neg (by omega), Nat.zero_add]
    · rw [get_setL, if_pos (by omega)]; congr 1; omega
  | false =>
    rw [h0, cnd_false] at hm
    obtain ⟨old, ho, h1⟩ := onO_eq_some hm
    cases h1
    obtain ⟨k1, k2⟩ := readBN_some ho
    have k1 : old.length = len * stride := k1
    refine ⟨fun i hi => ?_, fun j hj => ?_⟩
    · rw [get_ofL, List.getElem?_append_left (by omega)]
      have : old[i]? = some old[i] := List.getElem?_eq_getElem (by omega)
      rw [this, (k2 i _ this).2]
    · rw [get_ofL, List.getElem?_append_right (by omega)]; congr 1; omega

section
variable {P : Program} {N : Nat} {w0 w : World} {φ : Phi} {h h' : Hp} {tm : T AV} {a : Act} {o : Oper} {op : AOp} {v : AV} {call : Cl}

theorem zeroCells_size (z : Array Value) (n : Nat) : (Builtin.zeroCells z n).size = n * z.size := by simp [Builtin.zeroCells]

theorem member_ok {stride need cap : Nat} {q : Pth} {Q : Blk} {cells : T AV} {keep : Bool} (e : member h stride need cap q Q cells keep = .ok v h') :
    v = .sl h.nx 0 need cap ∧ h' = ⟨T.putP { Q with tipv := Q.tipv + 1, low := cnd keep Q.low (Q.tipv + 1) } q
        (T.putP { cells, size := need * stride, stride, root := some q, ver := Q.tipv + 1, tipv := 0, low := 0 } h.nx h.m), h.nx.inc⟩ := by
  unfold member at e
  rw [forceN_eq, forceN_eq, forceT_eq, forceM_eq] at e
  cases e
  exact ⟨rfl, rfl⟩

/-- The row that an append makes: the old cells, the new ones, zeros. -/
theorem grown_rel {old new : List AV} {ao an : Array Value} {z : Array Value} {n k : Nat} (ho : VRels φ old ao.toList) (hn : VRels φ new an.toList) (hk : (old ++ new).length = k) :
    VRels φ (old ++ new) ((ao ++ an ++ Builtin.zeroCells z n).toList.take k) := by
  have h1 := ho.length
  have h2 := hn.length
  have : (ao ++ an ++ Builtin.zeroCells z n).toList.take k = ao.toList ++ an.toList := by
    simp only [Array.toList_append]
    rw [List.take_append_of_le_length (by simp at hk ⊢; simp at h1 h2; omega), List.take_of_length_le (by simp at hk ⊢; simp at h1 h2; omega)]
  rw [this]
  exact ho.append hn

theorem HRel.heapEq (H : HRel N w0 φ h w) {w1 : World} (e1 : w1.heap = w.heap) (e2 : w1.os = w.os) (e3 : w1.tape = w.tape) (e4 : w1.output = w.output) : Below N w w1 :=
  ⟨e2, e3, e4, by rw [e1]; exact Nat.le_refl _, fun k _ => by rw [e1]⟩

theorem rootOf_some {b : Pth} {B : Blk} {x : Pth × Blk} (hB : T.getP b h.m = some B) (e : rootOf h b B = some x) : x.1 = rootP b B ∧ T.getP (rootP b B) h.m = some x.2 := by
  unfold rootOf at e
  cases er : B.root with
  | none =>
    rw [er, onO_none] at e
    cases e
    simp only [rootP, er, Option.getD_none]
    exact ⟨trivial, hB⟩
  | some q =>
    rw [er, onO_some] at e
    obtain ⟨Q, hQ, e⟩ := onO_eq_some e
    cases e
    simp only [rootP, er, Option.getD_some]
    exact ⟨trivial, hQ⟩

/-- A member of the family in a row of its own. -/
theorem HRel.memberNew (H : HRel N w0 φ h w) {b : Pth} {L : Loc} {B Q : Blk} (hb : φ b = some L) (hB : T.getP b h.m = some B) (hQ : T.getP (rootP b B) h.m = some Q) (ht : Q.tipv = B.ver)
    {cells : T AV} {size stride : Nat} {keep : Bool} {h' : Hp}
    (hh : h' = ⟨T.putP { Q with tipv := Q.tipv + 1, low := cnd keep Q.low (Q.tipv + 1) } (rootP b B)
        (T.putP { cells, size, stride, root := some (rootP b B), ver := Q.tipv + 1, tipv := 0, low := 0 } h.nx h.m), h.nx.inc⟩)
    (arr : Array Value) (el : TypeId) (hsz : size ≤ arr.size)
    (hc : ∀ i, i < size → ∃ x y, cells.get i = some x ∧ arr[i]? = some y ∧ VRel φ x y ∧ x.one = true) {w1 : World} (e1 : w1.heap = w.heap) (hbel : Below N w w1) :
    HRel N w0 (φ.set h.nx ⟨w.heap.size, 0, arr.size, stride⟩) h' (w1.alloc (.cells arr el)) ∧ Keep φ (φ.set h.nx ⟨w.heap.size, 0, arr.size, stride⟩) h h' := by
  subst hh
  have hold : ∀ p L, φ p = some L → L.blk < w.heap.size := by
    intro p L hp
    obtain ⟨B, _, hB⟩ := H.dom p L hp
    obtain ⟨arr, elem, lo, hi, hrow, _⟩ := hB.row
    exact (Array.getElem?_eq_some_iff.1 hrow).1
  have hrowold : ∀ p L, φ p = some L → (w1.alloc (.cells arr el)).heap[L.blk]? = w.heap[L.blk]? := fun p L hp => by
    rw [Below.heap_alloc _ _ _ (by rw [e1]; exact hold p L hp), e1]
  refine H.joined hb hB hQ ht (joined_put (getP_fresh H) hQ) rfl rfl (hbel.alloc (by rw [e1]; exact H.base) _) (fun i o hi _ => (Below.heap_alloc _ _ _ (by rw [e1]; exact (Array.getElem?_eq_some_iff.1 hi).1)).trans (by rw [e1]; exact hi)) ?_ ?_ ?_ ?_ H.base ?_ ?_
  · intro p Lp Y ar elem lo hi hp hY hrow
    exact ⟨ar, elem, lo, hi, by rw [hrowold p Lp hp]; exact hrow, rfl, fun _ _ _ _ => rfl⟩
  · intro p Lp hp ht' o ho
    have := ht' o ho
    simp only [World.frozen?, hrowold p Lp hp] at this ⊢
    exact this
  · refine ⟨⟨arr, el, 0, 0, ?_, rfl, fun i hi _ => ?_⟩, by simpa using hsz, rfl⟩
    · have := heap_alloc_new w1 (.cells arr el)
      rw [e1] at this
      exact this
    · obtain ⟨x, y, g1, g2, g3, g4⟩ := hc i hi
      exact ⟨x, y, g1, by simpa using g2, g3.mono (Phi.set_ext (phi_fresh H) _), g4⟩
  · intro o _
    have := heap_alloc_new w1 (.cells arr el)
    rw [e1] at this
    simp only [World.frozen?, this]
    simp
  · intro p Lp Y hp hY hblk
    have := hold p Lp hp
    simp only at hblk; omega
  · intro p Lp Y hp hY _ _ _ hblk
    have := hold p Lp hp
    simp only at hblk; omega

/-- A member of the family in the family's row. -/
theorem HRel.memberStay (H : HRel N w0 φ h w) {b : Pth} {L : Loc} {B Q : Blk} (hb : φ b = some L) (hB : T.getP b h.m = some B) (hl : look h b = some B) (hQ : T.getP (rootP b B) h.m = some Q) (ht : Q.tipv = B.ver)
    {cells : T AV} {stride off len k : Nat} {h' : Hp} {xs : List AV} {ys : List Value}
    (hh : h' = ⟨T.putP { Q with tipv := Q.tipv + 1, low := cnd (Nat.beq (off + len * stride) B.size) Q.low (Q.tipv + 1) } (rootP b B)
        (T.putP { cells, size := (len + k) * stride, stride, root := some (rootP b B), ver := Q.tipv + 1, tipv := 0, low := 0 } h.nx h.m), h.nx.inc⟩)
    (hst : B.stride = stride) (he : off + len * stride ≤ B.size) (hxs : xs.length = k * stride) (hv : VRels φ xs ys) (ho : ∀ x ∈ xs, x.one = true)
    (hroom : L.base + off + (len + k) * stride ≤ L.lim)
    (hc1 : ∀ i, i < len * stride → cells.get i = B.cells.get (off + i)) (hc2 : ∀ j, j < xs.length → cells.get (len * stride + j) = xs[j]?) :
    ∃ w', (storeCells ⟨L.blk, L.base + off + len * stride, none⟩ ys).run P w = .ok () w' ∧ HRel N w0 (φ.set h.nx ⟨L.blk, L.base + off, L.lim, stride⟩) h' w' ∧ Keep φ (φ.set h.nx ⟨L.blk, L.base + off, L.lim, stride⟩) h h' := by
  subst hh
  obtain ⟨B0, hB0, hrel⟩ := H.dom b L hb
  have e0 : B0 = B := by rw [hB0] at hB; cases hB; rfl
  subst e0
  obtain ⟨arr, elem, lo, hi, hrow, harr, hcells⟩ := hrel.row
  obtain ⟨hown, hthaw⟩ := H.tip b L B0 Q hb hB hQ ht
  have hlen := hv.length
  have hmul : (len + k) * stride = len * stride + k * stride := Nat.add_mul _ _ _
  have hfit : L.base + off + len * stride + ys.length ≤ arr.size := by omega
  have hfz : ∀ j, L.base + off + len * stride + 0 ≤ j → j < L.base + off + len * stride + 0 + ys.length → ¬ ((lo, hi).1 ≤ j ∧ j < (lo, hi).2) := by
    intro j _ h2
    have := hthaw j (by omega)
    simp only [World.frozen?, hrow, Bool.and_eq_false_iff, decide_eq_false_iff_not] at this
    simp only
    omega
  have hst' := run_storeCells_thaw P L.blk (L.base + off + len * stride) elem (lo, hi) ys 0 arr w hrow hfz (by omega) (hv.one ho)
  simp only [Nat.add_zero] at hst'
  generalize hS : L.base + off + len * stride = S at hst' hfit
  generalize harr' : (arr.toList.take S ++ ys ++ arr.toList.drop (S + ys.length)).toArray = arr' at hst'
  have hsz' : arr'.size = arr.size := by rw [← harr']; simp; omega
  have hget : ∀ j : Nat, arr'[j]? = if S ≤ j ∧ j < S + ys.length then ys[j - S]? else arr[j]? := by
    intro j
    rw [← harr', List.getElem?_toArray, splice_get _ _ _ _ (by simpa using hfit)]
    simp
  have hrow' : (w.setRow L.blk arr').heap[L.blk]? = some (.cells arr' elem (lo, hi)) := setRow_heap w L.blk arr arr' elem (lo, hi) hrow
  have hfro : ∀ a, (w.setRow L.blk arr').frozen? a = w.frozen? a := by
    intro a
    by_cases e : a.block = L.blk
    · simp only [World.frozen?, e, hrow', hrow]
    · simp only [World.frozen?, setRow_other w L.blk a.block arr' e]
  have hbelow : Below N w (w.setRow L.blk arr') := ⟨rfl, rfl, rfl, by simp, fun k hk => setRow_other w L.blk k arr' (by unfold Own at hown; omega)⟩
  have hapart : ∀ p Lp Y, φ p = some Lp → T.getP p h.m = some Y → Lp.blk = L.blk → rootP p Y = rootP b B0 := fun p Lp Y hp hY e => (H.apart b p L Lp B0 Y hb hp hB hY e.symm hown).symm
  have hends : ∀ p Lp Y, φ p = some Lp → T.getP p h.m = some Y → look h p = some Y → rootP p Y = rootP b B0 → Lp.blk = L.blk → Lp.base + Y.size ≤ L.base + B0.size := by
    intro p Lp Y hp hY hly hr hblk
    obtain ⟨_, Q', hQ', hle⟩ := look_some hly
    have hq : Q' = Q := by rw [hr, hQ] at hQ'; cases hQ'; rfl
    subst hq
    exact H.ends p b Lp L Y B0 Q' hp hb hY hB hr (by rw [hr]; exact hQ) ht hle hblk
  refine ⟨_, hst', ?_⟩
  refine H.joined (X := { cells, size := (len + k) * stride, stride, root := some (rootP b B0), ver := Q.tipv + 1, tipv := 0, low := 0 }) (LX := ⟨L.blk, L.base + off, L.lim, stride⟩)
    (keep := Nat.beq (off + len * stride) B0.size) hb hB hQ ht (joined_put (getP_fresh H) hQ) rfl rfl hbelow (fun i o hi hn => kept_setRow hrow hi hn) ?_ ?_ ?_ ?_ hown hapart ?_
  · intro p Lp Y ar el' lo' hi' hp hY hrowp
    by_cases e : Lp.blk = L.blk
    · rw [e, hrow] at hrowp; cases hrowp
      refine ⟨arr', elem, lo, hi, by rw [e]; exact hrow', hsz', fun hk hly i hi' => ?_⟩
      have hr := hapart p Lp Y hp hY e
      have hk : Nat.beq (off + len * stride) B0.size = true := hk.resolve_right (fun hne => hne hr)
      have hk := beq_true hk
      have := hends p Lp Y hp hY hly hr e
      rw [hget, if_neg (by omega)]
    · exact ⟨ar, el', lo', hi', by rw [setRow_other w L.blk Lp.blk arr' e]; exact hrowp, rfl, fun _ _ _ _ => rfl⟩
  · intro p Lp hp ht' o ho'
    rw [hfro]; exact ht' o ho'
  · refine ⟨⟨arr', elem, lo, hi, hrow', by rw [hsz']; exact harr, fun i hi' _ => ?_⟩, by simpa [Nat.add_assoc] using hroom, rfl⟩
    have hi' : i < (len + k) * stride := hi'
    have hx := Phi.set_ext (phi_fresh H) ⟨L.blk, L.base + off, L.lim, stride⟩
    by_cases hin : i < len * stride
    · obtain ⟨x, y, g1, g2, g3, g4⟩ := hcells (off + i) (by omega) hl
      refine ⟨x, y, by rw [hc1 i hin]; exact g1, ?_, g3.mono hx, g4⟩
      rw [hget, if_neg (by simp only; omega)]
      rw [← g2]; congr 1; simp only; omega
    · have hj : i - len * stride < xs.length := by omega
      have hgx : xs[i - len * stride]? = some xs[i - len * stride] := List.getElem?_eq_getElem hj
      obtain ⟨y, hy, hvr⟩ := hv.get hgx
      refine ⟨_, y, ?_, ?_, hvr.mono hx, ho _ (List.getElem_mem hj)⟩
      · have h2 := hc2 _ hj
        rw [show len * stride + (i - len * stride) = i by omega] at h2
        show cells.get i = _
        rw [h2]; exact hgx
      · rw [hget, if_pos (by simp only; omega), ← hy]; congr 1; simp only; omega
  · intro o ho'
    rw [hfro]; exact hthaw o ho'
  · intro p Lp Y hp hY hly hk hr hblk
    have hk := beq_true hk
    have := hends p Lp Y hp hY hly hr hblk
    simp only
    omega

theorem sound_append {ty ty2 el : TypeId} {d2 : TypeDesc} {args : Array Operand} {argTypes : Array TypeId} {s x : Operand} {s' x' : AX} {n b : Nat} {zl : List AV} (ho : o.op = .call { callee := .builtin .append, args, argTypes })
    (hargs : args = #[s, x]) (htys : argTypes = #[ty, ty2]) (hd : P.underlying ty = some (.slice el)) (hd2 : P.underlying ty2 = some d2) (hd2' : ∀ j, d2 ≠ .int j) (hn : sz P el = some n) (hb : by_ P el = some b) (hz : zeroOf P el = some zl)
    (hs' : axOf s = some s') (hx' : axOf x = some x') (e : evOp call (.append n b s' x') tm h = .ok v h') (H : HRel N w0 φ h w) (t : TRel φ tm a) : OpOK P N w0 φ h w (execOp a.eval o) v h' := by
  have e0 : oAppend tm h n b s' x' = .ok v h' := e
  unfold oAppend at e0
  obtain ⟨sv, hsv, e1⟩ := onO_eq_ok e0
  obtain ⟨xv, hxv, e2⟩ := onO_eq_ok e1
  obtain ⟨⟨k, xs⟩, hcf, e3⟩ := onO_eq_ok e2
  simp only at e3
  have rs := t.ax hs' hsv
  have rx := t.ax hx' hxv
  obtain ⟨q1, q2, q3, q4⟩ := cells_for (P := P) H rx hcf
  obtain ⟨an, g1, g2⟩ := q4 k (Nat.le_refl _)
  rw [List.take_of_length_le (by omega)] at g2
  have hanl : an.size = k * n := by rw [← Array.length_toList, ← g2.length, q2]
  obtain ⟨i, z, z1, z2, z3, z4, z5⟩ := zeroOf_run hz φ
  have hsz : i.size = n := by
    unfold sz at hn
    rw [z1] at hn
    simpa using hn
  have hzs : z.cells.size = n := by rw [← Array.length_toList, ← z3.length, z5, hsz]
  obtain ⟨i', hi', hb'⟩ := by_run hb
  rw [z1] at hi'; cases hi'
  have hexec : ∀ y w', (Builtin.append_ #[ty, ty2] o.type #[a.eval s, a.eval x]).run P w = .ok y w' → (execOp a.eval o).run P w = .ok (.value y) w' := by
    intro y w' hy
    obtain ⟨cs, hcs⟩ := run_builtin (P := P) ho a.eval w
    rw [hcs, hargs, htys, show (#[s, x] : Array Operand).map a.eval = #[a.eval s, a.eval x] by simp]
    exact run_value hy
  generalize hcs : a.eval s = cs at rs hexec
  generalize hcx : a.eval x = cx at rx q1 g1 hexec
  -- nothing is appended
  have stay0 : ∀ (A : Option Addr) (len c : Nat), cs = .slice A len c → len ≤ c → k = 0 → v = sv → h' = h → OpOK P N w0 φ h w (execOp a.eval o) v h' := by
    intro A len c hcs hle hk hv hh
    subst hk hv hh hcs
    refine OpOK.same H (hexec _ _ (append_room_run (w' := w) hd hd2 hd2' hn o.type q1 (by omega) (g1 w rfl) ?_ (fun _ => rfl))) (by rw [Nat.add_zero]; exact rs)
    intro A' _
    have : an.toList = [] := List.eq_nil_of_length_eq_zero (by rw [Array.length_toList, hanl]; omega)
    rw [this]; rfl
  -- a row of its own, a family of its own
  have grow : ∀ (A : Option Addr) (len c : Nat) (old : List AV) (ao : Array Value), cs = .slice A len c → c < len + k → (len + k) * b ≤ 1099511627776 → len + k < 4611686018427387904 →
      VRels φ old ao.toList → old.length = len * n → (∀ u ∈ old, u.one = true) → (∀ w2, w2.heap = w.heap → (Builtin.firstCells n len (.slice A len c)).run P w2 = .ok ao w2) →
      OpOK P N w0 φ h w (execOp a.eval o) (.sl h.nx 0 (len + k) UNK) (newBlk h (ofL (old ++ xs)) ((len + k) * n) n) := by
    intro A len c old ao hcs hlt hbb hsm ho1 ho2 ho3 ho4
    subst hcs
    obtain ⟨c', hc', hrun⟩ := append_grow_run (P := P) (w := w) hd hd2 hd2' z1 hsz hb' z2 o.type q1 hlt hbb hsm ho4 g1
    have hlen : (old ++ xs).length = (len + k) * n := by rw [List.length_append, ho2, q2, Nat.add_mul]
    have hsz2 : (ao ++ an ++ Builtin.zeroCells z.cells (c' - (len + k))).size = c' * n := by
      simp only [Array.size_append, zeroCells_size, hzs, hanl]
      have : ao.size = len * n := by rw [← Array.length_toList, ← ho1.length, ho2]
      rw [this, ← Nat.add_mul, ← Nat.add_mul]; congr 1; omega
    refine OpOK.news H (w1 := w.drew) (fz := (0, 0)) hlen.symm (fun u hu => ?_) (nofz _) (by rw [hlen, hsz2]; exact Nat.mul_le_mul_right _ hc') (grown_rel ho1 g2 rfl) (.inl rfl) hc' (by rw [hsz2]; exact Nat.le_refl _) ⟨rfl, rfl, rfl, rfl⟩ (hexec _ _ hrun)
    rcases List.mem_append.1 hu with hu | hu
    · exact ho3 u hu
    · exact q3 u hu
  have lenok : ∀ {r : Rv} {bb : Pth} {oo ll cc : Nat} {hh : Hp}, lenOk b r = .ok v h' → r = .ok (.sl bb oo ll cc) hh → ll * b ≤ 1099511627776 ∧ ll < 4611686018427387904 ∧ v = .sl bb oo ll cc ∧ h' = hh := by
    intro r bb oo ll cc hh he hr
    subst hr
    obtain ⟨c1, he⟩ := cnd_eq_ok he
    obtain ⟨c2, he⟩ := cnd_eq_ok he
    cases he
    exact ⟨ble_true c1, blt_true c2, rfl, rfl⟩
  unfold appendL at e3
  cases sv with
  | ns =>
    simp only at e3
    cases rs
    cases hk : Nat.beq k 0 with
    | true =>
      rw [hk] at e3; cases e3
      exact stay0 none 0 0 rfl (Nat.le_refl _) (beq_true hk) rfl rfl
    | false =>
      rw [hk, cnd_false] at e3
      have hk0 : k ≠ 0 := fun e => by rw [e] at hk; cases hk
      obtain ⟨c1, c2, hv, hh⟩ := lenok e3 rfl
      subst hv hh
      have := grow none 0 0 [] #[] rfl (by omega) (by simpa using c1) (by omega) .nil (by simp) (by simp) (fun _ _ => rfl)
      simpa using this
  | sl bb off len cap =>
    simp only at e3
    cases hk : Nat.beq k 0 with
    | true =>
      rw [hk, cnd_true] at e3
      obtain ⟨c1, c2, hv, hh⟩ := lenok e3 rfl
      cases rs with
      | sl hL hc hl hr => exact stay0 _ _ _ rfl hl (beq_true hk) hv hh
      | sl0 hL hc => exact stay0 _ _ _ rfl (Nat.le_refl _) (beq_true hk) hv hh
    | false =>
      have hk0 : k ≠ 0 := fun e => by rw [e] at hk; cases hk
      rw [hk, cnd_false] at e3
      unfold appSl at e3
      cases hB : look h bb with
      | none => rw [hB] at e3; cases e3
      | some B =>
        rw [hB, onO_some] at e3
        cases hst : Nat.beq B.stride n with
        | false => rw [hst] at e3; cases e3
        | true =>
          rw [hst, cnd_true, forceN_eq] at e3
          have hst := beq_true hst
          have hBp := (look_some hB).1
          -- the old cells, wherever they lie
          have oldCells : ∀ {old : List AV}, readBN B off (len * n) = some old → ∃ (A : Addr) (c : Nat) (ao : Array Value) (L : Loc), cs = .slice (some A) len c ∧ φ bb = some L ∧ VRels φ old ao.toList ∧ old.length = len * n ∧ (∀ u ∈ old, u.one = true) ∧
              (∀ w2, w2.heap = w.heap → (Builtin.firstCells n len (.slice (some A) len c)).run P w2 = .ok ao w2) ∧ ((cap = UNK ∨ cap = c) ∧ len ≤ c) := by
            intro old hold
            cases rs with
            | @sl _ _ _ _ c L hL hc hl hr =>
              obtain ⟨ys, r1, r2, r3, r4⟩ := H.readN hL hB hold
              refine ⟨_, c, ys.toArray, L, rfl, hL, by simpa using r2, (readBN_some hold).1, r3, fun w2 hw2 => ?_, hc, hl⟩
              exact run_loadCells_of P r1 (fun j u hu => by rw [cell_heap hw2]; exact r4 j u hu)
            | @sl0 _ _ _ A L hL hc =>
              rw [Nat.zero_mul, readBN_zero] at hold
              cases hold
              refine ⟨A, 0, #[], L, rfl, hL, .nil, by simp, by simp, fun w2 _ => ?_, hc, Nat.le_refl _⟩
              simp [Builtin.firstCells, loadCells, loadCellsFrom]
          cases hcn : Nat.blt cap (Nat.add len k) with
          | true =>
            rw [hcn, cnd_true] at e3
            have hcn : cap < len + k := blt_true hcn
            unfold growL at e3
            cases hold : readBN B off (Nat.mul len n) with
            | none => rw [hold] at e3; cases e3
            | some old =>
              rw [hold, onO_some] at e3
              obtain ⟨c1, c2, hv, hh⟩ := lenok e3 rfl
              subst hv hh
              obtain ⟨A, c, ao, L, h1, _, h2, h3, h4, h5, h6, h7⟩ := oldCells hold
              have c2 : len + k < 4611686018427387904 := c2
              have hlt : c < len + k := by
                rcases h6 with e | e
                · rw [e] at hcn; unfold UNK at hcn; omega
                · omega
              exact grow (some A) len c old ao h1 hlt c1 c2 h2 h3 h4 h5
          | false =>
            rw [hcn, cnd_false] at e3
            unfold stayL at e3
            rw [forceN_eq] at e3
            cases hle : Nat.ble (Nat.add off (Nat.mul len n)) B.size with
            | false => rw [hle] at e3; cases e3
            | true =>
              rw [hle, cnd_true] at e3
              have hle : off + len * n ≤ B.size := ble_true hle
              cases hm : memCells B n off len (Nat.add off (Nat.mul len n)) xs with
              | none => rw [hm] at e3; cases e3
              | some cells =>
                rw [hm, onO_some] at e3
                cases hr : rootOf h bb B with
                | none => rw [hr] at e3; cases e3
                | some x2 =>
                  rw [hr, onO_some] at e3
                  obtain ⟨r1, r2⟩ := rootOf_some hBp hr
                  cases htip : Nat.beq x2.2.tipv B.ver with
                  | false => rw [htip] at e3; cases e3
                  | true =>
                    rw [htip, cnd_true] at e3
                    have htip := beq_true htip
                    cases hmem : member h n (Nat.add len k) cap x2.1 x2.2 cells (Nat.beq (Nat.add off (Nat.mul len n)) B.size) with
                    | no => rw [hmem] at e3; cases e3
                    | ok v1 h1 =>
                      rw [hmem] at e3
                      obtain ⟨m1, m2⟩ := member_ok hmem
                      subst m1
                      obtain ⟨c1, c2, hv, hh⟩ := lenok e3 rfl
                      subst hv hh
                      rw [r1] at m2
                      have c1 : (len + k) * b ≤ 1099511627776 := c1
                      have c2 : len + k < 4611686018427387904 := c2
                      obtain ⟨s1, s2⟩ := memCells_spec hm rfl
                      have hmul : (len + k) * n = len * n + k * n := Nat.add_mul _ _ _
                      -- the row grows
                      have grown : ∀ (A : Addr) (c : Nat) (L : Loc), cs = .slice (some A) len c → φ bb = some L → c < len + k → (cap = UNK ∨ cap = c) →
                          (∃ ys : List Value, ys.length = len * n ∧ (∀ i, i < len * n → ∃ x y, B.cells.get (off + i) = some x ∧ ys[i]? = some y ∧ VRel φ x y ∧ x.one = true) ∧
                            ∀ w2, w2.heap = w.heap → (Builtin.firstCells n len (.slice (some A) len c)).run P w2 = .ok ys.toArray w2) →
                          OpOK P N w0 φ h w (execOp a.eval o) (.sl h.nx 0 (Nat.add len k) cap) h' := by
                        intro A c L hcs' hL hlt hcap ⟨ys, y1, y2, y3⟩
                        subst hcs'
                        have hcap : cap = UNK := hcap.resolve_right (fun e => by
                          have : ¬ cap < len + k := fun h => by have := blt_iff.2 h; rw [show Nat.blt cap (len + k) = false from hcn] at this; cases this
                          omega)
                        obtain ⟨c', hc', hrun⟩ := append_grow_run (P := P) (w := w) hd hd2 hd2' z1 hsz hb' z2 o.type q1 hlt c1 c2 y3 g1
                        have hsz2 : (ys.toArray ++ an ++ Builtin.zeroCells z.cells (c' - (len + k))).size = c' * n := by
                          simp only [Array.size_append, zeroCells_size, hzs, hanl, List.size_toArray, y1]
                          rw [← Nat.add_mul, ← Nat.add_mul]; congr 1; omega
                        have hcell : ∀ j, j < (len + k) * n → ∃ x y, cells.get j = some x ∧ (ys.toArray ++ an ++ Builtin.zeroCells z.cells (c' - (len + k)))[j]? = some y ∧ VRel φ x y ∧ x.one = true := by
                          intro j hj
                          by_cases hin : j < len * n
                          · obtain ⟨x, y, t1, t2, t3, t4⟩ := y2 j hin
                            refine ⟨x, y, by rw [s1 j hin]; exact t1, ?_, t3, t4⟩
                            rw [Array.append_assoc, Array.getElem?_append_left (by simpa [y1] using hin)]
                            simpa using t2
                          · have hj2 : j - len * n < xs.length := by omega
                            have hgx : xs[j - len * n]? = some xs[j - len * n] := List.getElem?_eq_getElem hj2
                            obtain ⟨y, hy, hvr⟩ := g2.get hgx
                            refine ⟨_, y, ?_, ?_, hvr, q3 _ (List.getElem_mem hj2)⟩
                            · have h2 := s2 _ hj2
                              rw [show len * n + (j - len * n) = j by omega] at h2
                              rw [h2]; exact hgx
                            · rw [Array.append_assoc, Array.getElem?_append_right (by simp [y1]; omega)]
                              simp only [List.size_toArray, y1]
                              rw [Array.getElem?_append_left (by rw [hanl]; omega)]
                              simpa using hy
                        obtain ⟨HH, KK⟩ := H.memberNew (w1 := w.drew) hL hBp r2 htip m2 (ys.toArray ++ an ++ Builtin.zeroCells z.cells (c' - (len + k))) el (by rw [hsz2]; exact Nat.mul_le_mul_right _ hc') hcell rfl ((Below.refl _ _).drew)
                        refine ⟨_, _, _, hexec _ _ hrun, .inl ⟨_, rfl, ?_⟩, Phi.set_ext (phi_fresh H) _, HH, KK⟩
                        have := VRel.sl (φ := φ.set h.nx ⟨w.heap.size, 0, (ys.toArray ++ an ++ Builtin.zeroCells z.cells (c' - (len + k))).size, n⟩) (b := h.nx) (o := 0) (len := len + k) (cap := cap) (c := c') (Phi.set_same φ h.nx _) (.inl hcap) hc' (by rw [hsz2]; simp)
                        exact this
                      cases rs with
                      | @sl0 _ _ _ A L hL hc =>
                        refine grown A 0 L rfl hL (by omega) hc ⟨[], by simp, fun i hi => by omega, fun w2 _ => ?_⟩
                        simp [Builtin.firstCells, loadCells, loadCellsFrom]
                      | @sl _ _ _ _ c L hL hc hl hroom =>
                        have hLst := (stride_of H hL hBp).1
                        rw [hst] at hLst
                        obtain ⟨B1, hB1, hrel⟩ := H.dom bb L hL
                        rw [hBp] at hB1; cases hB1
                        by_cases hfit : len + k ≤ c
                        · obtain ⟨w', t1, t2, t3⟩ := H.memberStay (P := P) (ys := an.toList) hL hBp hB r2 htip m2 hst hle q2 g2 q3 (by
                            have : (len + k) * n ≤ c * n := Nat.mul_le_mul_right _ hfit
                            rw [hLst] at hroom; omega) s1 s2
                          refine ⟨_, _, _, hexec _ _ (append_room_run hd hd2 hd2' hn o.type q1 hfit (g1 w rfl) (w' := w') ?_ (fun e => by cases e)), .inl ⟨_, rfl, ?_⟩, Phi.set_ext (phi_fresh H) _, t2, t3⟩
                          · intro A hA
                            cases hA
                            rw [add_addr]; exact t1
                          · have := VRel.sl (φ := φ.set h.nx ⟨L.blk, L.base + off, L.lim, n⟩) (b := h.nx) (o := 0) (len := len + k) (cap := cap) (c := c) (Phi.set_same φ h.nx _) hc hfit (by simp only; rw [hLst] at hroom; omega)
                            exact this
                        · obtain ⟨arr, elem, lo, hi, hrow, harr, hcs2⟩ := hrel.row
                          have hread : ∀ i, i < len * n → ∃ x y, B.cells.get (off + i) = some x ∧ w.cell? ⟨L.blk, L.base + off + i, none⟩ = some y ∧ VRel φ x y ∧ x.one = true := by
                            intro i hi'
                            obtain ⟨x, y, u1, u2, u3, u4⟩ := hcs2 (off + i) (by omega) hB
                            refine ⟨x, y, u1, ?_, u3, u4⟩
                            simp only [World.cell?, hrow]
                            rw [← u2]
                            simp [Nat.add_assoc]
                          refine grown _ c L rfl hL (by omega) hc ⟨(List.range (len * n)).map fun i => (w.cell? ⟨L.blk, L.base + off + i, none⟩).getD undef, by simp, fun i hi' => ?_, fun w2 hw2 => ?_⟩
                          · obtain ⟨x, y, u1, u2, u3, u4⟩ := hread i hi'
                            refine ⟨x, y, u1, ?_, u3, u4⟩
                            simp [hi', u2]
                          · refine run_loadCells_of P (by simp) (fun j u hu => ?_)
                            have hj : j < len * n := by
                              rcases Nat.lt_or_ge j (len * n) with h | h
                              · exact h
                              · rw [List.getElem?_eq_none (by simpa using h)] at hu; cases hu
                            obtain ⟨x, y, u1, u2, u3, u4⟩ := hread j hj
                            rw [cell_heap hw2]
                            simp [hj, u2] at hu
                            rw [u2, hu]
  | _ => cases e3
end
end Go.Abs
