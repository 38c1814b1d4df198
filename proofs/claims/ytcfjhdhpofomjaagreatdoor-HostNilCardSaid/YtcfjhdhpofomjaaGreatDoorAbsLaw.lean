/- A law's row, out of its walk: 'true', and below the heap's old size nothing has turned. -/
import Derived.Handed
import Derived.Carry
import Derived.OpenShut
import Derived.ChangeOld
import Derived.SizedLaws
import Derived.ChangeVars
import Derived.ProofKit
import Derived.JoinedOf
set_option linter.unusedSectionVars false
set_option linter.unusedSimpArgs false
set_option linter.unusedVariables false
set_option linter.constructorNameAsVariable false
namespace Go.Abs
open Go.ChangeShapes Go.WideShapes Go.RowKit

theorem trodArgs_below {H : Type} {enc : TypeId × Value → H} {P : Program} (hl : laidOutB P = true) {W W' : World} (hb : Below W.heap.size W W') :
    ∀ {ts : List TypeId} {vs : List Value} {ds : List (DataW H)} {ps : List MemPlace}, (∀ t ∈ ts, P.readableRec t = true ∧ t < P.types.size) → DataW.TrodAll enc P W 0 (fun _ => true) true ts vs ds ps →
      DataW.TrodAll enc P W' 0 (fun b => decide (b < W.heap.size)) true ts vs ds ps
  | [], [], [], _, _, h => h
  | t :: ts, v :: vs, d :: ds, ps, ht, h => by
    obtain ⟨p, q, h1, h2, e⟩ := h
    have h1' := h1
    obtain ⟨n, hn⟩ := h1'
    exact ⟨p, q, Below.trod hl (ht t (by simp)).1 (ht t (by simp)).2 h1 hb (DataW.trod_lt n t _ _ hn), trodArgs_below hl hb (fun u hu => ht u (by simp [hu])) h2, e⟩
  | [], [], _ :: _, _, _, h | [], _ :: _, _, _, _, h | _ :: _, [], _, _, _, h | _ :: _, _ :: _, [], _, _, h => h.elim

theorem trodAll_length {H : Type} {enc : TypeId × Value → H} {P : Program} {W : World} {base : Nat} {spare : Nat → Bool} {held : Bool} :
    ∀ {ts : List TypeId} {vs : List Value} {ds : List (DataW H)} {ps : List MemPlace}, DataW.TrodAll enc P W base spare held ts vs ds ps → vs.length = ts.length ∧ ds.length = ts.length
  | [], [], [], _, _ => ⟨rfl, rfl⟩
  | _ :: _, _ :: _, _ :: _, _, h => by
    obtain ⟨p, q, _, h2, _⟩ := h
    have := trodAll_length h2
    simp [this.1, this.2]
  | [], [], _ :: _, _, h | [], _ :: _, _, _, h | _ :: _, [], _, _, h | _ :: _, _ :: _, [], _, h => h.elim

/-- What the law's walk owes. -/
def LawWalk (C : Checked) (f : FuncId) (fn : Func) (X : World → Array Value → Prop) : Prop :=
  ∀ (H : Type) (enc : TypeId × Value → H) (W : World) (base : Nat) (args : Array Value) (ds : List (DataW H)) (p : List MemPlace),
    (∀ (j : Nat) t v, fn.params[j]? = some t → args[j]? = some v → Value.okWide C.prog W .any base t v) → DataW.TrodAll enc C.prog W 0 (fun _ => true) true fn.params.toList args.toList ds p →
    W.noneFrozen p → (DataW.weightsEach C.prog fn.params.toList ds).all (· ≤ reachBytes) = true → X W args →
    Calls C.prog f args W fun e W' => e = .returned (.bool true) ∧ Below W.heap.size W W'

theorem law_post {H : Type} {enc : TypeId × Value → H} {C : Checked} {fn : Func} {s : ChangeSpec} {apart : Bool} (hl : laidOutB C.prog = true) (hv : s.vars = [])
    (hs : ∀ ds : List (DataW H), ds.length = fn.params.size → s.fn H ds = { results := [.lit (.bool true)], args := ds }) {rt : TypeId} (hr : fn.resultTypes = #[rt]) (hb : C.prog.underlying rt = some .bool)
    (ht : ∀ t ∈ fn.params.toList, C.prog.readableRec t = true ∧ t < C.prog.types.size) {W W' : World} {args : Array Value} {ds gs : List (DataW H)} {before : List MemPlace}
    (hW : DataW.Whole enc C.prog fn.params.toList s.vars apart W args.toList ds gs before) (hbel : Below W.heap.size W W') : s.post enc C.prog fn apart true false false W args (.bool true) W' := by
  have hW' := hW
  obtain ⟨p, q, hA, hV, hpq, hfz, hnd⟩ := hW
  rw [hv] at hV
  obtain ⟨hg, hq⟩ := trodVars_none hV
  subst hg hq
  have hlen := (trodAll_length hA).2
  have e1 := hs (ds ++ []) (by rw [List.append_nil, hlen]; simp)
  refine ⟨ds, [], before, [], p, [], hW', ?_, ?_, ?_, hbel.frame _, fun h => by cases h⟩
  · rw [e1, hr]; exact trodAll_mk1 (shut_bool hb true)
  · rw [e1]
    simp only [List.append_nil]
    exact trodArgs_below hl hbel ht hA
  · rw [hv, e1]; rfl
end Go.Abs
