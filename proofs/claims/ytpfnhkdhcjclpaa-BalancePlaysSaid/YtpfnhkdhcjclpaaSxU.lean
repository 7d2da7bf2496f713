/- From the kit's contracts to triples: worlds that have grown, maps that read as data, keys in their order. Conditions: none. -/
import Derived.Test.YtpfnhkdhcjclpaaSxT
import Derived.Maps.RangeWalk
import Derived.Maps.Range
namespace Go.Sx
open Go Go.RowKit Go.WheelM Go.WideElems
section
variable {w0 w w' : World} {H F : List HProp}
theorem Rel.newBlk {g : Nat} {o : Obj} (h : Rel w0 H w) (hb : Below w.heap.size w w') (hg : w.heap.size ≤ g) (ho : w'.heap[g]? = some o) : Rel w0 (blk g o :: H) w' := by
  obtain ⟨x, s, gg⟩ := h.heap
  have hx : x g = none := by
    cases e : x g with
    | none => rfl
    | some o' =>
      have := (Array.getElem?_eq_some_iff.1 (gg g o' e).2).1
      omega
  refine ⟨(h.later hb).below, fun k => if k = g then some o else x k, ⟨fun k => if k = g then some o else none, x, ?_, ?_, ?_, by simp [blk], s⟩, fun b o' hbo => ?_⟩
  · intro k
    by_cases e : k = g
    · right; rw [e]; exact hx
    · left; simp [e]
  · intro k o' hk
    by_cases e : k = g
    · simpa [e] using hk
    · simp [e] at hk
  · intro k o' hk
    have : k ≠ g := fun e => by rw [e, hx] at hk; cases hk
    simp [this, hk]
  · by_cases e : b = g
    · subst e; simp at hbo; subst hbo
      exact ⟨Nat.le_trans h.below.size hg, ho⟩
    · simp [e] at hbo
      obtain ⟨g1, g2⟩ := gg b o' hbo
      have hlt : b < w.heap.size := (Array.getElem?_eq_some_iff.1 g2).1
      exact ⟨g1, (hb.block b hlt).trans g2⟩
/-- A slice that a contract of the kit's hands out. -/
theorem Rel.ownsRow {t : TypeId} {s n : Nat} {v : Value} {l : List Value} (h : Rel w0 H w) (hb : Below w.heap.size w w') (ho : w'.ownsRow w.heap.size t s v n l) : ∃ a cap, v = .slice a n cap ∧ Rel w0 (Row a cap t s n l :: H) w' := by
  obtain ⟨hl, ⟨rfl, rfl⟩ | ⟨g, cap, cur, rfl, hg, hc, h1, h2, h3, rfl⟩⟩ := ho
  · have : l = [] := List.length_eq_zero_iff.1 (by omega)
    subst this
    exact ⟨none, 0, rfl, (h.later hb).ent (Row.nil _ _ _)⟩
  · refine ⟨_, cap, rfl, Rel.ent ?_ Row.of_at⟩
    have hr := h.newBlk hb hg hc
    refine Rel.rowAt_mk (tail := cur.toList.drop (n * s)) ?_ ?_ hl h1 h2
    · rw [List.take_append_drop]; exact hr
    · rw [List.take_append_drop]; simpa using h3
end
section
variable {w0 w : World} {F : List HProp} {β : Type} {ve : β → Value} {m : Nat} {es : List (Int × β)} {P : Program} {kt : TypeId}
abbrev noVal : Value → Option (DataW Unit × List MemPlace) := fun _ => some (.nil, [])
/-- A map whose keys are numbers reads as data. -/
theorem Rel.ownsMap (h : Rel w0 (tmap m (fun z : Int => Value.int .i64 z) ve es :: F) w) (hk : P.underlying kt = some (.int .i64)) (hwf : ∀ p ∈ es, (Lit.int .i64 p.1).wf = true) (hn : es.length ≤ maxLen) :
    ∃ D : List (Lit × DataW Unit), w.ownsMap P kt noVal m es.length (.map D) ∧ D.length = es.length ∧ (D.map fun p => (match p.1 with | .int _ a => a | _ => (0 : Int))).Perm (es.map (·.1)) := by
  obtain ⟨arr, clock, hb, he, _, hst⟩ := Rel.map_get h
  have hsz : arr.size = es.length := by have := congrArg List.length he; simpa [menc] using this
  have hkey : ∀ x ∈ arr.toList, ∃ z : Int, x.key = .int .i64 z ∧ (Lit.int .i64 z).wf = true := fun x hx => by
    have hx' : (x.key, x.val) ∈ (menc ve es).map (fun p => (Value.int .i64 p.1, p.2)) := by rw [← he]; exact List.mem_map.2 ⟨x, hx, rfl⟩
    obtain ⟨p, hp, h1⟩ := List.mem_map.1 hx'
    obtain ⟨q, hq, rfl⟩ := List.mem_map.1 hp
    simp only [Prod.mk.injEq] at h1
    exact ⟨q.1, h1.1.symm, hwf q hq⟩
  have hrd : ∀ x ∈ arr.toList, ∀ z : Int, x.key = .int .i64 z → (Lit.int .i64 z).wf = true → rd P kt noVal x = some (.int .i64 z, .nil) := fun x _ z hz hw => by
    simp [rd, hz, Maps.keyOf_int_mk hk hw, noVal]
  refine ⟨(arr.toList.map (rg P kt noVal)).foldr DataW.insert [], ⟨arr, clock, hb, ⟨by rw [hsz]; exact hn, hst, fun x hx => ?_⟩, by omega, rfl⟩, ?_, ?_⟩
  · obtain ⟨z, hz, hw⟩ := hkey x hx
    exact ⟨_, hrd x hx z hz hw⟩
  · rw [length_sorted]; simpa using hsz
  · refine ((WideShapes.sorted_perm _).map _).trans ?_
    rw [List.map_map]
    have e1 : (es.map (·.1)) = ((menc ve es).map fun p => (Value.int .i64 p.1, p.2)).map (fun p => match p.1 with | .int _ a => a | _ => (0 : Int)) := by simp [menc, Function.comp_def]
    rw [e1, ← he, List.map_map]
    refine List.Perm.of_eq (List.map_congr_left fun x hx => ?_)
    obtain ⟨z, hz, hw⟩ := hkey x hx
    simp [rg, hrd x hx z hz hw, hz]
end
end Go.Sx
