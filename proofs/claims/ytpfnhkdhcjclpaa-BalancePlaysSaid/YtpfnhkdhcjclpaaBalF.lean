/- The balancer's laws: what Pick comes to at each policy; the anchor. Conditions: numbers are of their kinds. -/
import Derived.Test.YtpfnhkdhcjclpaaBalE
namespace Go.Proofs.Ytpfnhkdhcjclpaa
open Go Go.Sx Go.DiceM Go.BalM
variable {w0 : World} {F H : List HProp} {K : Value → List HProp → Prop}
abbrev noStr : ByteArray := ⟨#[]⟩
/-- RoundRobin. -/
theorem pickRR {b : Nat} {B : BS} {op : List Bool} {v1 : Value} (hp : B.policy = 1) (hn : B.hs.length ≤ 1000) (hd : 0 ≤ B.d ∧ B.d < 9223372036854775807) (ho : op.length ≤ 9223372036854775807) (h0 : opens B.hs.length op = [] → K (kI (-1)) (bal b B :: view w0 v1 1 op.length (flat benc op) :: F))
    (h5 : opens B.hs.length op ≠ [] → K (kI (nextOf (opens B.hs.length op) B.last)) (bal b { B with last := nextOf (opens B.hs.length op) B.last } :: view w0 v1 1 op.length (flat benc op) :: F)) : Tri Try.prog 26 #[ptr b, v1, .slice none 0 0, .string noStr] w0 (bal b B :: view w0 v1 1 op.length (flat benc op) :: F) K := by
  refine Tri.ent (Ent.trans (Ent.nilView (w0 := w0) 1 none 0) Ent.back2) (Tri.post (pick_spec (ls := []) (key := noStr) (F := F) hn hd (by decide) ho (by decide) ?_ ?_ ?_ ?_ ?_))
  · exact fun h => ⟨_, Ent.cons _ (Ent.cons _ (Ent.drop _ _)), h0 h⟩
  · intro h; rw [hp] at h; cases h
  · intro h; rw [hp] at h; cases h
  · intro h; rw [hp] at h; cases h
  · exact fun _ _ _ hpos => ⟨_, Ent.cons _ (Ent.cons _ (Ent.drop _ _)), h5 (List.length_pos_iff.1 hpos)⟩
/-- LeastBusy. -/
theorem pickLB {b : Nat} {B : BS} {op : List Bool} {ls : List Int} {v1 v2 : Value} {key : ByteArray} (hp : B.policy = 2) (hn : B.hs.length ≤ 1000) (hd : 0 ≤ B.d ∧ B.d < 9223372036854775807) (hk : key.size ≤ 9223372036854775807) (ho : op.length ≤ 9223372036854775807) (hls : ls.length ≤ 9223372036854775807) (h0 : opens B.hs.length op = [] → K (kI (-1)) (bal b B :: view w0 v1 1 op.length (flat benc op) :: view w0 v2 1 ls.length (flat ienc ls) :: F))
    (h2 : ∀ i, IsLeast (opens B.hs.length op) (loadOf ls) i → K (kI i) (bal b B :: view w0 v1 1 op.length (flat benc op) :: view w0 v2 1 ls.length (flat ienc ls) :: F)) : Tri Try.prog 26 #[ptr b, v1, v2, .string key] w0 (bal b B :: view w0 v1 1 op.length (flat benc op) :: view w0 v2 1 ls.length (flat ienc ls) :: F) K :=
  pick_spec hn hd hk ho hls h0 (fun _ => h2) (fun h => by rw [hp] at h; cases h) (fun h => by rw [hp] at h; cases h) (fun h => absurd hp h)
/-- A ring. -/
theorem pickRing {b : Nat} {B : BS} {op : List Bool} {v1 : Value} {key : ByteArray} (hp : B.policy = 4) (hn : B.hs.length ≤ 1000) (hd : 0 ≤ B.d ∧ B.d < 9223372036854775807) (hk : key.size ≤ 9223372036854775807) (ho : op.length ≤ 9223372036854775807) (h0 : opens B.hs.length op = [] → K (kI (-1)) (bal b B :: view w0 v1 1 op.length (flat benc op) :: F))
    (h4 : ∀ i, Best B.hs (· ∈ opens B.hs.length op) (mixI (hashOf key)) i → K (kI i) (bal b B :: view w0 v1 1 op.length (flat benc op) :: F)) : Tri Try.prog 26 #[ptr b, v1, .slice none 0 0, .string key] w0 (bal b B :: view w0 v1 1 op.length (flat benc op) :: F) K := by
  refine Tri.ent (Ent.trans (Ent.nilView (w0 := w0) 1 none 0) Ent.back2) (Tri.post (pick_spec (ls := []) (F := F) hn hd hk ho (by decide) ?_ ?_ ?_ ?_ ?_))
  · exact fun h => ⟨_, Ent.cons _ (Ent.cons _ (Ent.drop _ _)), h0 h⟩
  · intro h; rw [hp] at h; cases h
  · intro h; rw [hp] at h; cases h
  · exact fun _ i hi => ⟨_, Ent.cons _ (Ent.cons _ (Ent.drop _ _)), h4 i hi⟩
  · exact fun _ _ h => absurd hp h
def abc : List ByteArray := [⟨#[97]⟩, ⟨#[98]⟩, ⟨#[99]⟩]
theorem abcNew {pol : Int} {g : Nat} (h : ∀ b, K (ptr b) (bal b ⟨pol, abc, 2, 0, 0⟩ :: F)) : Tri Try.prog 24 #[kI pol, .slice (some ⟨g, 0, none⟩) 3 3, kI 0] w0 (cel g 9 (flat senc abc) :: F) K :=
  Tri.ent (Ent.celView (w0 := w0) (n := 3) (es := 1) rfl (by simp [maxLen])) (Tri.post (bnew_spec (hs := abc) (F := F) (by decide) (fun s hs => by
    simp only [abc, List.mem_cons, List.not_mem_nil, or_false] at hs
    rcases hs with rfl | rfl | rfl <;> decide) (fun b => ⟨_, Ent.cons _ (Ent.drop _ _), h b⟩)))
theorem rrAt {b : Nat} {v : Value} {last : Int} (op : List Bool) (i : Nat) (ho : op.length = 3) (hi : opens 3 op ≠ [] ∧ nextOf (opens 3 op) last = i) (h : K (kI i) (bal b ⟨1, abc, i, 0, 0⟩ :: view w0 v 1 3 (flat benc op) :: F)) : Tri Try.prog 26 #[ptr b, v, .slice none 0 0, .string noStr] w0 (bal b ⟨1, abc, last, 0, 0⟩ :: view w0 v 1 3 (flat benc op) :: F) K := by
  rw [← ho] at h ⊢
  refine pickRR rfl (by show abc.length ≤ 1000; decide) ⟨Int.le_refl _, by show (0 : Int) < _; decide⟩ (by omega) (fun h0 => absurd h0 hi.1) (fun _ => ?_)
  simp only [show abc.length = 3 from rfl, hi.2]
  exact h
theorem lbAt {b : Nat} {v v2 : Value} {last : Int} (h : K (kI 1) (bal b ⟨2, abc, last, 0, 0⟩ :: view w0 v 1 3 (flat benc [true, true, true]) :: view w0 v2 1 3 (flat ienc [2, 1, 1]) :: F)) : Tri Try.prog 26 #[ptr b, v, v2, .string noStr] w0 (bal b ⟨2, abc, last, 0, 0⟩ :: view w0 v 1 3 (flat benc [true, true, true]) :: view w0 v2 1 3 (flat ienc [2, 1, 1]) :: F) K := by
  refine pickLB (op := [true, true, true]) (ls := [2, 1, 1]) rfl (by show abc.length ≤ 1000; decide) ⟨Int.le_refl _, by show (0 : Int) < _; decide⟩ (by decide) (by decide) (by decide) (fun h0 => absurd h0 (by show opens 3 [true, true, true] ≠ []; decide)) (fun i hi => ?_)
  have : IsLeast (opens 3 [true, true, true]) (loadOf [2, 1, 1]) 1 := by
    rw [show opens 3 [true, true, true] = [0, 1, 2] by decide]
    simp [IsLeast, loadOf]
  have e := IsLeast.unique hi this
  subst e
  exact h
set_option maxHeartbeats 1000000 in
theorem banchor_spec (h : K (.bool true) F) : Tri Try.prog 23 #[] w0 F K := by
  refine Tri.enterF Try.func23 Try.ntmps23 Try.results23 rfl rfl fun fr hfr => ?_
  repeat' (first | refine walk ?_ | exact trivial | refine Tw.mk ?_ ?_ | refine Tri.sel1 (c := cel _ 9 (flat senc abc)) (abcNew fun b => ?_) | refine Tri.sel2 (rrAt (last := 2) [true, true, true] 0 rfl (by decide) ?_) | refine Tri.sel2 (rrAt (last := 0) [true, false, true] 2 rfl (by decide) ?_) | refine Tri.sel3 (lbAt ?_) | (refine Tri.sel1 (c := cel b 4 (flat benc [true, true, true])) ?_; refine Tri.ent (Ent.celView (w0 := w0) (n := 3) (es := 1) rfl (by simp [maxLen])) ?_) | (refine Tri.sel1 (c := cel b 4 (flat benc [true, false, true])) ?_; refine Tri.ent (Ent.celView (w0 := w0) (n := 3) (es := 1) rfl (by simp [maxLen])) ?_) | (refine Tri.sel1 (c := cel b 3 (flat ienc [2, 1, 1])) ?_; refine Tri.ent (Ent.celView (w0 := w0) (n := 3) (es := 1) rfl (by simp [maxLen])) ?_) | intro (b : Nat) | intro hc | fail)
  exact Out.s0 h
end Go.Proofs.Ytpfnhkdhcjclpaa
