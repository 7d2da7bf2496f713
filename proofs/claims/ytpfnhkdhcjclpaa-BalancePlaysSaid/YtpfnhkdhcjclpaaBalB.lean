/- The order of the points, as the program compares them: no memory is touched. Conditions: none. -/
import Derived.Test.YtpfnhkdhcjclpaaBalA
import Derived.WalkKit
import Derived.Lib.Walk
import Derived.Deep.RegionWith
import Derived.Test.YtpfnhkdhcjclpaaSxQ
import Derived.Shelf.SlSortCmp.NoneTotal
namespace Go.Proofs.Ytpfnhkdhcjclpaa
open Go Go.Proofs Go.RowKit Go.Sx Go.BalM Go.Sort
theorem nanU (x : Int) (w : World) : Calls Try.prog 69 #[.int .u64 x] w fun e w' => e = .returned (.bool false) ∧ w' = w := by
  go_enter Try.func69, Try.ntmps69
  go_wp2
  go_ret
  exact ⟨by simp, rfl⟩
theorem nanI (x : Int) (w : World) : Calls Try.prog 70 #[.int .i64 x] w fun e w' => e = .returned (.bool false) ∧ w' = w := by
  go_enter Try.func70, Try.ntmps70
  go_wp2
  go_ret
  exact ⟨by simp, rfl⟩
set_option maxHeartbeats 1000000 in
theorem cmpU (x y : Int) (w : World) : Calls Try.prog 41 #[.int .u64 x, .int .u64 y] w fun e w' => e = .returned (.int .i64 (cI x y)) ∧ w' = w := by
  go_enter Try.func41, Try.ntmps41
  go_wp2_with (go_at_call 69; refine (nanU _ _).mono ?_; rintro e w' ⟨rfl, hw⟩; rw [hw])
  all_goals (go_ret; refine ⟨?_, rfl⟩; unfold cI; (repeat' split) <;> first | rfl | (exfalso; omega))
set_option maxHeartbeats 1000000 in
theorem cmpI (x y : Int) (w : World) : Calls Try.prog 42 #[.int .i64 x, .int .i64 y] w fun e w' => e = .returned (.int .i64 (cI x y)) ∧ w' = w := by
  go_enter Try.func42, Try.ntmps42
  go_wp2_with (go_at_call 70; refine (nanI _ _).mono ?_; rintro e w' ⟨rfl, hw⟩; rw [hw])
  all_goals (go_ret; refine ⟨?_, rfl⟩; unfold cI; (repeat' split) <;> first | rfl | (exfalso; omega))
set_option maxHeartbeats 2000000 in
theorem orI {g : Nat} {x y : Int} {w : World} (h0 : w.cell? ⟨g, 0, none⟩ = some (.int .i64 x)) (h1 : w.cell? ⟨g, 1, none⟩ = some (.int .i64 y)) : Calls Try.prog 40 #[.slice (some ⟨g, 0, none⟩) 2 2] w fun e w' => e = .returned (.int .i64 (orV x y)) ∧ w' = w := by
  unfold orV
  go_enter Try.func40, Try.ntmps40
  go_wp2
  go_loop [8] (fun i => ∃ k : Nat, k ≤ 2 ∧ i = .int .i64 k ∧ (1 ≤ k → x = 0) ∧ (2 ≤ k → y = 0)) (fun i => 2 - (intOf i).toNat)
  case atStart => exact ⟨0, by omega, rfl, by omega, by omega⟩
  case round =>
    obtain ⟨k, hk, rfl, hx, hy⟩ := hrel
    rcases (show k = 0 ∨ k = 1 ∨ k = 2 by omega) with rfl | rfl | rfl
    · by_cases hx0 : x = 0
      · subst hx0
        go_wp2
        exact ⟨⟨1, by omega, rfl, by simp, by omega⟩, by simp [intOf]⟩
      · go_wp2
        all_goals first | (exfalso; omega) | skip
        go_ret
        exact ⟨rfl, rfl⟩
    · obtain rfl : x = 0 := hx (by omega)
      by_cases hy0 : y = 0
      · subst hy0
        go_wp2
        exact ⟨⟨2, by omega, rfl, by simp, by simp⟩, by simp [intOf]⟩
      · go_wp2
        all_goals first | (exfalso; omega) | skip
        go_ret
        exact ⟨rfl, rfl⟩
    · obtain rfl : x = 0 := hx (by omega)
      obtain rfl : y = 0 := hy (by omega)
      go_wp2
      go_ret
      exact ⟨rfl, rfl⟩
theorem new_cell (w : World) (C : Array Value) (T : TypeId) (k : Nat) {v : Value} (hv : C[k]? = some v) : (w.alloc (.cells C T)).cell? ⟨w.heap.size, k, none⟩ = some v := by
  have e : (w.alloc (.cells C T)).heap[w.heap.size]? = some (.cells C T) := by
    show (w.heap.push (.cells C T))[w.heap.size]? = _
    exact Array.getElem?_push_size
  simp only [World.cell?, e]
  exact hv
theorem holds2 {p q : Fact} {w : World} (h1 : clo p w) (h2 : clo q w) : holds w [p, q] := fun x hx => by
  simp only [List.mem_cons, List.not_mem_nil, or_false] at hx
  rcases hx with rfl | rfl
  · exact h1
  · exact h2
theorem clo_cell {W : World} {b k : Nat} {cs : Array Value} {T : TypeId} {fz : Nat × Nat} {v : Value} (h : W.heap[b]? = some (.cells cs T fz)) (hv : cs[k]? = some v) : clo (heldC ⟨b, k, none⟩ v) W := fun w' hb => by
  have hlt : b < W.heap.size := (Array.getElem?_eq_some_iff.1 h).1
  have e := (hb.block b hlt).trans h
  simp only [heldC, World.cell?, e]
  exact hv
theorem two_0 (w : World) (A B : Array Value) (T1 T2 : TypeId) (d : Nat) : ({ (w.alloc (.cells A T1)).alloc (.cells B T2) with drawn := d } : World).heap[w.heap.size]? = some (.cells A T1) := by
  show ((w.heap.push (.cells A T1)).push (.cells B T2))[w.heap.size]? = _
  rw [Array.getElem?_push, if_neg (by simp)]
  exact Array.getElem?_push_size
theorem two_1 (w : World) (A B : Array Value) (T1 T2 : TypeId) (d : Nat) : ({ (w.alloc (.cells A T1)).alloc (.cells B T2) with drawn := d } : World).heap[w.heap.size + 1]? = some (.cells B T2) := by
  show ((w.heap.push (.cells A T1)).push (.cells B T2))[w.heap.size + 1]? = _
  have : w.heap.size + 1 = (w.heap.push (.cells A T1)).size := by simp
  rw [this]
  exact Array.getElem?_push_size
theorem res1 {fn : Func} {t : Nat} {v : Value} {e : Env} {n : Nat} {w : World} (hres : fn.results = #[.tmp t]) (hv : e.ev n (.tmp t) = v) : (results fn (e.act n).tmps).run Try.prog w = .ok v w := by
  simp only [results, hres, ← hv, ← getD_act]; simp
set_option maxHeartbeats 2000000 in
theorem ptCmp (p q : Pt) (w : World) : Calls Try.prog 39 #[.agg (penc p).toArray, .agg (penc q).toArray] w fun e w' => e = .returned (.int .i64 (cf p q)) ∧ ∃ n os', w' = grow (w.drewN n) os' := by
  obtain ⟨a, i⟩ := p
  obtain ⟨b, j⟩ := q
  simp only [penc]
  go_enter Try.func39, Try.ntmps39
  go_wp2
  refine wp_region_text (T := TT) (HL := [(1, [9], heldC ⟨w.heap.size, 0, none⟩ (kU a)), (3, [9], heldC ⟨w.heap.size + 1, 0, none⟩ (kU b)), (6, [4], heldC ⟨w.heap.size, 1, none⟩ (kI i)), (8, [4], heldC ⟨w.heap.size + 1, 1, none⟩ (kI j))]) follows_ok (by rw [show skel _ = [(1, [9]), (3, [9]), (6, [4]), (8, [4])] from rfl]; decide +kernel) ?_
  have c1 := fun d => clo_cell (two_0 w #[kU a, kI i] #[kU b, kI j] 89 89 d) (k := 0) rfl
  have c2 := fun d => clo_cell (two_1 w #[kU a, kI i] #[kU b, kI j] 89 89 d) (k := 0) rfl
  have c3 := fun d => clo_cell (two_0 w #[kU a, kI i] #[kU b, kI j] 89 89 d) (k := 1) rfl
  have c4 := fun d => clo_cell (two_1 w #[kU a, kI i] #[kU b, kI j] 89 89 d) (k := 1) rfl
  refine XW.run (n := 17) (e := env [.agg #[kU a, kI i], .agg #[kU b, kI j], ptr w.heap.size, ptr (w.heap.size + 1), kI 0]) ?_
  refine XW.p TT_ok rfl rfl rfl rfl ?_
  refine XW.loadH TT_ok rfl rfl rfl rfl rfl rfl (c1 _) ?_
  refine XW.p TT_ok rfl rfl rfl rfl ?_
  refine XW.loadH TT_ok rfl rfl rfl rfl rfl rfl (c2 _) ?_
  refine XW.callQ (v := kI (cI a b)) (holds2 (c3 _) (c4 _)) rfl rfl rfl (by kernel_rfl) rfl (cmpU a b _) ?_
  refine XW.p TT_ok rfl rfl rfl rfl ?_
  refine XW.loadH TT_ok rfl rfl rfl rfl rfl rfl (c3 _) ?_
  refine XW.p TT_ok rfl rfl rfl rfl ?_
  refine XW.loadH TT_ok rfl rfl rfl rfl rfl rfl (c4 _) ?_
  refine XW.callQ (v := kI (cI i j)) (holds2 (c1 _) (c2 _)) rfl rfl rfl (by kernel_rfl) rfl (cmpI i j _) ?_
  refine XW.buildSlice TT_ok rfl rfl rfl rfl rfl rfl rfl rfl rfl rfl rfl rfl rfl ?_
  refine XW.callQ (v := kI (orV (cI a b) (cI i j))) (holds_nil _) rfl rfl rfl (by kernel_rfl) rfl (orI (new_cell _ _ _ 0 rfl) (new_cell _ _ _ 1 rfl)) ?_
  refine XW.p TT_ok rfl rfl rfl rfl ?_
  refine XW.nil ?_
  clear c1 c2 c3 c4
  go_wp2
  refine bodyPost_ret (v := .int .i64 (orV (cI a b) (cI i j))) ?_ rfl ?_
  · exact res1 Try.results39 rfl
  · refine ⟨rfl, 1, #[.cells #[kU a, kI i] 89, .cells #[kU b, kI j] 89, .cells #[kI (cI a b), kI (cI i j)] 3], ?_⟩
    refine Eq.trans (b := { heap := ((w.heap.push (.cells #[kU a, kI i] 89)).push (.cells #[kU b, kI j] 89)).push (.cells #[kI (cI a b), kI (cI i j)] 3), tape := w.tape, drawn := w.drawn + 1, os := w.os, output := w.output }) rfl ?_
    simp only [grow, World.drewN]
    congr 1
end Go.Proofs.Ytpfnhkdhcjclpaa
