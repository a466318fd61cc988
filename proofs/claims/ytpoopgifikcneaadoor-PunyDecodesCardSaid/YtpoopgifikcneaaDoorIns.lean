/- slices.Insert at []rune: what it returns and leaves of memory, over a row and a source in another block; the sizes are bounded. -/
import Derived.Test.YtpoopgifikcneaaDoorFail
import Derived.Shelf.Spec.SlicesInsertGrow
import Derived.Deep.RegionLaw
set_option linter.unusedVariables false
set_option linter.unusedSimpArgs false
namespace Go.Proofs.YtpoopgifikcneaaDoor
open Go.RowKit Go.Lib Go.Shelf

theorem infoRune : (Tryd.prog.info? 21).map (fun i => (i.zero, i.size, i.bytes)) = some (some (.int .i32 0), 1, 4) := by kernel_rfl

set_option maxHeartbeats 4000000 in
set_option maxRecDepth 100000 in
theorem insert_shift (b off n c i vb voff m vc : Nat) (cs vs : List Value) (w : World) (hi : i < n) (hm : 0 < m) (hroom : n + m ≤ c) (hc63 : c ≤ 9223372036854775807) (hvb : vb ≠ b)
    (hcl : cs.length = n) (hvl : vs.length = m)
    (hcs : ∀ j v, cs[j]? = some v → w.cell? ⟨b, off + j, none⟩ = some v) (hsp : ∀ j, j < n + m → (w.cell? ⟨b, off + j, none⟩).isSome = true) (hfz : ∀ j, j < n + m → w.frozen? ⟨b, off + j, none⟩ = false)
    (hvs : ∀ j v, vs[j]? = some v → w.cell? ⟨vb, voff + j, none⟩ = some v) (h1c : ∀ v ∈ cs, v.oneCell' = true) (h1v : ∀ v ∈ vs, v.oneCell' = true)
    (tA tB : TypeId) (kA kB : Nat) (hsa : w.shape? vb = some (tA, kA)) (hsb : w.shape? b = some (tB, kB)) (hkB : kB ≠ 0) (hfa : w.frozen? ⟨vb, voff, none⟩ = false) (hfe : w.frozen? ⟨vb, kA, none⟩ = false) :
    Calls Tryd.prog 79 #[.slice (some ⟨b, off, none⟩) n c, .int .i64 i, .slice (some ⟨vb, voff, none⟩) m vc] w fun e w' =>
      e = .returned (.slice (some ⟨b, off, none⟩) (n + m) c) ∧ w' = (w.drew.setCells b (off + (i + m)) (cs.drop i)).setCells b (off + i) vs := by
  have hz1 : ¬ ((m : Int) = 0) := by omega
  have hz2 : ¬ ((i : Int) = (n : Int)) := by omega
  have hsz : (Tryd.prog.info? 21).map (·.size) = some 1 := by
    obtain ⟨i0, hi0, h0, h1, h2⟩ := info_parts infoRune
    rw [hi0]; simp [h1]
  have hov : ∀ lb cb, (callFunc 117 #[.slice (some ⟨vb, voff, none⟩) m vc, .slice (some ⟨b, off + (i + m), none⟩) lb cb]).run Tryd.prog w = .ok (.value (.bool false)) w := fun lb cb => by
    rw [run_callFunc_extern Tryd.func117 (by kernel_rfl) (by kernel_rfl) (by kernel_rfl) (e := Extern.SlicesOverlaps.overlaps #[71, 71] #[4]) (by kernel_rfl),
      Lib.run_overlaps_apart w 71 4 21 Tryd.underlying71 1 Tryd.sizeOf21 ⟨vb, voff, none⟩ ⟨b, off + (i + m), none⟩ m vc lb cb hvb tA tB kA kB hsa hsb hkB hfa hfe]
    rfl
  have hdl : (cs.drop i).length = n - i := by rw [List.length_drop, hcl]
  have hw1 : IntKind.i64.wrap ((i : Int) + (m : Int)) = (i : Int) + (m : Int) := by rw [IntKind.wrap_i64]; omega
  have hb1 : (0 : Int) ≤ (i : Int) + (m : Int) := by omega
  have hin : i ≤ n := by omega
  have htn : ((i : Int) + (m : Int)).toNat = i + m := by omega
  have hb2 : ¬ (c = i + m) := by omega
  have hb3 : (i : Int) ≤ (n : Int) + (m : Int) := by omega
  have hb4 : ¬ (c = i) := by omega
  have hcp1 : ∀ ty dc sc, (Builtin.copy_ #[71, 71] ty #[.slice (some ⟨b, off + (i + m), none⟩) (n + m - (i + m)) dc, .slice (some ⟨b, off + i, none⟩) (n + m - i) sc]).run Tryd.prog w.drew = .ok (goInt (cs.drop i).length) (w.drew.setCells b (off + (i + m)) (cs.drop i)) := fun ty dc sc =>
    run_copy_cells w.drew _ _ ty 21 b (off + (i + m)) (n + m - (i + m)) dc ⟨b, off + i, none⟩ (n + m - i) sc (cs.drop i) Tryd.underlying71 hsz (by rw [hdl]; simp only [Nat.min_def]; split <;> omega)
      (fun j v hj => by rw [Addr.add_lit, Nat.add_assoc]; exact hcs (i + j) v (by rwa [List.getElem?_drop] at hj))
      (fun j hj => by rw [Nat.add_assoc]; exact hsp _ (by omega)) (fun j hj => by rw [Nat.add_assoc]; exact hfz _ (by omega)) (fun v hv => h1c v (List.mem_of_mem_drop hv))
  obtain ⟨W1, hW1⟩ : ∃ W1, W1 = w.drew.setCells b (off + (i + m)) (cs.drop i) := ⟨_, rfl⟩
  have hsp1 : ∀ k, k < n + m → (W1.cell? ⟨b, off + k, none⟩).isSome = true := fun k hk => by
    rw [hW1]
    exact isSome_setCells b _ _ _ (fun j hj => by rw [Nat.add_assoc]; exact hsp _ (by omega)) _ (hsp k hk)
  have hcp2 : ∀ (W : World), (∀ x, W.cell? x = W1.cell? x) → (∀ x, W.frozen? x = W1.frozen? x) → ∀ ty dc, (Builtin.copy_ #[71, 71] ty #[.slice (some ⟨b, off + i, none⟩) (n + m - i) dc, .slice (some ⟨vb, voff, none⟩) m vc]).run Tryd.prog W = .ok (goInt vs.length) (W.setCells b (off + i) vs) := fun W hWc hWf ty dc =>
    run_copy_cells W _ _ ty 21 b (off + i) (n + m - i) dc ⟨vb, voff, none⟩ m vc vs Tryd.underlying71 hsz (by rw [hvl]; simp only [Nat.min_def]; split <;> omega)
      (fun j v hj => by
        rw [Addr.add_lit, hWc, hW1, World.cell?_setCells_out b _ _ _ _ (fun h _ => absurd h hvb)]
        exact hvs j v hj)
      (fun j hj => by rw [hWc, Nat.add_assoc]; exact hsp1 _ (by omega)) (fun j hj => by rw [hWf, hW1, World.frozen?_setCells, Nat.add_assoc]; exact hfz _ (by omega)) h1v
  rw [← hW1] at hcp1
  go_enter Tryd.func79, Tryd.ntmps79
  go_wp2_with (simp only [hov])
  go_region_law (refine step_copy_runI rfl _ _ 71 71 rfl _ _ (by simp [Act.eval, Act.put]) (by simp [Act.eval, Act.put]) (hcp1 _ _ _) ?_)
  go_wp2_with (at_builtin; refine wpList_copy_runI _ rfl _ _ 71 71 rfl _ _ rfl rfl (hcp2 _ (fun _ => rfl) (fun _ => rfl) _ _) ?_)
  go_ret
  first | exact ⟨rfl, rfl⟩ | exact ⟨rfl, by rw [hW1]⟩

set_option maxHeartbeats 4000000 in
set_option maxRecDepth 100000 in
theorem insert_end_room (b off n c vb voff m vc : Nat) (vs : List Value) (w : World) (hm : 0 < m) (hroom : n + m ≤ c) (hc63 : c ≤ 9223372036854775807)
    (hvl : vs.length = m) (hsp : ∀ j, j < m → (w.cell? ⟨b, off + n + j, none⟩).isSome = true) (hfz : ∀ j, j < m → w.frozen? ⟨b, off + n + j, none⟩ = false)
    (hvs : ∀ j v, vs[j]? = some v → w.cell? ⟨vb, voff + j, none⟩ = some v) (h1v : ∀ v ∈ vs, v.oneCell' = true) :
    Calls Tryd.prog 79 #[.slice (some ⟨b, off, none⟩) n c, .int .i64 n, .slice (some ⟨vb, voff, none⟩) m vc] w fun e w' =>
      e = .returned (.slice (some ⟨b, off, none⟩) (n + m) c) ∧ w' = w.setCells b (off + n) vs := by
  have hz1 : ¬ ((m : Int) = 0) := by omega
  have hsrc : Src Tryd.prog 1 71 (.slice (some ⟨vb, voff, none⟩) m vc) m vs w := Src.ofSlice w Tryd.underlying71 ⟨vb, voff, none⟩ m vc vs (by omega) (fun j u hj => by rw [Addr.add_lit]; exact hvs j u hj) h1v
  go_enter Tryd.func79, Tryd.ntmps79
  go_wp2_with (at_builtin; refine wpList_append_room1 _ rfl _ _ 71 71 rfl 21 _ _ Tryd.underlying71 infoRune b off n c rfl _ rfl m vs hsrc hroom (by rw [hvl]; exact hsp) (by rw [hvl]; exact hfz) ?_)
  go_ret
  exact ⟨rfl, rfl⟩

set_option maxHeartbeats 4000000 in
set_option maxRecDepth 100000 in
theorem insert_end_grow (base : Option Addr) (n c vb voff m vc : Nat) (cs vs : List Value) (w : World) (hm : 0 < m) (hnc : n ≤ c) (hroom : c < n + m) (hbig : (n + m) * 4 ≤ 140737488355328)
    (hcl : cs.length = n) (hvl : vs.length = m) (hnil : base = none → n = 0)
    (hcs : ∀ a, base = some a → ∀ j v, cs[j]? = some v → w.cell? (a.add j) = some v)
    (hvs : ∀ j v, vs[j]? = some v → w.cell? ⟨vb, voff + j, none⟩ = some v) (h1v : ∀ v ∈ vs, v.oneCell' = true) :
    Calls Tryd.prog 79 #[.slice base n c, .int .i64 n, .slice (some ⟨vb, voff, none⟩) m vc] w fun e w' =>
      e = .returned (.slice (some ⟨w.heap.size, 0, none⟩) (n + m) (grownCap w (n + m) c 21)) ∧
      w' = w.drew.alloc (.cells ((cs ++ vs).toArray ++ Builtin.zeroCells (Value.int .i32 0).cells (grownCap w (n + m) c 21 - (n + m))) 21) := by
  obtain ⟨i0, hi0, hz0, hzs, hzb⟩ := info_parts infoRune
  have hz1 : ¬ ((m : Int) = 0) := by omega
  have hsrc : Src Tryd.prog i0.size 71 (.slice (some ⟨vb, voff, none⟩) m vc) m vs w := by
    rw [hzs]
    exact Src.ofSlice w Tryd.underlying71 ⟨vb, voff, none⟩ m vc vs (by omega) (fun j u hj => by rw [Addr.add_lit]; exact hvs j u hj) h1v
  have hold : (Builtin.firstCells i0.size n (.slice base n c)).run Tryd.prog w.drew = .ok cs.toArray w.drew := by
    rw [hzs]
    cases base with
    | none =>
      have h0 := hnil rfl
      subst h0
      rw [List.length_eq_zero_iff.1 hcl]
      exact run_firstCells_none w.drew 1 0 0 c
    | some a => exact run_firstCells_some w.drew 1 n a n c cs (by omega) (fun j v hj => hcs a rfl j v hj)
  have hrun : ∀ ty, (Builtin.append_ #[71, 71] ty #[.slice base n c, .slice (some ⟨vb, voff, none⟩) m vc]).run Tryd.prog w = _ := fun ty =>
    run_append_grow_src w 71 71 ty 21 i0 _ Tryd.underlying71 hi0 hz0 base n c cs hold _ m vs hsrc hroom (by omega) (by rw [hzb]; exact growslice_fits hroom hbig)
  go_enter Tryd.func79, Tryd.ntmps79
  cases base with
  | none =>
    have h0 := hnil rfl
    subst h0
    go_wp2_with (at_builtin; refine Lib.wpList_append_run _ rfl _ _ _ _ rfl _ _ rfl rfl _ _ (hrun _) ?_)
    go_ret
    exact ⟨rfl, rfl⟩
  | some a =>
    obtain ⟨ab, ao, asp⟩ := a
    go_wp2_with (at_builtin; refine Lib.wpList_append_run _ rfl _ _ _ _ rfl _ _ rfl rfl _ _ (hrun _) ?_)
    all_goals (go_ret; exact ⟨rfl, rfl⟩)

set_option maxHeartbeats 4000000 in
set_option maxRecDepth 100000 in
theorem insert_grow (b off n c i vb voff m vc : Nat) (cs vs : List Value) (w : World) (hi : i < n) (hm : 0 < m) (hnc : n ≤ c) (hroom : c < n + m) (hbig : (n + m) * 4 ≤ 140737488355328)
    (hcl : cs.length = n) (hvl : vs.length = m)
    (hcs : ∀ j v, cs[j]? = some v → w.cell? ⟨b, off + j, none⟩ = some v)
    (hvs : ∀ j v, vs[j]? = some v → w.cell? ⟨vb, voff + j, none⟩ = some v) (h1c : ∀ v ∈ cs, v.oneCell' = true) (h1v : ∀ v ∈ vs, v.oneCell' = true) :
    Calls Tryd.prog 79 #[.slice (some ⟨b, off, none⟩) n c, .int .i64 i, .slice (some ⟨vb, voff, none⟩) m vc] w fun e w' =>
      e = .returned (.slice (some ⟨w.heap.size, 0, none⟩) (n + m) (grownCap w (n + m) c 21)) ∧
      w' = (((w.alloc (.cells ((cs.take i).toArray ++ Builtin.zeroCells (Value.int .i32 0).cells (n + m - i) ++ Builtin.zeroCells (Value.int .i32 0).cells (grownCap w (n + m) c 21 - (n + m))) 21)).drew.setCells w.heap.size i vs).drew).setCells w.heap.size (i + m) (cs.drop i) := by
  obtain ⟨i0, hi0, hz0, hzs, hzb⟩ := info_parts infoRune
  have hz1 : ¬ ((m : Int) = 0) := by omega
  have hz2 : ¬ ((i : Int) = (n : Int)) := by omega
  have hz3 : (c : Int) < (n : Int) + (m : Int) := by omega
  have hsz : (Tryd.prog.info? 21).map (·.size) = some 1 := by rw [hi0]; simp [hzs]
  have hbw : b < w.heap.size := block_lt_of_cell (hcs 0 _ (List.getElem?_eq_getElem (by omega)))
  have hvw : vb < w.heap.size := block_lt_of_cell (hvs 0 _ (List.getElem?_eq_getElem (by omega)))
  have hkk : (n : Int) + (m : Int) - (i : Int) = ((n + m - i : Nat) : Int) := by omega
  have hik : i + (n + m - i) = n + m := by omega
  have hold : (Builtin.firstCells i0.size i (.slice (some ⟨b, off, none⟩) i c)).run Tryd.prog w.drew = .ok (cs.take i).toArray w.drew := by
    rw [hzs]
    exact run_firstCells_some w.drew 1 i ⟨b, off, none⟩ i c (cs.take i) (by rw [List.length_take]; omega) (fun j v hj => by
      rw [Addr.add_lit]
      rw [List.getElem?_take] at hj
      split at hj
      · exact hcs j v hj
      · cases hj)
  have hrz : ∀ ty, (Builtin.append_ #[71, 3] ty #[.slice (some ⟨b, off, none⟩) i c, .int .i64 ((n : Int) + (m : Int) - (i : Int))]).run Tryd.prog w =
      .ok (.slice (some ⟨w.heap.size, 0, none⟩) (n + m) (grownCap w (n + m) c 21)) (w.drew.alloc (.cells ((cs.take i).toArray ++ Builtin.zeroCells (Value.int .i32 0).cells (n + m - i) ++ Builtin.zeroCells (Value.int .i32 0).cells (grownCap w (n + m) c 21 - (n + m))) 21)) := fun ty => by
    have h := Lib.run_append_grow_zeros w 71 3 ty 21 i0 _ .i64 .i64 Tryd.underlying71 Tryd.underlying3 hi0 hz0 (some ⟨b, off, none⟩) i c (cs.take i) hold (n + m - i) (by omega) (by omega) (by omega) (by omega) (by rw [hzb]; omega) (by rw [hzb, hik]; exact growslice_fits hroom hbig)
    rw [hik] at h
    rw [hkk]
    exact h
  obtain ⟨G, hG⟩ : ∃ G, G = grownCap w (n + m) c 21 := ⟨_, rfl⟩
  obtain ⟨ROW, hROW⟩ : ∃ ROW : Array Value, ROW = (cs.take i).toArray ++ Builtin.zeroCells (Value.int .i32 0).cells (n + m - i) ++ Builtin.zeroCells (Value.int .i32 0).cells (G - (n + m)) := ⟨_, rfl⟩
  rw [← hG] at hrz ⊢
  rw [← hROW] at hrz ⊢
  have hRl : n + m ≤ ROW.size := by
    rw [hROW]
    simp [Builtin.zeroCells, Value.cells]
    omega
  obtain ⟨W1, hW1⟩ : ∃ W1, W1 = w.drew.alloc (.cells ROW 21) := ⟨_, rfl⟩
  rw [← hW1] at hrz
  have hN : ∀ j, j < n + m → (W1.cell? ⟨w.heap.size, j, none⟩).isSome = true := fun j hj => by
    rw [hW1, World.cell?_alloc_at (w := w.drew) ROW _ w.heap.size j rfl, Array.getElem?_eq_getElem (by omega)]; rfl
  have hNf : ∀ j, W1.frozen? ⟨w.heap.size, j, none⟩ = false := fun j => by rw [hW1]; exact World.frozen?_alloc_at (w := w.drew) ROW _ w.heap.size j rfl
  have hOb : ∀ j v, w.cell? ⟨b, j, none⟩ = some v → W1.cell? ⟨b, j, none⟩ = some v := fun j v h => by rw [hW1, World.cell?_alloc_past (w := w.drew) _ b j hbw]; exact h
  have hOv : ∀ j v, w.cell? ⟨vb, j, none⟩ = some v → W1.cell? ⟨vb, j, none⟩ = some v := fun j v h => by rw [hW1, World.cell?_alloc_past (w := w.drew) _ vb j hvw]; exact h
  have hcpA : ∀ (W : World), (∀ x, W.cell? x = W1.cell? x) → (∀ x, W.frozen? x = W1.frozen? x) → ∀ ty dc, (Builtin.copy_ #[71, 71] ty #[.slice (some ⟨w.heap.size, i, none⟩) (n + m - i) dc, .slice (some ⟨vb, voff, none⟩) m vc]).run Tryd.prog W = .ok (goInt vs.length) (W.setCells w.heap.size i vs) := fun W hWc hWf ty dc =>
    run_copy_cells W _ _ ty 21 w.heap.size i (n + m - i) dc ⟨vb, voff, none⟩ m vc vs Tryd.underlying71 hsz (by rw [hvl]; simp only [Nat.min_def]; split <;> omega)
      (fun j v hj => by rw [Addr.add_lit, hWc]; exact hOv _ v (hvs j v hj))
      (fun j hj => by rw [hWc]; exact hN _ (by omega)) (fun j hj => by rw [hWf]; exact hNf _) h1v
  have hGn : n + m ≤ G := by rw [hG]; exact grownCap_ge w _ _ _
  have hG63 : G ≤ 9223372036854775807 := by
    have := grownCap_le_maxLen w (n + m) c 21 (by unfold maxLen; omega)
    rw [← hG] at this
    unfold maxLen at this
    omega
  have hGi : ¬ (G = i) := by omega
  have hGim : ¬ (G = i + m) := by omega
  have hci : ¬ (c = i) := by omega
  have hbN : b ≠ w.heap.size := by omega
  have hdl : (cs.drop i).length = n - i := by rw [List.length_drop, hcl]
  have hcpB : ∀ (W : World), (∀ x, W.cell? x = (W1.setCells w.heap.size i vs).cell? x) → (∀ x, W.frozen? x = (W1.setCells w.heap.size i vs).frozen? x) → ∀ ty dc sc, (Builtin.copy_ #[71, 71] ty #[.slice (some ⟨w.heap.size, i + m, none⟩) (n + m - (i + m)) dc, .slice (some ⟨b, off + i, none⟩) (n - i) sc]).run Tryd.prog W = .ok (goInt (cs.drop i).length) (W.setCells w.heap.size (i + m) (cs.drop i)) := fun W hWc hWf ty dc sc =>
    run_copy_cells W _ _ ty 21 w.heap.size (i + m) (n + m - (i + m)) dc ⟨b, off + i, none⟩ (n - i) sc (cs.drop i) Tryd.underlying71 hsz (by rw [hdl]; simp only [Nat.min_def]; split <;> omega)
      (fun j v hj => by
        rw [Addr.add_lit, hWc, World.cell?_setCells_out _ _ _ _ _ (fun h _ => absurd h hbN), Nat.add_assoc]
        exact hOb _ v (hcs (i + j) v (by rwa [List.getElem?_drop] at hj)))
      (fun j hj => by rw [hWc]; exact isSome_setCells _ _ _ _ (fun t ht => hN _ (by omega)) _ (hN _ (by omega)))
      (fun j hj => by rw [hWf, World.frozen?_setCells]; exact hNf _) (fun v hv => h1c v (List.mem_of_mem_drop hv))
  subst hW1
  have hE1 : ∀ x, ((w.alloc (.cells ROW 21)).drew).cell? x = (w.drew.alloc (.cells ROW 21)).cell? x := fun x => rfl
  have hE2 : ∀ x, ((w.alloc (.cells ROW 21)).drew).frozen? x = (w.drew.alloc (.cells ROW 21)).frozen? x := fun x => rfl
  have hF1 : ∀ x, (((w.alloc (.cells ROW 21)).drew.setCells w.heap.size i vs).drew).cell? x = ((w.drew.alloc (.cells ROW 21)).setCells w.heap.size i vs).cell? x := fun x => rfl
  have hF2 : ∀ x, (((w.alloc (.cells ROW 21)).drew.setCells w.heap.size i vs).drew).frozen? x = ((w.drew.alloc (.cells ROW 21)).setCells w.heap.size i vs).frozen? x := fun x => rfl
  have hw1 : IntKind.i64.wrap ((i : Int) + (m : Int)) = (i : Int) + (m : Int) := by rw [IntKind.wrap_i64]; omega
  have hb1 : (0 : Int) ≤ (i : Int) + (m : Int) := by omega
  have hin : i ≤ n := by omega
  have htn : ((i : Int) + (m : Int)).toNat = i + m := by omega
  have hb3 : (i : Int) ≤ (n : Int) := by omega
  clear hkk hik hold hROW hG hRl
  go_enter Tryd.func79, Tryd.ntmps79
  go_wp2_with (first
    | (at_builtin; refine Lib.wpList_append_run _ rfl _ _ _ _ rfl _ _ rfl rfl _ _ (hrz _) ?_)
    | (at_builtin; refine wpList_copy_runI _ rfl _ _ 71 71 rfl _ _ rfl rfl (hcpA _ hE1 hE2 _ _) ?_)
    | (at_builtin; refine wpList_copy_runI _ rfl _ _ 71 71 rfl _ _ rfl rfl (hcpB _ (fun _ => rfl) (fun _ => rfl) _ _ _) ?_))
  go_region_law (refine step_copy_runI rfl _ _ 71 71 rfl (.slice (some ⟨w.heap.size, i + m, none⟩) (n + m - (i + m)) (G - (i + m))) (.slice (some ⟨b, off + i, none⟩) (n - i) (c - i)) (by simp [Act.eval, Act.put]) (by simp [Act.eval, Act.put]) (hcpB _ hF1 hF2 3 (G - (i + m)) (c - i)) ?_)
  go_wp2
  go_ret
  exact ⟨rfl, rfl⟩

/-! ### The four roads in one -/
theorem setCell_row {w : World} {g : Nat} {e : TypeId} {cur : Array Value} (h : w.heap[g]? = some (.cells cur e (0, 0))) (i : Nat) (u : Value) : (w.setCell ⟨g, i, none⟩ u).heap[g]? = some (.cells (cur.setIfInBounds i u) e (0, 0)) := by
  simp [World.setCell, Array.getElem?_modify, h]
theorem below_setCells' {B : Nat} {a : World} (b : Nat) (hb : B ≤ b) : ∀ (vs : List Value) (o : Nat) (w : World), Below B a w → Below B a (w.setCells b o vs)
  | [], _, _, h => h
  | v :: r, o, w, h => below_setCells' b hb r (o + 1) (w.setCell ⟨b, o, none⟩ v) (h.setCell (p := ⟨b, o, none⟩) hb v)
theorem setCells_row (g : Nat) (e : TypeId) : ∀ (vs : List Value) (o : Nat) (w : World) (cur : Array Value), w.heap[g]? = some (.cells cur e (0, 0)) → o + vs.length ≤ cur.size →
    (w.setCells g o vs).heap[g]? = some (.cells (cur.toList.take o ++ vs ++ cur.toList.drop (o + vs.length)).toArray e (0, 0))
  | [], o, w, cur, h, _ => by
    rw [World.setCells, h]
    simp
  | v :: r, o, w, cur, h, hl => by
    have hl' : o + 1 + r.length ≤ cur.size := by simp at hl; omega
    have ih := setCells_row g e r (o + 1) (w.setCell ⟨g, o, none⟩ v) (cur.setIfInBounds o v) (setCell_row h o v) (by simpa using hl')
    rw [World.setCells, ih]
    congr 2
    apply congrArg List.toArray
    have ho : o < cur.toList.length := by simp; omega
    simp only [Array.toList_setIfInBounds, List.length_cons]
    rw [List.take_succ_eq_append_getElem (by simpa using ho), List.drop_set_of_lt (by omega)]
    simp only [List.getElem_set_self, List.append_assoc, List.cons_append, List.nil_append]
    rw [List.take_set_of_le (by omega), show o + 1 + r.length = o + (r.length + 1) by omega]

/-- A list with one more at a place. -/
def putAt (l : List Int) (i : Nat) (x : Int) : List Int := l.take i ++ x :: l.drop i
theorem putAt_length (l : List Int) (i : Nat) (x : Int) (h : i ≤ l.length) : (putAt l i x).length = l.length + 1 := by
  unfold putAt
  simp
  omega

theorem shift_list (A cs R : List Value) (n i : Nat) (x : Value) (hi : i ≤ n) (hn : n + 1 ≤ A.length) (ht : A.take n = cs) :
    ((A.take (i + 1) ++ cs.drop i ++ R).take i ++ [x] ++ (A.take (i + 1) ++ cs.drop i ++ R).drop (i + 1)).take (n + 1) = cs.take i ++ x :: cs.drop i := by
  have hcl : cs.length = n := by rw [← ht, List.length_take]; omega
  have h1 : (A.take (i + 1)).length = i + 1 := by rw [List.length_take]; omega
  have e1 : (A.take (i + 1) ++ (cs.drop i ++ R)).take i = cs.take i := by
    rw [List.take_append_of_le_length (by omega), List.take_take, ← ht, List.take_take]
    congr 1
    omega
  have e2 : (A.take (i + 1) ++ (cs.drop i ++ R)).drop (i + 1) = cs.drop i ++ R := List.drop_left' h1
  rw [List.append_assoc (A.take (i + 1)), e1, e2, List.append_assoc (cs.take i), List.singleton_append, ← List.cons_append, ← List.append_assoc]
  exact List.take_left' (by simp; omega)
theorem end_list (A cs R : List Value) (n : Nat) (x : Value) (ht : A.take n = cs) (hcl : cs.length = n) : (A.take n ++ [x] ++ R).take (n + 1) = cs.take n ++ x :: cs.drop n := by
  rw [ht, List.take_of_length_le (by omega : cs.length ≤ n), List.drop_of_length_le (by omega : cs.length ≤ n)]
  exact List.take_left' (by simp; omega)

theorem insert_any (B : Nat) (v : Value) (l : List Int) (i : Nat) (x : Int) (w : World) (hown : w.ownsRow B 21 1 v l.length (l.map (Value.int .i32))) (hi : i ≤ l.length) (hl : l.length ≤ 1000000) (hB : B ≤ w.heap.size) :
    Calls Tryd.prog 79 #[v, .int .i64 i, .slice (some ⟨w.heap.size, 0, none⟩) 1 1] (w.alloc (.cells #[.int .i32 x] 21)) fun e w' => ∃ v', e = .returned v' ∧ w'.ownsRow B 21 1 v' (putAt l i x).length ((putAt l i x).map (Value.int .i32)) ∧ Below B w w' := by
  obtain ⟨W, hW⟩ : ∃ W, W = w.alloc (.cells #[.int .i32 x] 21) := ⟨_, rfl⟩
  have hWs : W.heap.size = w.heap.size + 1 := by rw [hW]; simp
  have hWb : Below B w W := by rw [hW]; exact (Below.refl _ _).alloc hB _
  have hWn : W.heap[w.heap.size]? = some (.cells #[.int .i32 x] 21 (0, 0)) := by rw [hW]; exact heap_alloc_new w _
  have hvs : ∀ j v, ([Value.int .i32 x] : List Value)[j]? = some v → W.cell? ⟨w.heap.size, 0 + j, none⟩ = some v := by
    intro j v hj
    match j, hj with
    | 0, hj => rw [Lib.cell_of_heap hWn]; exact hj
  have h1v : ∀ v ∈ ([Value.int .i32 x] : List Value), v.oneCell' = true := by intro v hv; simp at hv; subst hv; rfl
  have h1c : ∀ v ∈ l.map (Value.int .i32), v.oneCell' = true := by intro v hv; obtain ⟨y, _, rfl⟩ := List.mem_map.1 hv; rfl
  have hpl := putAt_length l i x hi
  rw [← hW, hpl]
  have hmap : (putAt l i x).map (Value.int .i32) = (l.map (Value.int .i32)).take i ++ Value.int .i32 x :: (l.map (Value.int .i32)).drop i := by
    unfold putAt; simp [List.map_take, List.map_drop]
  rw [hmap]
  have hown2 := hown.kept (w' := W) (row := none) (by rw [hW]; exact World.grownBy_alloc w _ none) (by cases v.ownBlock <;> simp)
  have hcl : (l.map (Value.int .i32)).length = l.length := by simp
  generalize l.map (Value.int .i32) = cs at *
  rcases hown2.2 with ⟨rfl, h0⟩ | ⟨g, cap, cur, rfl, hBg, hg, hnc, hcm, hcs, htake⟩
  · -- nil
    obtain rfl : i = 0 := by omega
    obtain rfl : cs = [] := List.length_eq_zero_iff.1 (by omega)
    have h := insert_end_grow none 0 0 w.heap.size 0 1 1 [] [.int .i32 x] W (by omega) (by omega) (by omega) (by omega) rfl rfl (fun _ => rfl) (fun a ha => by cases ha) hvs h1v
    rw [h0]
    refine h.mono ?_
    rintro e w' ⟨rfl, rfl⟩
    have hge := grownCap_ge W 1 0 21
    refine ⟨_, rfl, ⟨by simp, .inr ⟨W.heap.size, _, _, rfl, by omega, heap_alloc_new W.drew _, hge, ?_, ?_, ?_⟩⟩, ?_⟩
    · exact grownCap_le_maxLen W 1 0 _ (by unfold maxLen; omega)
    · simp [Builtin.zeroCells, Value.cells]; omega
    · simp
    · exact hWb.trans ((Below.refl B W).drew.alloc (by show B ≤ W.heap.size; omega) _)
  · have hc63 : cap ≤ 9223372036854775807 := by unfold maxLen at hcm; omega
    have hcs1 : cur.size = cap := by omega
    have htk : cur.toList.take l.length = cs := by simpa using htake
    have hcell : ∀ j u, cs[j]? = some u → W.cell? ⟨g, 0 + j, none⟩ = some u := by
      intro j u hj
      have := hown2.cells (g := g) rfl j u hj
      rwa [Addr.add_lit] at this
    have hglt : g < W.heap.size := (Array.getElem?_eq_some_iff.1 hg).1
    have hgne : w.heap.size ≠ g := by
      rcases hown.2 with ⟨hv, _⟩ | ⟨g', cap', cur', hv, _, hg', _⟩
      · cases hv
      · injection hv with ha _ _
        injection ha with ha
        injection ha with ha _ _
        subst ha
        have := (Array.getElem?_eq_some_iff.1 hg').1
        omega
    by_cases hroom : l.length + 1 ≤ cap
    · by_cases hin : i < l.length
      · -- in place
        have h := insert_shift g 0 l.length cap i w.heap.size 0 1 1 cs [.int .i32 x] W hin (by omega) hroom hc63 hgne hcl rfl hcell
          (fun j hj => by rw [Lib.cell_of_heap hg, Array.getElem?_eq_getElem (by omega)]; rfl) (fun j _ => Lib.frozen_of_heap hg _) hvs h1c h1v
          21 21 1 cap (by simp [World.shape?, hWn]) (by simp [World.shape?, hg, hcs1]) (by omega) (Lib.frozen_of_heap hWn _) (Lib.frozen_of_heap hWn _)
        refine h.mono ?_
        rintro e w' ⟨rfl, rfl⟩
        have r1 := setCells_row g 21 (cs.drop i) (0 + (i + 1)) W.drew cur hg (by rw [List.length_drop]; omega)
        have r2 := setCells_row g 21 [.int .i32 x] (0 + i) _ _ r1 (by simp; omega)
        refine ⟨_, rfl, ⟨by simp; omega, .inr ⟨g, cap, _, rfl, hBg, r2, hroom, hcm, ?_, ?_⟩⟩, ?_⟩
        · simp; omega
        · simp only [Nat.zero_add, Nat.mul_one]
          exact shift_list cur.toList cs _ l.length i _ hi (by simp; omega) htk
        · exact hWb.trans (below_setCells' g hBg _ _ _ (below_setCells' g hBg _ _ _ (Below.refl B W).drew))
      · -- at the end
        obtain rfl : i = l.length := by omega
        have h := insert_end_room g 0 l.length cap w.heap.size 0 1 1 [.int .i32 x] W (by omega) hroom hc63 rfl
          (fun j hj => by rw [Lib.cell_of_heap hg, Array.getElem?_eq_getElem (by omega)]; rfl) (fun j _ => Lib.frozen_of_heap hg _) hvs h1v
        refine h.mono ?_
        rintro e w' ⟨rfl, rfl⟩
        have r1 := setCells_row g 21 [.int .i32 x] (0 + l.length) W cur hg (by simp; omega)
        refine ⟨_, rfl, ⟨by simp; omega, .inr ⟨g, cap, _, rfl, hBg, r1, hroom, hcm, ?_, ?_⟩⟩, ?_⟩
        · simp; omega
        · simp only [Nat.zero_add, Nat.mul_one]
          exact end_list cur.toList cs _ l.length _ htk hcl
        · exact hWb.trans (below_setCells' g hBg _ _ _ (Below.refl B W))
    · have hge := grownCap_ge W (l.length + 1) cap 21
      have hgm := grownCap_le_maxLen W (l.length + 1) cap 21 (by unfold maxLen; omega)
      by_cases hin : i < l.length
      · have h := insert_grow g 0 l.length cap i w.heap.size 0 1 1 cs [.int .i32 x] W hin (by omega) hnc (by omega) (by omega) hcl rfl hcell hvs h1c h1v
        refine h.mono ?_
        rintro e w' ⟨rfl, rfl⟩
        generalize grownCap W (l.length + 1) cap 21 = G at *
        obtain ⟨ROW, hROW⟩ : ∃ ROW : Array Value, ROW = (cs.take i).toArray ++ Builtin.zeroCells (Value.int .i32 0).cells (l.length + 1 - i) ++ Builtin.zeroCells (Value.int .i32 0).cells (G - (l.length + 1)) := ⟨_, rfl⟩
        have hRs : ROW.size = G := by rw [hROW]; simp [Builtin.zeroCells, Value.cells]; omega
        have hRt : ROW.toList.take i = cs.take i := by
          rw [hROW]
          simp only [Array.toList_append, List.append_assoc]
          exact List.take_left' (by simp; omega)
        rw [← hROW]
        have r0 : (W.alloc (.cells ROW 21)).drew.heap[W.heap.size]? = some (.cells ROW 21 (0, 0)) := heap_alloc_new W _
        have r1 := setCells_row W.heap.size 21 [.int .i32 x] i _ _ r0 (by simp; omega)
        have r2 := setCells_row W.heap.size 21 (cs.drop i) (i + 1) ((W.alloc (.cells ROW 21)).drew.setCells W.heap.size i [.int .i32 x]).drew _ r1 (by simp; omega)
        refine ⟨_, rfl, ⟨by simp; omega, .inr ⟨W.heap.size, G, _, rfl, by omega, r2, hge, hgm, ?_, ?_⟩⟩, ?_⟩
        · simp; omega
        · simp only [Nat.mul_one]
          have e1 : (ROW.toList.take i ++ [Value.int .i32 x]).length = i + 1 := by rw [hRt]; simp; omega
          rw [List.take_append_of_le_length (by simp; omega)]
          rw [List.take_left' e1, hRt, List.append_assoc, List.singleton_append]
          exact List.take_of_length_le (by simp; omega)
        · refine hWb.trans (below_setCells' _ (by omega) _ _ _ ?_)
          refine (below_setCells' W.heap.size (by omega) [.int .i32 x] i _ ?_).drew
          exact ((Below.refl B W).alloc (by omega) _).drew
      · obtain rfl : i = l.length := by omega
        have h := insert_end_grow (some ⟨g, 0, none⟩) l.length cap w.heap.size 0 1 1 cs [.int .i32 x] W (by omega) hnc (by omega) (by omega) hcl rfl (fun e => by cases e)
          (fun a ha j v hj => by cases ha; exact hown2.cells (g := g) rfl j v hj) hvs h1v
        refine h.mono ?_
        rintro e w' ⟨rfl, rfl⟩
        refine ⟨_, rfl, ⟨by simp; omega, .inr ⟨W.heap.size, _, _, rfl, by omega, heap_alloc_new W.drew _, hge, hgm, ?_, ?_⟩⟩, ?_⟩
        · simp [Builtin.zeroCells, Value.cells]; omega
        · simp only [Nat.mul_one, Array.toList_append]
          rw [List.take_left' (by simp; omega), List.take_of_length_le (by omega : cs.length ≤ l.length), List.drop_of_length_le (by omega)]
        · exact hWb.trans ((Below.refl B W).drew.alloc (by show B ≤ W.heap.size; omega) _)

end Go.Proofs.YtpoopgifikcneaaDoor
