/- faceOf, walked for each of its names. -/
import Derived.Test.YtfgfoofojofnmaaDoorP2
import Derived.Outline
namespace Go.Proofs.YtfgfoofojofnmaaDoor.Q
open Go.RowKit Go.Proofs.YtfgfoofojofnmaaDoorW.PrintWords Go.Proofs.YtfgfoofojofnmaaDoorW.PrintLast Go.Proofs.YtfgfoofojofnmaaDoorW.PrintMore
set_option linter.unusedVariables false
set_option linter.unusedSimpArgs false
open Go.Proofs.YtfgfoofojofnmaaDoor.Hand
/-- Which kind of function a name is. -/
def nameC (s : List UInt8) : Nat :=
 if s = [97, 108, 108] ∨ s = [110, 111, 110, 101] ∨ s = [114, 101, 102, 115] ∨ s = [116, 97, 103, 115] then 1
 else if s = [114, 101, 102] ∨ s = [116, 97, 103] then 2
 else if s = [97, 110, 99, 101, 115, 116, 111, 114, 115] then 3
 else if s = [100, 101, 115, 99, 101, 110, 100, 97, 110, 116, 115] ∨ s = [112, 97, 114, 101, 110, 116, 115] ∨ s = [99, 104, 105, 108, 100, 114, 101, 110] ∨ s = [104, 101, 97, 100, 115] ∨ s = [114, 111, 111, 116, 115] ∨ s = [109, 101, 114, 103, 101, 115] ∨ s = [98, 97, 115, 101, 115] then 4
 else if s = [116, 111, 117, 99, 104, 105, 110, 103] then 5
 else if s = [108, 97, 116, 101, 115, 116] ∨ s = [98, 101, 102, 111, 114, 101] ∨ s = [115, 105, 110, 99, 101] then 6
 else if s = [117, 110, 105, 111, 110] ∨ s = [99, 111, 109, 109, 111, 110] then 7
 else if s = [99, 111, 117, 110, 116] then 8 else 0
def faceC (c : Nat) : Int × Int × List Int × Int × Bool :=
 if c = 1 then (0, 0, [], 1, true) else if c = 2 then (1, 1, [3], 1, true) else if c = 3 then (1, 2, [1, 2], 1, true) else if c = 4 then (1, 1, [1], 1, true)
 else if c = 5 then (2, 2, [1, 3], 1, true) else if c = 6 then (2, 2, [1, 2], 1, true) else if c = 7 then (1, 1073741824, [1], 1, true) else if c = 8 then (1, 1, [1], 2, true) else (0, 0, [], 0, false)
/-- Every name is one of the table's, or none. -/
theorem names_cases (P : List UInt8 → Prop) (s : List UInt8)
  (h1 : P [97, 108, 108]) (h2 : P [110, 111, 110, 101]) (h3 : P [114, 101, 102, 115]) (h4 : P [116, 97, 103, 115]) (h5 : P [114, 101, 102]) (h6 : P [116, 97, 103])
  (h7 : P [97, 110, 99, 101, 115, 116, 111, 114, 115]) (h8 : P [100, 101, 115, 99, 101, 110, 100, 97, 110, 116, 115]) (h9 : P [112, 97, 114, 101, 110, 116, 115]) (h10 : P [99, 104, 105, 108, 100, 114, 101, 110])
  (h11 : P [104, 101, 97, 100, 115]) (h12 : P [114, 111, 111, 116, 115]) (h13 : P [109, 101, 114, 103, 101, 115]) (h14 : P [98, 97, 115, 101, 115]) (h15 : P [116, 111, 117, 99, 104, 105, 110, 103])
  (h16 : P [108, 97, 116, 101, 115, 116]) (h17 : P [98, 101, 102, 111, 114, 101]) (h18 : P [115, 105, 110, 99, 101]) (h19 : P [117, 110, 105, 111, 110]) (h20 : P [99, 111, 109, 109, 111, 110]) (h21 : P [99, 111, 117, 110, 116])
  (h0 : (¬ s = [97, 108, 108] ∧ ¬ s = [110, 111, 110, 101] ∧ ¬ s = [114, 101, 102, 115] ∧ ¬ s = [116, 97, 103, 115] ∧ ¬ s = [114, 101, 102] ∧ ¬ s = [116, 97, 103] ∧ ¬ s = [97, 110, 99, 101, 115, 116, 111, 114, 115] ∧ ¬ s = [100, 101, 115, 99, 101, 110, 100, 97, 110, 116, 115] ∧ ¬ s = [112, 97, 114, 101, 110, 116, 115] ∧ ¬ s = [99, 104, 105, 108, 100, 114, 101, 110] ∧ ¬ s = [104, 101, 97, 100, 115] ∧ ¬ s = [114, 111, 111, 116, 115] ∧ ¬ s = [109, 101, 114, 103, 101, 115] ∧ ¬ s = [98, 97, 115, 101, 115] ∧ ¬ s = [116, 111, 117, 99, 104, 105, 110, 103] ∧ ¬ s = [108, 97, 116, 101, 115, 116] ∧ ¬ s = [98, 101, 102, 111, 114, 101] ∧ ¬ s = [115, 105, 110, 99, 101] ∧ ¬ s = [117, 110, 105, 111, 110] ∧ ¬ s = [99, 111, 109, 109, 111, 110] ∧ ¬ s = [99, 111, 117, 110, 116]) → P s) : P s := by
 by_cases e1 : s = [97, 108, 108]
 ·rw [e1]; exact h1
 by_cases e2 : s = [110, 111, 110, 101]
 ·rw [e2]; exact h2
 by_cases e3 : s = [114, 101, 102, 115]
 ·rw [e3]; exact h3
 by_cases e4 : s = [116, 97, 103, 115]
 ·rw [e4]; exact h4
 by_cases e5 : s = [114, 101, 102]
 ·rw [e5]; exact h5
 by_cases e6 : s = [116, 97, 103]
 ·rw [e6]; exact h6
 by_cases e7 : s = [97, 110, 99, 101, 115, 116, 111, 114, 115]
 ·rw [e7]; exact h7
 by_cases e8 : s = [100, 101, 115, 99, 101, 110, 100, 97, 110, 116, 115]
 ·rw [e8]; exact h8
 by_cases e9 : s = [112, 97, 114, 101, 110, 116, 115]
 ·rw [e9]; exact h9
 by_cases e10 : s = [99, 104, 105, 108, 100, 114, 101, 110]
 ·rw [e10]; exact h10
 by_cases e11 : s = [104, 101, 97, 100, 115]
 ·rw [e11]; exact h11
 by_cases e12 : s = [114, 111, 111, 116, 115]
 ·rw [e12]; exact h12
 by_cases e13 : s = [109, 101, 114, 103, 101, 115]
 ·rw [e13]; exact h13
 by_cases e14 : s = [98, 97, 115, 101, 115]
 ·rw [e14]; exact h14
 by_cases e15 : s = [116, 111, 117, 99, 104, 105, 110, 103]
 ·rw [e15]; exact h15
 by_cases e16 : s = [108, 97, 116, 101, 115, 116]
 ·rw [e16]; exact h16
 by_cases e17 : s = [98, 101, 102, 111, 114, 101]
 ·rw [e17]; exact h17
 by_cases e18 : s = [115, 105, 110, 99, 101]
 ·rw [e18]; exact h18
 by_cases e19 : s = [117, 110, 105, 111, 110]
 ·rw [e19]; exact h19
 by_cases e20 : s = [99, 111, 109, 109, 111, 110]
 ·rw [e20]; exact h20
 by_cases e21 : s = [99, 111, 117, 110, 116]
 ·rw [e21]; exact h21
 exact h0 ⟨e1, e2, e3, e4, e5, e6, e7, e8, e9, e10, e11, e12, e13, e14, e15, e16, e17, e18, e19, e20, e21⟩
theorem size93 : (Tryd.prog.info? 93).map (·.size) = some 4 := by kernel_rfl
theorem R_ints (W : World) (base : Nat) (xs : List Int) (hb : base ≤ W.heap.size) (hx : xs.length ≤ 9223372036854775807) : (Kd.int .i64).R 47 (W.alloc (.cells (xs.map (Value.int .i64)).toArray 47)) base (fun _ => True) (.slice (some ⟨W.heap.size, 0, none⟩) xs.length xs.length) xs := by
 refine Kd.R_of_own ?_ (fun _ _ => trivial)
 have h := World.ownsRow_lit (base := base) (e := 47) (size := 1) W (xs.map (Value.int .i64)).toArray xs.length hb hx (by simp)
 simpa [encs] using h
theorem R_ints2 (w : World) (o : Obj) (xs : List Int) (hx : xs.length ≤ 9223372036854775807) : (Kd.int .i64).R 47 ((w.alloc o).alloc (.cells (xs.map (Value.int .i64)).toArray 47)) w.heap.size (fun _ => True) (.slice (some ⟨w.heap.size + 1, 0, none⟩) xs.length xs.length) xs := by
 have h := R_ints (w.alloc o) w.heap.size xs (by rw [alloc_size]; omega) hx
 rw [alloc_size] at h
 exact h
/-- What faceOf answers. -/
def FaceP (a0 : ByteArray) (w : World) : Prop := Calls Tryd.prog 52 #[.string a0] w fun e w' => ∃ v2_ : Value, e = .returned (.tuple #[.agg #[.int .i64 (faceC (nameC a0.toList)).1, .int .i64 (faceC (nameC a0.toList)).2.1, v2_, .int .i64 (faceC (nameC a0.toList)).2.2.2.1], .bool (faceC (nameC a0.toList)).2.2.2.2]) ∧ Kd.R (Kd.int .i64) 47 w' w.heap.size (fun _ => True) v2_ (faceC (nameC a0.toList)).2.2.1 ∧ Below w.heap.size w w'
set_option maxHeartbeats 2000000 in
set_option maxRecDepth 100000 in
theorem face_1 (a0 : ByteArray) (w : World) (hs : a0.toList = [97, 108, 108]) : FaceP a0 w := by
 unfold FaceP
 rw [show faceC (nameC a0.toList) = (0, 0, [], 1, true) from by rw [hs]; rfl]
 go_enter Tryd.func52, Tryd.ntmps52
 go_wp2
 exact bodyPost_ret (v := .tuple #[.agg #[.int .i64 0, .int .i64 0, .slice none 0 0, .int .i64 1], .bool true]) (results_ct Tryd.results52 _ _ w.heap.size 93 _ (0, 0) _ rfl (blk_new w _) Tryd.underlying93 rfl size93) rfl ⟨_, rfl, (Kd.R_nil _ _ _ _ _), (below_alloc (Below.refl _ _) _)⟩
set_option maxHeartbeats 2000000 in
set_option maxRecDepth 100000 in
theorem face_2 (a0 : ByteArray) (w : World) (hs : a0.toList = [110, 111, 110, 101]) : FaceP a0 w := by
 unfold FaceP
 rw [show faceC (nameC a0.toList) = (0, 0, [], 1, true) from by rw [hs]; rfl]
 go_enter Tryd.func52, Tryd.ntmps52
 go_wp2
 exact bodyPost_ret (v := .tuple #[.agg #[.int .i64 0, .int .i64 0, .slice none 0 0, .int .i64 1], .bool true]) (results_ct Tryd.results52 _ _ w.heap.size 93 _ (0, 0) _ rfl (blk_new w _) Tryd.underlying93 rfl size93) rfl ⟨_, rfl, (Kd.R_nil _ _ _ _ _), (below_alloc (Below.refl _ _) _)⟩
set_option maxHeartbeats 2000000 in
set_option maxRecDepth 100000 in
theorem face_3 (a0 : ByteArray) (w : World) (hs : a0.toList = [114, 101, 102, 115]) : FaceP a0 w := by
 unfold FaceP
 rw [show faceC (nameC a0.toList) = (0, 0, [], 1, true) from by rw [hs]; rfl]
 go_enter Tryd.func52, Tryd.ntmps52
 go_wp2
 exact bodyPost_ret (v := .tuple #[.agg #[.int .i64 0, .int .i64 0, .slice none 0 0, .int .i64 1], .bool true]) (results_ct Tryd.results52 _ _ w.heap.size 93 _ (0, 0) _ rfl (blk_new w _) Tryd.underlying93 rfl size93) rfl ⟨_, rfl, (Kd.R_nil _ _ _ _ _), (below_alloc (Below.refl _ _) _)⟩
set_option maxHeartbeats 2000000 in
set_option maxRecDepth 100000 in
theorem face_4 (a0 : ByteArray) (w : World) (hs : a0.toList = [116, 97, 103, 115]) : FaceP a0 w := by
 unfold FaceP
 rw [show faceC (nameC a0.toList) = (0, 0, [], 1, true) from by rw [hs]; rfl]
 go_enter Tryd.func52, Tryd.ntmps52
 go_wp2
 exact bodyPost_ret (v := .tuple #[.agg #[.int .i64 0, .int .i64 0, .slice none 0 0, .int .i64 1], .bool true]) (results_ct Tryd.results52 _ _ w.heap.size 93 _ (0, 0) _ rfl (blk_new w _) Tryd.underlying93 rfl size93) rfl ⟨_, rfl, (Kd.R_nil _ _ _ _ _), (below_alloc (Below.refl _ _) _)⟩
set_option maxHeartbeats 2000000 in
set_option maxRecDepth 100000 in
theorem face_5 (a0 : ByteArray) (w : World) (hs : a0.toList = [114, 101, 102]) : FaceP a0 w := by
 unfold FaceP
 rw [show faceC (nameC a0.toList) = (1, 1, [3], 1, true) from by rw [hs]; rfl]
 go_enter Tryd.func52, Tryd.ntmps52
 go_wp2
 exact bodyPost_ret (v := .tuple #[.agg #[.int .i64 1, .int .i64 1, .slice (some ⟨w.heap.size + 1, 0, none⟩) 1 1, .int .i64 1], .bool true]) (results_ct Tryd.results52 _ _ w.heap.size 93 _ (0, 0) _ rfl (blk_alloc (blk_new w _) _) Tryd.underlying93 rfl size93) rfl ⟨_, rfl, (R_ints2 w _ [3] (by decide)), (below_alloc (below_alloc (Below.refl _ _) _) _)⟩
set_option maxHeartbeats 2000000 in
set_option maxRecDepth 100000 in
theorem face_6 (a0 : ByteArray) (w : World) (hs : a0.toList = [116, 97, 103]) : FaceP a0 w := by
 unfold FaceP
 rw [show faceC (nameC a0.toList) = (1, 1, [3], 1, true) from by rw [hs]; rfl]
 go_enter Tryd.func52, Tryd.ntmps52
 go_wp2
 exact bodyPost_ret (v := .tuple #[.agg #[.int .i64 1, .int .i64 1, .slice (some ⟨w.heap.size + 1, 0, none⟩) 1 1, .int .i64 1], .bool true]) (results_ct Tryd.results52 _ _ w.heap.size 93 _ (0, 0) _ rfl (blk_alloc (blk_new w _) _) Tryd.underlying93 rfl size93) rfl ⟨_, rfl, (R_ints2 w _ [3] (by decide)), (below_alloc (below_alloc (Below.refl _ _) _) _)⟩
set_option maxHeartbeats 2000000 in
set_option maxRecDepth 100000 in
theorem face_7 (a0 : ByteArray) (w : World) (hs : a0.toList = [97, 110, 99, 101, 115, 116, 111, 114, 115]) : FaceP a0 w := by
 unfold FaceP
 rw [show faceC (nameC a0.toList) = (1, 2, [1, 2], 1, true) from by rw [hs]; rfl]
 go_enter Tryd.func52, Tryd.ntmps52
 go_wp2
 exact bodyPost_ret (v := .tuple #[.agg #[.int .i64 1, .int .i64 2, .slice (some ⟨w.heap.size + 1, 0, none⟩) 2 2, .int .i64 1], .bool true]) (results_ct Tryd.results52 _ _ w.heap.size 93 _ (0, 0) _ rfl (blk_alloc (blk_new w _) _) Tryd.underlying93 rfl size93) rfl ⟨_, rfl, (R_ints2 w _ [1, 2] (by decide)), (below_alloc (below_alloc (Below.refl _ _) _) _)⟩
set_option maxHeartbeats 2000000 in
set_option maxRecDepth 100000 in
theorem face_8 (a0 : ByteArray) (w : World) (hs : a0.toList = [100, 101, 115, 99, 101, 110, 100, 97, 110, 116, 115]) : FaceP a0 w := by
 unfold FaceP
 rw [show faceC (nameC a0.toList) = (1, 1, [1], 1, true) from by rw [hs]; rfl]
 go_enter Tryd.func52, Tryd.ntmps52
 go_wp2
 exact bodyPost_ret (v := .tuple #[.agg #[.int .i64 1, .int .i64 1, .slice (some ⟨w.heap.size + 1, 0, none⟩) 1 1, .int .i64 1], .bool true]) (results_ct Tryd.results52 _ _ w.heap.size 93 _ (0, 0) _ rfl (blk_alloc (blk_new w _) _) Tryd.underlying93 rfl size93) rfl ⟨_, rfl, (R_ints2 w _ [1] (by decide)), (below_alloc (below_alloc (Below.refl _ _) _) _)⟩
set_option maxHeartbeats 2000000 in
set_option maxRecDepth 100000 in
theorem face_9 (a0 : ByteArray) (w : World) (hs : a0.toList = [112, 97, 114, 101, 110, 116, 115]) : FaceP a0 w := by
 unfold FaceP
 rw [show faceC (nameC a0.toList) = (1, 1, [1], 1, true) from by rw [hs]; rfl]
 go_enter Tryd.func52, Tryd.ntmps52
 go_wp2
 exact bodyPost_ret (v := .tuple #[.agg #[.int .i64 1, .int .i64 1, .slice (some ⟨w.heap.size + 1, 0, none⟩) 1 1, .int .i64 1], .bool true]) (results_ct Tryd.results52 _ _ w.heap.size 93 _ (0, 0) _ rfl (blk_alloc (blk_new w _) _) Tryd.underlying93 rfl size93) rfl ⟨_, rfl, (R_ints2 w _ [1] (by decide)), (below_alloc (below_alloc (Below.refl _ _) _) _)⟩
set_option maxHeartbeats 2000000 in
set_option maxRecDepth 100000 in
theorem face_10 (a0 : ByteArray) (w : World) (hs : a0.toList = [99, 104, 105, 108, 100, 114, 101, 110]) : FaceP a0 w := by
 unfold FaceP
 rw [show faceC (nameC a0.toList) = (1, 1, [1], 1, true) from by rw [hs]; rfl]
 go_enter Tryd.func52, Tryd.ntmps52
 go_wp2
 exact bodyPost_ret (v := .tuple #[.agg #[.int .i64 1, .int .i64 1, .slice (some ⟨w.heap.size + 1, 0, none⟩) 1 1, .int .i64 1], .bool true]) (results_ct Tryd.results52 _ _ w.heap.size 93 _ (0, 0) _ rfl (blk_alloc (blk_new w _) _) Tryd.underlying93 rfl size93) rfl ⟨_, rfl, (R_ints2 w _ [1] (by decide)), (below_alloc (below_alloc (Below.refl _ _) _) _)⟩
set_option maxHeartbeats 2000000 in
set_option maxRecDepth 100000 in
theorem face_11 (a0 : ByteArray) (w : World) (hs : a0.toList = [104, 101, 97, 100, 115]) : FaceP a0 w := by
 unfold FaceP
 rw [show faceC (nameC a0.toList) = (1, 1, [1], 1, true) from by rw [hs]; rfl]
 go_enter Tryd.func52, Tryd.ntmps52
 go_wp2
 exact bodyPost_ret (v := .tuple #[.agg #[.int .i64 1, .int .i64 1, .slice (some ⟨w.heap.size + 1, 0, none⟩) 1 1, .int .i64 1], .bool true]) (results_ct Tryd.results52 _ _ w.heap.size 93 _ (0, 0) _ rfl (blk_alloc (blk_new w _) _) Tryd.underlying93 rfl size93) rfl ⟨_, rfl, (R_ints2 w _ [1] (by decide)), (below_alloc (below_alloc (Below.refl _ _) _) _)⟩
set_option maxHeartbeats 2000000 in
set_option maxRecDepth 100000 in
theorem face_12 (a0 : ByteArray) (w : World) (hs : a0.toList = [114, 111, 111, 116, 115]) : FaceP a0 w := by
 unfold FaceP
 rw [show faceC (nameC a0.toList) = (1, 1, [1], 1, true) from by rw [hs]; rfl]
 go_enter Tryd.func52, Tryd.ntmps52
 go_wp2
 exact bodyPost_ret (v := .tuple #[.agg #[.int .i64 1, .int .i64 1, .slice (some ⟨w.heap.size + 1, 0, none⟩) 1 1, .int .i64 1], .bool true]) (results_ct Tryd.results52 _ _ w.heap.size 93 _ (0, 0) _ rfl (blk_alloc (blk_new w _) _) Tryd.underlying93 rfl size93) rfl ⟨_, rfl, (R_ints2 w _ [1] (by decide)), (below_alloc (below_alloc (Below.refl _ _) _) _)⟩
set_option maxHeartbeats 2000000 in
set_option maxRecDepth 100000 in
theorem face_13 (a0 : ByteArray) (w : World) (hs : a0.toList = [109, 101, 114, 103, 101, 115]) : FaceP a0 w := by
 unfold FaceP
 rw [show faceC (nameC a0.toList) = (1, 1, [1], 1, true) from by rw [hs]; rfl]
 go_enter Tryd.func52, Tryd.ntmps52
 go_wp2
 exact bodyPost_ret (v := .tuple #[.agg #[.int .i64 1, .int .i64 1, .slice (some ⟨w.heap.size + 1, 0, none⟩) 1 1, .int .i64 1], .bool true]) (results_ct Tryd.results52 _ _ w.heap.size 93 _ (0, 0) _ rfl (blk_alloc (blk_new w _) _) Tryd.underlying93 rfl size93) rfl ⟨_, rfl, (R_ints2 w _ [1] (by decide)), (below_alloc (below_alloc (Below.refl _ _) _) _)⟩
set_option maxHeartbeats 2000000 in
set_option maxRecDepth 100000 in
theorem face_14 (a0 : ByteArray) (w : World) (hs : a0.toList = [98, 97, 115, 101, 115]) : FaceP a0 w := by
 unfold FaceP
 rw [show faceC (nameC a0.toList) = (1, 1, [1], 1, true) from by rw [hs]; rfl]
 go_enter Tryd.func52, Tryd.ntmps52
 go_wp2
 exact bodyPost_ret (v := .tuple #[.agg #[.int .i64 1, .int .i64 1, .slice (some ⟨w.heap.size + 1, 0, none⟩) 1 1, .int .i64 1], .bool true]) (results_ct Tryd.results52 _ _ w.heap.size 93 _ (0, 0) _ rfl (blk_alloc (blk_new w _) _) Tryd.underlying93 rfl size93) rfl ⟨_, rfl, (R_ints2 w _ [1] (by decide)), (below_alloc (below_alloc (Below.refl _ _) _) _)⟩
set_option maxHeartbeats 2000000 in
set_option maxRecDepth 100000 in
theorem face_15 (a0 : ByteArray) (w : World) (hs : a0.toList = [116, 111, 117, 99, 104, 105, 110, 103]) : FaceP a0 w := by
 unfold FaceP
 rw [show faceC (nameC a0.toList) = (2, 2, [1, 3], 1, true) from by rw [hs]; rfl]
 go_enter Tryd.func52, Tryd.ntmps52
 go_wp2
 exact bodyPost_ret (v := .tuple #[.agg #[.int .i64 2, .int .i64 2, .slice (some ⟨w.heap.size + 1, 0, none⟩) 2 2, .int .i64 1], .bool true]) (results_ct Tryd.results52 _ _ w.heap.size 93 _ (0, 0) _ rfl (blk_alloc (blk_new w _) _) Tryd.underlying93 rfl size93) rfl ⟨_, rfl, (R_ints2 w _ [1, 3] (by decide)), (below_alloc (below_alloc (Below.refl _ _) _) _)⟩
set_option maxHeartbeats 2000000 in
set_option maxRecDepth 100000 in
theorem face_16 (a0 : ByteArray) (w : World) (hs : a0.toList = [108, 97, 116, 101, 115, 116]) : FaceP a0 w := by
 unfold FaceP
 rw [show faceC (nameC a0.toList) = (2, 2, [1, 2], 1, true) from by rw [hs]; rfl]
 go_enter Tryd.func52, Tryd.ntmps52
 go_wp2
 exact bodyPost_ret (v := .tuple #[.agg #[.int .i64 2, .int .i64 2, .slice (some ⟨w.heap.size + 1, 0, none⟩) 2 2, .int .i64 1], .bool true]) (results_ct Tryd.results52 _ _ w.heap.size 93 _ (0, 0) _ rfl (blk_alloc (blk_new w _) _) Tryd.underlying93 rfl size93) rfl ⟨_, rfl, (R_ints2 w _ [1, 2] (by decide)), (below_alloc (below_alloc (Below.refl _ _) _) _)⟩
set_option maxHeartbeats 2000000 in
set_option maxRecDepth 100000 in
theorem face_17 (a0 : ByteArray) (w : World) (hs : a0.toList = [98, 101, 102, 111, 114, 101]) : FaceP a0 w := by
 unfold FaceP
 rw [show faceC (nameC a0.toList) = (2, 2, [1, 2], 1, true) from by rw [hs]; rfl]
 go_enter Tryd.func52, Tryd.ntmps52
 go_wp2
 exact bodyPost_ret (v := .tuple #[.agg #[.int .i64 2, .int .i64 2, .slice (some ⟨w.heap.size + 1, 0, none⟩) 2 2, .int .i64 1], .bool true]) (results_ct Tryd.results52 _ _ w.heap.size 93 _ (0, 0) _ rfl (blk_alloc (blk_new w _) _) Tryd.underlying93 rfl size93) rfl ⟨_, rfl, (R_ints2 w _ [1, 2] (by decide)), (below_alloc (below_alloc (Below.refl _ _) _) _)⟩
set_option maxHeartbeats 2000000 in
set_option maxRecDepth 100000 in
theorem face_18 (a0 : ByteArray) (w : World) (hs : a0.toList = [115, 105, 110, 99, 101]) : FaceP a0 w := by
 unfold FaceP
 rw [show faceC (nameC a0.toList) = (2, 2, [1, 2], 1, true) from by rw [hs]; rfl]
 go_enter Tryd.func52, Tryd.ntmps52
 go_wp2
 exact bodyPost_ret (v := .tuple #[.agg #[.int .i64 2, .int .i64 2, .slice (some ⟨w.heap.size + 1, 0, none⟩) 2 2, .int .i64 1], .bool true]) (results_ct Tryd.results52 _ _ w.heap.size 93 _ (0, 0) _ rfl (blk_alloc (blk_new w _) _) Tryd.underlying93 rfl size93) rfl ⟨_, rfl, (R_ints2 w _ [1, 2] (by decide)), (below_alloc (below_alloc (Below.refl _ _) _) _)⟩
set_option maxHeartbeats 2000000 in
set_option maxRecDepth 100000 in
theorem face_19 (a0 : ByteArray) (w : World) (hs : a0.toList = [117, 110, 105, 111, 110]) : FaceP a0 w := by
 unfold FaceP
 rw [show faceC (nameC a0.toList) = (1, 1073741824, [1], 1, true) from by rw [hs]; rfl]
 go_enter Tryd.func52, Tryd.ntmps52
 go_wp2
 exact bodyPost_ret (v := .tuple #[.agg #[.int .i64 1, .int .i64 1073741824, .slice (some ⟨w.heap.size + 1, 0, none⟩) 1 1, .int .i64 1], .bool true]) (results_ct Tryd.results52 _ _ w.heap.size 93 _ (0, 0) _ rfl (blk_alloc (blk_new w _) _) Tryd.underlying93 rfl size93) rfl ⟨_, rfl, (R_ints2 w _ [1] (by decide)), (below_alloc (below_alloc (Below.refl _ _) _) _)⟩
set_option maxHeartbeats 2000000 in
set_option maxRecDepth 100000 in
theorem face_20 (a0 : ByteArray) (w : World) (hs : a0.toList = [99, 111, 109, 109, 111, 110]) : FaceP a0 w := by
 unfold FaceP
 rw [show faceC (nameC a0.toList) = (1, 1073741824, [1], 1, true) from by rw [hs]; rfl]
 go_enter Tryd.func52, Tryd.ntmps52
 go_wp2
 exact bodyPost_ret (v := .tuple #[.agg #[.int .i64 1, .int .i64 1073741824, .slice (some ⟨w.heap.size + 1, 0, none⟩) 1 1, .int .i64 1], .bool true]) (results_ct Tryd.results52 _ _ w.heap.size 93 _ (0, 0) _ rfl (blk_alloc (blk_new w _) _) Tryd.underlying93 rfl size93) rfl ⟨_, rfl, (R_ints2 w _ [1] (by decide)), (below_alloc (below_alloc (Below.refl _ _) _) _)⟩
set_option maxHeartbeats 2000000 in
set_option maxRecDepth 100000 in
theorem face_21 (a0 : ByteArray) (w : World) (hs : a0.toList = [99, 111, 117, 110, 116]) : FaceP a0 w := by
 unfold FaceP
 rw [show faceC (nameC a0.toList) = (1, 1, [1], 2, true) from by rw [hs]; rfl]
 go_enter Tryd.func52, Tryd.ntmps52
 go_wp2
 exact bodyPost_ret (v := .tuple #[.agg #[.int .i64 1, .int .i64 1, .slice (some ⟨w.heap.size + 1, 0, none⟩) 1 1, .int .i64 2], .bool true]) (results_ct Tryd.results52 _ _ w.heap.size 93 _ (0, 0) _ rfl (blk_alloc (blk_new w _) _) Tryd.underlying93 rfl size93) rfl ⟨_, rfl, (R_ints2 w _ [1] (by decide)), (below_alloc (below_alloc (Below.refl _ _) _) _)⟩
set_option maxHeartbeats 2000000 in
set_option maxRecDepth 100000 in
theorem face_0 (a0 : ByteArray) (w : World) (g1 : ¬ a0.toList = [97, 108, 108]) (g2 : ¬ a0.toList = [110, 111, 110, 101]) (g3 : ¬ a0.toList = [114, 101, 102, 115]) (g4 : ¬ a0.toList = [116, 97, 103, 115]) (g5 : ¬ a0.toList = [114, 101, 102]) (g6 : ¬ a0.toList = [116, 97, 103]) (g7 : ¬ a0.toList = [97, 110, 99, 101, 115, 116, 111, 114, 115]) (g8 : ¬ a0.toList = [100, 101, 115, 99, 101, 110, 100, 97, 110, 116, 115]) (g9 : ¬ a0.toList = [112, 97, 114, 101, 110, 116, 115]) (g10 : ¬ a0.toList = [99, 104, 105, 108, 100, 114, 101, 110]) (g11 : ¬ a0.toList = [104, 101, 97, 100, 115]) (g12 : ¬ a0.toList = [114, 111, 111, 116, 115]) (g13 : ¬ a0.toList = [109, 101, 114, 103, 101, 115]) (g14 : ¬ a0.toList = [98, 97, 115, 101, 115]) (g15 : ¬ a0.toList = [116, 111, 117, 99, 104, 105, 110, 103]) (g16 : ¬ a0.toList = [108, 97, 116, 101, 115, 116]) (g17 : ¬ a0.toList = [98, 101, 102, 111, 114, 101]) (g18 : ¬ a0.toList = [115, 105, 110, 99, 101]) (g19 : ¬ a0.toList = [117, 110, 105, 111, 110]) (g20 : ¬ a0.toList = [99, 111, 109, 109, 111, 110]) (g21 : ¬ a0.toList = [99, 111, 117, 110, 116]) : FaceP a0 w := by
 unfold FaceP
 rw [show faceC (nameC a0.toList) = (0, 0, [], 0, false) from by simp [nameC, faceC, *]]
 have q1 : (a0.toList == [97, 108, 108]) = false := beq_eq_false_iff_ne.2 g1
 have q2 : (a0.toList == [110, 111, 110, 101]) = false := beq_eq_false_iff_ne.2 g2
 have q3 : (a0.toList == [114, 101, 102, 115]) = false := beq_eq_false_iff_ne.2 g3
 have q4 : (a0.toList == [116, 97, 103, 115]) = false := beq_eq_false_iff_ne.2 g4
 have q5 : (a0.toList == [114, 101, 102]) = false := beq_eq_false_iff_ne.2 g5
 have q6 : (a0.toList == [116, 97, 103]) = false := beq_eq_false_iff_ne.2 g6
 have q7 : (a0.toList == [97, 110, 99, 101, 115, 116, 111, 114, 115]) = false := beq_eq_false_iff_ne.2 g7
 have q8 : (a0.toList == [100, 101, 115, 99, 101, 110, 100, 97, 110, 116, 115]) = false := beq_eq_false_iff_ne.2 g8
 have q9 : (a0.toList == [112, 97, 114, 101, 110, 116, 115]) = false := beq_eq_false_iff_ne.2 g9
 have q10 : (a0.toList == [99, 104, 105, 108, 100, 114, 101, 110]) = false := beq_eq_false_iff_ne.2 g10
 have q11 : (a0.toList == [104, 101, 97, 100, 115]) = false := beq_eq_false_iff_ne.2 g11
 have q12 : (a0.toList == [114, 111, 111, 116, 115]) = false := beq_eq_false_iff_ne.2 g12
 have q13 : (a0.toList == [109, 101, 114, 103, 101, 115]) = false := beq_eq_false_iff_ne.2 g13
 have q14 : (a0.toList == [98, 97, 115, 101, 115]) = false := beq_eq_false_iff_ne.2 g14
 have q15 : (a0.toList == [116, 111, 117, 99, 104, 105, 110, 103]) = false := beq_eq_false_iff_ne.2 g15
 have q16 : (a0.toList == [108, 97, 116, 101, 115, 116]) = false := beq_eq_false_iff_ne.2 g16
 have q17 : (a0.toList == [98, 101, 102, 111, 114, 101]) = false := beq_eq_false_iff_ne.2 g17
 have q18 : (a0.toList == [115, 105, 110, 99, 101]) = false := beq_eq_false_iff_ne.2 g18
 have q19 : (a0.toList == [117, 110, 105, 111, 110]) = false := beq_eq_false_iff_ne.2 g19
 have q20 : (a0.toList == [99, 111, 109, 109, 111, 110]) = false := beq_eq_false_iff_ne.2 g20
 have q21 : (a0.toList == [99, 111, 117, 110, 116]) = false := beq_eq_false_iff_ne.2 g21
 clear g1 g2 g3 g4 g5 g6 g7 g8 g9 g10 g11 g12 g13 g14 g15 g16 g17 g18 g19 g20 g21
 go_enter Tryd.func52, Tryd.ntmps52
 go_wp2
 exact bodyPost_ret (v := .tuple #[.agg #[.int .i64 0, .int .i64 0, .slice none 0 0, .int .i64 0], .bool false]) (results_ct Tryd.results52 _ _ w.heap.size 93 _ (0, 0) _ rfl (blk_new w _) Tryd.underlying93 rfl size93) rfl ⟨_, rfl, (Kd.R_nil _ _ _ _ _), (below_alloc (Below.refl _ _) _)⟩
theorem face_any (a0 : ByteArray) (w : World) : FaceP a0 w := by
 obtain ⟨s, hs⟩ : ∃ s, a0.toList = s := ⟨_, rfl⟩
 induction s using names_cases
 case h0 hh =>
  obtain ⟨e1, e2, e3, e4, e5, e6, e7, e8, e9, e10, e11, e12, e13, e14, e15, e16, e17, e18, e19, e20, e21⟩ := hh
  subst hs
  exact face_0 a0 w e1 e2 e3 e4 e5 e6 e7 e8 e9 e10 e11 e12 e13 e14 e15 e16 e17 e18 e19 e20 e21
 case h1 => exact face_1 a0 w hs
 case h2 => exact face_2 a0 w hs
 case h3 => exact face_3 a0 w hs
 case h4 => exact face_4 a0 w hs
 case h5 => exact face_5 a0 w hs
 case h6 => exact face_6 a0 w hs
 case h7 => exact face_7 a0 w hs
 case h8 => exact face_8 a0 w hs
 case h9 => exact face_9 a0 w hs
 case h10 => exact face_10 a0 w hs
 case h11 => exact face_11 a0 w hs
 case h12 => exact face_12 a0 w hs
 case h13 => exact face_13 a0 w hs
 case h14 => exact face_14 a0 w hs
 case h15 => exact face_15 a0 w hs
 case h16 => exact face_16 a0 w hs
 case h17 => exact face_17 a0 w hs
 case h18 => exact face_18 a0 w hs
 case h19 => exact face_19 a0 w hs
 case h20 => exact face_20 a0 w hs
 case h21 => exact face_21 a0 w hs
end Go.Proofs.YtfgfoofojofnmaaDoor.Q
