import Derived.Test.YtgeoblejfkoldaaOctet
import Derived.Test.YtgeoblejfkoldaaLibC
import Derived.LoopN
set_option linter.unusedSimpArgs false
set_option linter.unusedVariables false
namespace Go.Proofs.Ytgeoblejfkoldaa
open Go.RowKit

/-- a sector of a sealed page -/
def sec (body : ByteArray) (stamp : Int) (i : Nat) : ByteArray := body.extract (56 * i) (56 * i + 56) ++ leS stamp 8
def hd (s : ByteArray) : ByteArray := s.extract 0 56
def tl (s : ByteArray) : ByteArray := s.extract 56 64
def tlSame (s t : ByteArray) : Bool := (s.extract 56 64).toList == (t.extract 56 64).toList
def frOpen (s0 s1 s2 s3 : ByteArray) : ByteArray × Int × Int :=
  if s0.size ≠ 64 then (⟨#[]⟩, 0, 1)
  else if s1.size ≠ 64 then (⟨#[]⟩, 0, 1)
  else if tlSame s1 s0 = false then (⟨#[]⟩, 0, 30)
  else if s2.size ≠ 64 then (⟨#[]⟩, 0, 1)
  else if tlSame s2 s0 = false then (⟨#[]⟩, 0, 30)
  else if s3.size ≠ 64 then (⟨#[]⟩, 0, 1)
  else if tlSame s3 s0 = false then (⟨#[]⟩, 0, 30)
  else (hd s0 ++ hd s1 ++ hd s2 ++ hd s3, valS (tl s0), 0)

set_option maxHeartbeats 800000 in
theorem frm_seal_bad (body : ByteArray) (stamp : Int) (h : body.size ≠ 224) (hs : body.size ≤ maxLen) (w : World) :
    Calls Try.prog 8 #[.string body, .int .u64 stamp] w fun e w' => e = .returned (.tuple #[.agg #[.string ⟨#[]⟩, .string ⟨#[]⟩, .string ⟨#[]⟩, .string ⟨#[]⟩], .int .i64 1]) ∧ Below w.heap.size w w' := by
  have h1 : ((body.size : Int) != 224) = true := by simp; omega
  unfold maxLen at hs
  clear h
  go_enter Try.func8, Try.ntmps8
  go_wp2
  refine bodyPost_ret (v := .tuple #[.agg #[.string ⟨#[]⟩, .string ⟨#[]⟩, .string ⟨#[]⟩, .string ⟨#[]⟩], .int .i64 1]) (by simp [results, Try.results8, go_sem]) rfl ⟨rfl, ?_⟩
  repeat (first | exact bR | apply bD | apply bA)
set_option maxHeartbeats 800000 in
theorem frm_seal_ok (body : ByteArray) (stamp : Int) (h : body.size = 224) (h0 : 0 ≤ stamp) (w : World) :
    Calls Try.prog 8 #[.string body, .int .u64 stamp] w fun e w' =>
      e = .returned (.tuple #[.agg #[.string (sec body stamp 0), .string (sec body stamp 1), .string (sec body stamp 2), .string (sec body stamp 3)], .int .i64 0]) ∧ Below w.heap.size w w' := by
  have HN := Lib.hid (oct_num_ok stamp 8 (by omega) (by omega) h0 (fun h => by omega))
  have hm : (leS stamp (8 : Int).toNat).size = 8 := leS_size _ _
  have hsec : ∀ i, sec body stamp i = body.extract (56 * i) (56 * i + 56) ++ leS stamp (8 : Int).toNat := fun i => rfl
  simp only [hsec, Nat.reduceMul, Nat.reduceAdd]
  generalize leS stamp (8 : Int).toNat = M at *
  have h' : (body.size : Int) = 224 := by omega
  clear hsec
  go_enter Try.func8, Try.ntmps8
  go_wp2_with fail
  refine (HN.out _).mono ?_
  rintro e w1 ⟨rfl, hb1⟩
  have b0 : w1.heap[w.heap.size]? = some (.cells #[.string ⟨#[]⟩, .string ⟨#[]⟩, .string ⟨#[]⟩, .string ⟨#[]⟩] 23 (0, 0)) := hBs hb1 (hO (hN rfl))
  have b1 : w1.heap[w.heap.size + 1]? = some (.cells #[.string ⟨#[]⟩, .string ⟨#[]⟩, .string ⟨#[]⟩, .string ⟨#[]⟩] 23 (0, 0)) := hBs hb1 (hN (by simp))
  have c00 := cell_at b0 0
  have c01 := cell_at b0 1
  have c02 := cell_at b0 2
  have c03 := cell_at b0 3
  have f00 := free_at b0 0
  have f01 := free_at b0 1
  have f02 := free_at b0 2
  have f03 := free_at b0 3
  have c10 := cell_at b1 0
  have c11 := cell_at b1 1
  have c12 := cell_at b1 2
  have c13 := cell_at b1 3
  have f10 := free_at b1 0
  have f11 := free_at b1 1
  have f12 := free_at b1 2
  have f13 := free_at b1 3
  have HB1 := Lib.hid (bT (bA (bA bR)) hb1)
  clear hb1 b0 b1
  go_wp2_with fail
  refine wp_loop_rounds 5 ?_
  rw [rounds_succ]
  go_wp2_with fail
  rw [rounds_succ]
  go_wp2_with fail
  rw [rounds_succ]
  go_wp2_with fail
  rw [rounds_succ]
  go_wp2_with fail
  rw [rounds_succ]
  go_wp2_with fail
  refine bodyPost_ret (v := .tuple #[.agg #[.string (body.extract 0 56 ++ M), .string (body.extract 56 112 ++ M), .string (body.extract 112 168 ++ M), .string (body.extract 168 224 ++ M)], .int .i64 0]) (by simp [results, Try.results8, go_sem, c00, c01, c02, c03]) rfl ⟨rfl, ?_⟩
  repeat (first | (with_reducible exact HB1.out) | (with_reducible apply bD) | (with_reducible apply bA) | (with_reducible refine bS ?_ (by simp)))

set_option maxHeartbeats 800000 in
theorem rfm_seal_bad (body : ByteArray) (stamp : Int) (h : body.size ≠ 224) (hs : body.size ≤ maxLen) (w : World) :
    Calls Try.prog 9 #[.string body, .int .u64 stamp] w fun e w' => e = .returned (.tuple #[.agg #[.string ⟨#[]⟩, .string ⟨#[]⟩, .string ⟨#[]⟩, .string ⟨#[]⟩], .int .i64 1]) ∧ Below w.heap.size w w' := by
  have h1 : ((body.size : Int) != 224) = true := by simp; omega
  unfold maxLen at hs
  clear h
  go_enter Try.func9, Try.ntmps9
  go_wp2
  refine bodyPost_ret (v := .tuple #[.agg #[.string ⟨#[]⟩, .string ⟨#[]⟩, .string ⟨#[]⟩, .string ⟨#[]⟩], .int .i64 1]) (by simp [results, Try.results9, go_sem]) rfl ⟨rfl, ?_⟩
  repeat (first | exact bR | apply bD | apply bA)
set_option maxHeartbeats 800000 in
theorem rfm_seal_ok (body : ByteArray) (stamp : Int) (h : body.size = 224) (h0 : 0 ≤ stamp) (h64 : Hid (stamp < 18446744073709551616)) (w : World) :
    Calls Try.prog 9 #[.string body, .int .u64 stamp] w fun e w' =>
      e = .returned (.tuple #[.agg #[.string (sec body stamp 0), .string (sec body stamp 1), .string (sec body stamp 2), .string (sec body stamp 3)], .int .i64 0]) ∧ Below w.heap.size w w' := by
  have HN := Lib.hid (ref_num_ok stamp 8 (by omega) (by omega) h0 h64)
  have hm : (leS stamp (8 : Int).toNat).size = 8 := leS_size _ _
  have hsec : ∀ i, sec body stamp i = body.extract (56 * i) (56 * i + 56) ++ leS stamp (8 : Int).toNat := fun i => rfl
  simp only [hsec, Nat.reduceMul, Nat.reduceAdd]
  generalize leS stamp (8 : Int).toNat = M at *
  have h' : (body.size : Int) = 224 := by omega
  clear hsec
  go_enter Try.func9, Try.ntmps9
  go_wp2_with fail
  refine (HN.out _).mono ?_
  rintro e w1 ⟨rfl, hb1⟩
  have b0 : w1.heap[w.heap.size]? = some (.cells #[.string ⟨#[]⟩, .string ⟨#[]⟩, .string ⟨#[]⟩, .string ⟨#[]⟩] 23 (0, 0)) := hBs hb1 (hO (hN rfl))
  have b1 : w1.heap[w.heap.size + 1]? = some (.cells #[.string ⟨#[]⟩, .string ⟨#[]⟩, .string ⟨#[]⟩, .string ⟨#[]⟩] 23 (0, 0)) := hBs hb1 (hN (by simp))
  have c00 := cell_at b0 0
  have c01 := cell_at b0 1
  have c02 := cell_at b0 2
  have c03 := cell_at b0 3
  have f00 := free_at b0 0
  have f01 := free_at b0 1
  have f02 := free_at b0 2
  have f03 := free_at b0 3
  have c10 := cell_at b1 0
  have c11 := cell_at b1 1
  have c12 := cell_at b1 2
  have c13 := cell_at b1 3
  have f10 := free_at b1 0
  have f11 := free_at b1 1
  have f12 := free_at b1 2
  have f13 := free_at b1 3
  have HB1 := Lib.hid (bT (bA (bA bR)) hb1)
  clear hb1 b0 b1
  go_wp2_with fail
  refine wp_loop_rounds 5 ?_
  rw [rounds_succ]
  go_wp2_with fail
  rw [rounds_succ]
  go_wp2_with fail
  rw [rounds_succ]
  go_wp2_with fail
  rw [rounds_succ]
  go_wp2_with fail
  rw [rounds_succ]
  go_wp2_with fail
  refine bodyPost_ret (v := .tuple #[.agg #[.string (body.extract 0 56 ++ M), .string (body.extract 56 112 ++ M), .string (body.extract 112 168 ++ M), .string (body.extract 168 224 ++ M)], .int .i64 0]) (by simp [results, Try.results9, go_sem, c00, c01, c02, c03]) rfl ⟨rfl, ?_⟩
  repeat (first | (with_reducible exact HB1.out) | (with_reducible apply bD) | (with_reducible apply bA) | (with_reducible refine bS ?_ (by simp)))

/-- the tests that a page that is read goes through -/
def T64 (s : ByteArray) : Prop := s.size = 64
theorem open_cases (s0 s1 s2 s3 : ByteArray) :
    (s0.size ≠ 64 ∧ frOpen s0 s1 s2 s3 = (⟨#[]⟩, 0, 1)) ∨
    (s0.size = 64 ∧ s1.size ≠ 64 ∧ frOpen s0 s1 s2 s3 = (⟨#[]⟩, 0, 1)) ∨
    (s0.size = 64 ∧ s1.size = 64 ∧ tlSame s1 s0 = false ∧ frOpen s0 s1 s2 s3 = (⟨#[]⟩, 0, 30)) ∨
    (s0.size = 64 ∧ s1.size = 64 ∧ tlSame s1 s0 = true ∧ s2.size ≠ 64 ∧ frOpen s0 s1 s2 s3 = (⟨#[]⟩, 0, 1)) ∨
    (s0.size = 64 ∧ s1.size = 64 ∧ tlSame s1 s0 = true ∧ s2.size = 64 ∧ tlSame s2 s0 = false ∧ frOpen s0 s1 s2 s3 = (⟨#[]⟩, 0, 30)) ∨
    (s0.size = 64 ∧ s1.size = 64 ∧ tlSame s1 s0 = true ∧ s2.size = 64 ∧ tlSame s2 s0 = true ∧ s3.size ≠ 64 ∧ frOpen s0 s1 s2 s3 = (⟨#[]⟩, 0, 1)) ∨
    (s0.size = 64 ∧ s1.size = 64 ∧ tlSame s1 s0 = true ∧ s2.size = 64 ∧ tlSame s2 s0 = true ∧ s3.size = 64 ∧ tlSame s3 s0 = false ∧ frOpen s0 s1 s2 s3 = (⟨#[]⟩, 0, 30)) ∨
    (s0.size = 64 ∧ s1.size = 64 ∧ tlSame s1 s0 = true ∧ s2.size = 64 ∧ tlSame s2 s0 = true ∧ s3.size = 64 ∧ tlSame s3 s0 = true ∧ frOpen s0 s1 s2 s3 = (hd s0 ++ hd s1 ++ hd s2 ++ hd s3, valS (tl s0), 0)) := by
  unfold frOpen
  by_cases h0 : s0.size = 64 <;> by_cases h1 : s1.size = 64 <;> by_cases h2 : s2.size = 64 <;> by_cases h3 : s3.size = 64 <;>
    cases t1 : tlSame s1 s0 <;> cases t2 : tlSame s2 s0 <;> cases t3 : tlSame s3 s0 <;> simp [h0, h1, h2, h3]
set_option maxHeartbeats 1600000 in
theorem frm_open (s0 s1 s2 s3 : ByteArray) (z0 : s0.size ≤ maxLen) (z1 : s1.size ≤ maxLen) (z2 : s2.size ≤ maxLen) (z3 : s3.size ≤ maxLen) (w : World) :
    Calls Try.prog 10 #[.agg #[.string s0, .string s1, .string s2, .string s3]] w fun e w' =>
      e = .returned (.tuple #[.string (frOpen s0 s1 s2 s3).1, .int .u64 (frOpen s0 s1 s2 s3).2.1, .int .i64 (frOpen s0 s1 s2 s3).2.2]) ∧ Below w.heap.size w w' := by
  unfold maxLen at z0 z1 z2 z3
  have i0 : ∀ w, (Instr.index 23 (.agg #[.string s0, .string s1, .string s2, .string s3]) (.int .i64 0)).run Try.prog w = .ok (.string s0) w := fun _ => by kernel_rfl
  have i1 : ∀ w, (Instr.index 23 (.agg #[.string s0, .string s1, .string s2, .string s3]) (.int .i64 1)).run Try.prog w = .ok (.string s1) w := fun _ => by kernel_rfl
  have i2 : ∀ w, (Instr.index 23 (.agg #[.string s0, .string s1, .string s2, .string s3]) (.int .i64 2)).run Try.prog w = .ok (.string s2) w := fun _ => by kernel_rfl
  have i3 : ∀ w, (Instr.index 23 (.agg #[.string s0, .string s1, .string s2, .string s3]) (.int .i64 3)).run Try.prog w = .ok (.string s3) w := fun _ => by kernel_rfl
  rcases open_cases s0 s1 s2 s3 with ⟨h0, he⟩ | ⟨h0, h1, he⟩ | ⟨h0, h1, t1, he⟩ | ⟨h0, h1, t1, h2, he⟩ | ⟨h0, h1, t1, h2, t2, he⟩ | ⟨h0, h1, t1, h2, t2, h3, he⟩ | ⟨h0, h1, t1, h2, t2, h3, t3, he⟩ | ⟨h0, h1, t1, h2, t2, h3, t3, he⟩
  all_goals (rw [he]; clear he)
  · have h0' : ((s0.size : Int) != 64) = true := by simp; omega
    clear h0
    go_enter Try.func10, Try.ntmps10
    go_wp2_with fail
    refine wp_loop_rounds 5 ?_
    rw [rounds_succ]
    go_wp2_with fail
    go_ret3
    exact ⟨rfl, by repeat (first | (with_reducible exact bR) | (with_reducible apply bD) | (with_reducible apply bA))⟩
  · have h1' : ((s1.size : Int) != 64) = true := by simp; omega
    clear h1
    go_enter Try.func10, Try.ntmps10
    go_wp2_with fail
    refine wp_loop_rounds 5 ?_
    rw [rounds_succ]
    go_wp2_with fail
    go_region
    go_wp2_with fail
    rw [rounds_succ]
    go_wp2_with fail
    go_ret3
    exact ⟨rfl, by repeat (first | (with_reducible exact bR) | (with_reducible apply bD) | (with_reducible apply bA))⟩
  · unfold tlSame at t1
    go_enter Try.func10, Try.ntmps10
    go_wp2_with fail
    refine wp_loop_rounds 5 ?_
    rw [rounds_succ]
    go_wp2_with fail
    go_region
    go_wp2_with fail
    rw [rounds_succ]
    go_wp2_with fail
    go_region
    go_wp2_with fail
    go_ret3
    exact ⟨rfl, by repeat (first | (with_reducible exact bR) | (with_reducible apply bD) | (with_reducible apply bA))⟩
  · have h2' : ((s2.size : Int) != 64) = true := by simp; omega
    clear h2
    unfold tlSame at t1
    go_enter Try.func10, Try.ntmps10
    go_wp2_with fail
    refine wp_loop_rounds 5 ?_
    rw [rounds_succ]
    go_wp2_with fail
    go_region
    go_wp2_with fail
    rw [rounds_succ]
    go_wp2_with fail
    go_region
    go_wp2_with fail
    rw [rounds_succ]
    go_wp2_with fail
    go_ret3
    exact ⟨rfl, by repeat (first | (with_reducible exact bR) | (with_reducible apply bD) | (with_reducible apply bA))⟩
  · unfold tlSame at t1
    unfold tlSame at t2
    go_enter Try.func10, Try.ntmps10
    go_wp2_with fail
    refine wp_loop_rounds 5 ?_
    rw [rounds_succ]
    go_wp2_with fail
    go_region
    go_wp2_with fail
    rw [rounds_succ]
    go_wp2_with fail
    go_region
    go_wp2_with fail
    rw [rounds_succ]
    go_wp2_with fail
    go_region
    go_wp2_with fail
    go_ret3
    exact ⟨rfl, by repeat (first | (with_reducible exact bR) | (with_reducible apply bD) | (with_reducible apply bA))⟩
  · have h3' : ((s3.size : Int) != 64) = true := by simp; omega
    clear h3
    unfold tlSame at t1
    unfold tlSame at t2
    go_enter Try.func10, Try.ntmps10
    go_wp2_with fail
    refine wp_loop_rounds 5 ?_
    rw [rounds_succ]
    go_wp2_with fail
    go_region
    go_wp2_with fail
    rw [rounds_succ]
    go_wp2_with fail
    go_region
    go_wp2_with fail
    rw [rounds_succ]
    go_wp2_with fail
    go_region
    go_wp2_with fail
    rw [rounds_succ]
    go_wp2_with fail
    go_ret3
    exact ⟨rfl, by repeat (first | (with_reducible exact bR) | (with_reducible apply bD) | (with_reducible apply bA))⟩
  · unfold tlSame at t1
    unfold tlSame at t2
    unfold tlSame at t3
    go_enter Try.func10, Try.ntmps10
    go_wp2_with fail
    refine wp_loop_rounds 5 ?_
    rw [rounds_succ]
    go_wp2_with fail
    go_region
    go_wp2_with fail
    rw [rounds_succ]
    go_wp2_with fail
    go_region
    go_wp2_with fail
    rw [rounds_succ]
    go_wp2_with fail
    go_region
    go_wp2_with fail
    rw [rounds_succ]
    go_wp2_with fail
    go_region
    go_wp2_with fail
    go_ret3
    exact ⟨rfl, by repeat (first | (with_reducible exact bR) | (with_reducible apply bD) | (with_reducible apply bA))⟩
  · have HV := Lib.hid (fun w => oct_val_ok (s0.extract 56 64) (by rw [ByteArray.size_extract]; omega) (by rw [ByteArray.size_extract]; omega) w)
    unfold hd tl
    unfold tlSame at t1
    unfold tlSame at t2
    unfold tlSame at t3
    go_enter Try.func10, Try.ntmps10
    go_wp2_with fail
    refine wp_loop_rounds 5 ?_
    rw [rounds_succ]
    go_wp2_with fail
    go_region
    go_wp2_with fail
    rw [rounds_succ]
    go_wp2_with fail
    go_region
    go_wp2_with fail
    rw [rounds_succ]
    go_wp2_with fail
    go_region
    go_wp2_with fail
    rw [rounds_succ]
    go_wp2_with fail
    go_region
    go_wp2_with fail
    rw [rounds_succ]
    go_wp2_with fail
    refine (HV.out _).mono ?_
    rintro e w1 ⟨rfl, rfl⟩
    go_wp2_with fail
    go_ret3
    exact ⟨rfl, by repeat (first | (with_reducible exact bR) | (with_reducible apply bD) | (with_reducible apply bA))⟩

set_option maxHeartbeats 1600000 in
theorem rfm_open (s0 s1 s2 s3 : ByteArray) (z0 : s0.size ≤ maxLen) (z1 : s1.size ≤ maxLen) (z2 : s2.size ≤ maxLen) (z3 : s3.size ≤ maxLen) (w : World) :
    Calls Try.prog 11 #[.agg #[.string s0, .string s1, .string s2, .string s3]] w fun e w' =>
      e = .returned (.tuple #[.string (frOpen s0 s1 s2 s3).1, .int .u64 (frOpen s0 s1 s2 s3).2.1, .int .i64 (frOpen s0 s1 s2 s3).2.2]) ∧ Below w.heap.size w w' := by
  unfold maxLen at z0 z1 z2 z3
  rcases open_cases s0 s1 s2 s3 with ⟨h0, he⟩ | ⟨h0, h1, he⟩ | ⟨h0, h1, t1, he⟩ | ⟨h0, h1, t1, h2, he⟩ | ⟨h0, h1, t1, h2, t2, he⟩ | ⟨h0, h1, t1, h2, t2, h3, he⟩ | ⟨h0, h1, t1, h2, t2, h3, t3, he⟩ | ⟨h0, h1, t1, h2, t2, h3, t3, he⟩
  all_goals (rw [he]; clear he)
  · have h0' : ((s0.size : Int) != 64) = true := by simp; omega
    clear h0
    go_enter Try.func11, Try.ntmps11
    go_wp2_with fail
    refine wp_loop_rounds 5 ?_
    rw [rounds_succ]
    go_wp2_with fail
    go_ret3
    exact ⟨rfl, by repeat (first | (with_reducible exact bR) | (with_reducible apply bD) | (with_reducible apply bA))⟩
  · have h1' : ((s1.size : Int) != 64) = true := by simp; omega
    clear h1
    go_enter Try.func11, Try.ntmps11
    go_wp2_with fail
    refine wp_loop_rounds 5 ?_
    rw [rounds_succ]
    go_wp2_with fail
    go_region
    go_wp2_with fail
    rw [rounds_succ]
    go_wp2_with fail
    go_ret3
    exact ⟨rfl, by repeat (first | (with_reducible exact bR) | (with_reducible apply bD) | (with_reducible apply bA))⟩
  · unfold tlSame at t1
    go_enter Try.func11, Try.ntmps11
    go_wp2_with fail
    refine wp_loop_rounds 5 ?_
    rw [rounds_succ]
    go_wp2_with fail
    go_region
    go_wp2_with fail
    rw [rounds_succ]
    go_wp2_with fail
    go_region
    go_wp2_with fail
    go_ret3
    exact ⟨rfl, by repeat (first | (with_reducible exact bR) | (with_reducible apply bD) | (with_reducible apply bA))⟩
  · have h2' : ((s2.size : Int) != 64) = true := by simp; omega
    clear h2
    unfold tlSame at t1
    go_enter Try.func11, Try.ntmps11
    go_wp2_with fail
    refine wp_loop_rounds 5 ?_
    rw [rounds_succ]
    go_wp2_with fail
    go_region
    go_wp2_with fail
    rw [rounds_succ]
    go_wp2_with fail
    go_region
    go_wp2_with fail
    rw [rounds_succ]
    go_wp2_with fail
    go_ret3
    exact ⟨rfl, by repeat (first | (with_reducible exact bR) | (with_reducible apply bD) | (with_reducible apply bA))⟩
  · unfold tlSame at t1
    unfold tlSame at t2
    go_enter Try.func11, Try.ntmps11
    go_wp2_with fail
    refine wp_loop_rounds 5 ?_
    rw [rounds_succ]
    go_wp2_with fail
    go_region
    go_wp2_with fail
    rw [rounds_succ]
    go_wp2_with fail
    go_region
    go_wp2_with fail
    rw [rounds_succ]
    go_wp2_with fail
    go_region
    go_wp2_with fail
    go_ret3
    exact ⟨rfl, by repeat (first | (with_reducible exact bR) | (with_reducible apply bD) | (with_reducible apply bA))⟩
  · have h3' : ((s3.size : Int) != 64) = true := by simp; omega
    clear h3
    unfold tlSame at t1
    unfold tlSame at t2
    go_enter Try.func11, Try.ntmps11
    go_wp2_with fail
    refine wp_loop_rounds 5 ?_
    rw [rounds_succ]
    go_wp2_with fail
    go_region
    go_wp2_with fail
    rw [rounds_succ]
    go_wp2_with fail
    go_region
    go_wp2_with fail
    rw [rounds_succ]
    go_wp2_with fail
    go_region
    go_wp2_with fail
    rw [rounds_succ]
    go_wp2_with fail
    go_ret3
    exact ⟨rfl, by repeat (first | (with_reducible exact bR) | (with_reducible apply bD) | (with_reducible apply bA))⟩
  · unfold tlSame at t1
    unfold tlSame at t2
    unfold tlSame at t3
    go_enter Try.func11, Try.ntmps11
    go_wp2_with fail
    refine wp_loop_rounds 5 ?_
    rw [rounds_succ]
    go_wp2_with fail
    go_region
    go_wp2_with fail
    rw [rounds_succ]
    go_wp2_with fail
    go_region
    go_wp2_with fail
    rw [rounds_succ]
    go_wp2_with fail
    go_region
    go_wp2_with fail
    rw [rounds_succ]
    go_wp2_with fail
    go_region
    go_wp2_with fail
    go_ret3
    exact ⟨rfl, by repeat (first | (with_reducible exact bR) | (with_reducible apply bD) | (with_reducible apply bA))⟩
  · have HV := Lib.hid (fun w => ref_val_ok (s0.extract 56 64) (by rw [ByteArray.size_extract]; omega) (by rw [ByteArray.size_extract]; omega) w)
    unfold hd tl
    unfold tlSame at t1
    unfold tlSame at t2
    unfold tlSame at t3
    go_enter Try.func11, Try.ntmps11
    go_wp2_with fail
    refine wp_loop_rounds 5 ?_
    rw [rounds_succ]
    go_wp2_with fail
    go_region
    go_wp2_with fail
    rw [rounds_succ]
    go_wp2_with fail
    go_region
    go_wp2_with fail
    rw [rounds_succ]
    go_wp2_with fail
    go_region
    go_wp2_with fail
    rw [rounds_succ]
    go_wp2_with fail
    go_region
    go_wp2_with fail
    rw [rounds_succ]
    go_wp2_with fail
    refine (HV.out _).mono ?_
    rintro e w1 ⟨rfl, rfl⟩
    go_wp2_with fail
    go_ret3
    exact ⟨rfl, by repeat (first | (with_reducible exact bR) | (with_reducible apply bD) | (with_reducible apply bA))⟩
end Go.Proofs.Ytgeoblejfkoldaa
