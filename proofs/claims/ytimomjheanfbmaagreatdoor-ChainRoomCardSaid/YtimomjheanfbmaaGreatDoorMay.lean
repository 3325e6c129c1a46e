import Derived.Test.YtimomjheanfbmaaGreatDoorMab
import Derived.Test.YtimomjheanfbmaaGreatDoorMac
import Derived.LoopN
import Derived.Test.YtimomjheanfbmaaGreatDoorMav
import Derived.Test.YtimomjheanfbmaaGreatDoorMax
set_option linter.unusedSimpArgs false
set_option linter.unusedVariables false
namespace Go.Proofs.YtimomjheanfbmaaGreatDoor
open Go.RowKit

/-- a sector of a sealed page -/
def sec (body : ByteArray) (stamp : Int) (i : Nat) : ByteArray := body.extract (56 * i) (56 * i + 56) ++ leS stamp 8
def hd (s : ByteArray) : ByteArray := s.extract 0 56
def tl (s : ByteArray) : ByteArray := s.extract 56 64
def tlSame (s t : ByteArray) : Bool := (s.extract 56 64).toList == (t.extract 56 64).toList
def frOpen (s0 s1 s2 s3 : ByteArray) : ByteArray × Int × Int :=
  if s0.size ≠ 64 then (⟨#[]⟩, 0, 1)
  else if s1.size ≠ 64 then (⟨#[]⟩, 0, 1)
  else if tlSame s1 s0 = false then (⟨#[]⟩, 0, 30)
  else if s2.size ≠ 64 then (⟨#[]⟩, 0, 1)
  else if tlSame s2 s0 = false then (⟨#[]⟩, 0, 30)
  else if s3.size ≠ 64 then (⟨#[]⟩, 0, 1)
  else if tlSame s3 s0 = false then (⟨#[]⟩, 0, 30)
  else (hd s0 ++ hd s1 ++ hd s2 ++ hd s3, valS (tl s0), 0)

set_option maxHeartbeats 800000 in
theorem frm_seal_bad (body : ByteArray) (stamp : Int) (h : body.size ≠ 224) (hs : body.size ≤ maxLen) (w : World) :
    Calls Tryz.prog 124 #[.string body, .int .u64 stamp] w fun e w' => e = .returned (.tuple #[.agg #[.string ⟨#[]⟩, .string ⟨#[]⟩, .string ⟨#[]⟩, .string ⟨#[]⟩], .int .i64 1]) ∧ Below w.heap.size w w' := by
  have h1 : ((body.size : Int) != 224) = true := by simp; omega
  unfold maxLen at hs
  clear h
  go_enter Tryz.func124, Tryz.ntmps124
  go_wp2
  refine bodyPost_ret (v := .tuple #[.agg #[.string ⟨#[]⟩, .string ⟨#[]⟩, .string ⟨#[]⟩, .string ⟨#[]⟩], .int .i64 1]) (by simp [results, Tryz.results124, go_sem]) rfl ⟨rfl, ?_⟩
  repeat (first | exact bR | apply bD | apply bA)
set_option maxHeartbeats 800000 in
theorem frm_seal_ok (body : ByteArray) (stamp : Int) (h : body.size = 224) (h0 : 0 ≤ stamp) (w : World) :
    Calls Tryz.prog 124 #[.string body, .int .u64 stamp] w fun e w' =>
      e = .returned (.tuple #[.agg #[.string (sec body stamp 0), .string (sec body stamp 1), .string (sec body stamp 2), .string (sec body stamp 3)], .int .i64 0]) ∧ Below w.heap.size w w' := by
  have HN := Lib.hid (oct_num_ok stamp 8 (by omega) (by omega) h0 (fun h => by omega))
  have hm : (leS stamp (8 : Int).toNat).size = 8 := leS_size _ _
  have hsec : ∀ i, sec body stamp i = body.extract (56 * i) (56 * i + 56) ++ leS stamp (8 : Int).toNat := fun i => rfl
  simp only [hsec, Nat.reduceMul, Nat.reduceAdd]
  generalize leS stamp (8 : Int).toNat = M at *
  have h' : (body.size : Int) = 224 := by omega
  clear hsec
  go_enter Tryz.func124, Tryz.ntmps124
  go_wp2_with fail
  refine (HN.out _).mono ?_
  rintro e w1 ⟨rfl, hb1⟩
  have b0 : w1.heap[w.heap.size]? = some (.cells #[.string ⟨#[]⟩, .string ⟨#[]⟩, .string ⟨#[]⟩, .string ⟨#[]⟩] 221 (0, 0)) := hBs hb1 (hO (hN rfl))
  have b1 : w1.heap[w.heap.size + 1]? = some (.cells #[.string ⟨#[]⟩, .string ⟨#[]⟩, .string ⟨#[]⟩, .string ⟨#[]⟩] 221 (0, 0)) := hBs hb1 (hN (by simp))
  have c00 := cell_at b0 0
  have c01 := cell_at b0 1
  have c02 := cell_at b0 2
  have c03 := cell_at b0 3
  have f00 := free_at b0 0
  have f01 := free_at b0 1
  have f02 := free_at b0 2
  have f03 := free_at b0 3
  have c10 := cell_at b1 0
  have c11 := cell_at b1 1
  have c12 := cell_at b1 2
  have c13 := cell_at b1 3
  have f10 := free_at b1 0
  have f11 := free_at b1 1
  have f12 := free_at b1 2
  have f13 := free_at b1 3
  have HB1 := Lib.hid (bT (bA (bA bR)) hb1)
  clear hb1 b0 b1
  go_wp2_with fail
  refine wp_loop_rounds 5 ?_
  rw [rounds_succ]
  go_wp2_with fail
  rw [rounds_succ]
  go_wp2_with fail
  rw [rounds_succ]
  go_wp2_with fail
  rw [rounds_succ]
  go_wp2_with fail
  rw [rounds_succ]
  go_wp2_with fail
  refine bodyPost_ret (v := .tuple #[.agg #[.string (body.extract 0 56 ++ M), .string (body.extract 56 112 ++ M), .string (body.extract 112 168 ++ M), .string (body.extract 168 224 ++ M)], .int .i64 0]) (by simp [results, Tryz.results124, go_sem, c00, c01, c02, c03]) rfl ⟨rfl, ?_⟩
  repeat (first | (with_reducible exact HB1.out) | (with_reducible apply bD) | (with_reducible apply bA) | (with_reducible refine bS ?_ (by simp)))


/-- the tests that a page that is read goes through -/
def T64 (s : ByteArray) : Prop := s.size = 64
theorem open_cases (s0 s1 s2 s3 : ByteArray) :
    (s0.size ≠ 64 ∧ frOpen s0 s1 s2 s3 = (⟨#[]⟩, 0, 1)) ∨
    (s0.size = 64 ∧ s1.size ≠ 64 ∧ frOpen s0 s1 s2 s3 = (⟨#[]⟩, 0, 1)) ∨
    (s0.size = 64 ∧ s1.size = 64 ∧ tlSame s1 s0 = false ∧ frOpen s0 s1 s2 s3 = (⟨#[]⟩, 0, 30)) ∨
    (s0.size = 64 ∧ s1.size = 64 ∧ tlSame s1 s0 = true ∧ s2.size ≠ 64 ∧ frOpen s0 s1 s2 s3 = (⟨#[]⟩, 0, 1)) ∨
    (s0.size = 64 ∧ s1.size = 64 ∧ tlSame s1 s0 = true ∧ s2.size = 64 ∧ tlSame s2 s0 = false ∧ frOpen s0 s1 s2 s3 = (⟨#[]⟩, 0, 30)) ∨
    (s0.size = 64 ∧ s1.size = 64 ∧ tlSame s1 s0 = true ∧ s2.size = 64 ∧ tlSame s2 s0 = true ∧ s3.size ≠ 64 ∧ frOpen s0 s1 s2 s3 = (⟨#[]⟩, 0, 1)) ∨
    (s0.size = 64 ∧ s1.size = 64 ∧ tlSame s1 s0 = true ∧ s2.size = 64 ∧ tlSame s2 s0 = true ∧ s3.size = 64 ∧ tlSame s3 s0 = false ∧ frOpen s0 s1 s2 s3 = (⟨#[]⟩, 0, 30)) ∨
    (s0.size = 64 ∧ s1.size = 64 ∧ tlSame s1 s0 = true ∧ s2.size = 64 ∧ tlSame s2 s0 = true ∧ s3.size = 64 ∧ tlSame s3 s0 = true ∧ frOpen s0 s1 s2 s3 = (hd s0 ++ hd s1 ++ hd s2 ++ hd s3, valS (tl s0), 0)) := by
  unfold frOpen
  by_cases h0 : s0.size = 64 <;> by_cases h1 : s1.size = 64 <;> by_cases h2 : s2.size = 64 <;> by_cases h3 : s3.size = 64 <;>
    cases t1 : tlSame s1 s0 <;> cases t2 : tlSame s2 s0 <;> cases t3 : tlSame s3 s0 <;> simp [h0, h1, h2, h3]
set_option maxHeartbeats 1600000 in
theorem frm_open (s0 s1 s2 s3 : ByteArray) (z0 : s0.size ≤ maxLen) (z1 : s1.size ≤ maxLen) (z2 : s2.size ≤ maxLen) (z3 : s3.size ≤ maxLen) (w : World) :
    Calls Tryz.prog 121 #[.agg #[.string s0, .string s1, .string s2, .string s3]] w fun e w' =>
      e = .returned (.tuple #[.string (frOpen s0 s1 s2 s3).1, .int .u64 (frOpen s0 s1 s2 s3).2.1, .int .i64 (frOpen s0 s1 s2 s3).2.2]) ∧ Below w.heap.size w w' := by
  unfold maxLen at z0 z1 z2 z3
  have i0 : ∀ w, (Instr.index 221 (.agg #[.string s0, .string s1, .string s2, .string s3]) (.int .i64 0)).run Tryz.prog w = .ok (.string s0) w := fun _ => by kernel_rfl
  have i1 : ∀ w, (Instr.index 221 (.agg #[.string s0, .string s1, .string s2, .string s3]) (.int .i64 1)).run Tryz.prog w = .ok (.string s1) w := fun _ => by kernel_rfl
  have i2 : ∀ w, (Instr.index 221 (.agg #[.string s0, .string s1, .string s2, .string s3]) (.int .i64 2)).run Tryz.prog w = .ok (.string s2) w := fun _ => by kernel_rfl
  have i3 : ∀ w, (Instr.index 221 (.agg #[.string s0, .string s1, .string s2, .string s3]) (.int .i64 3)).run Tryz.prog w = .ok (.string s3) w := fun _ => by kernel_rfl
  rcases open_cases s0 s1 s2 s3 with ⟨h0, he⟩ | ⟨h0, h1, he⟩ | ⟨h0, h1, t1, he⟩ | ⟨h0, h1, t1, h2, he⟩ | ⟨h0, h1, t1, h2, t2, he⟩ | ⟨h0, h1, t1, h2, t2, h3, he⟩ | ⟨h0, h1, t1, h2, t2, h3, t3, he⟩ | ⟨h0, h1, t1, h2, t2, h3, t3, he⟩
  all_goals (rw [he]; clear he)
  · have h0' : ((s0.size : Int) != 64) = true := by simp; omega
    clear h0
    go_enter Tryz.func121, Tryz.ntmps121
    go_wp2_with fail
    refine wp_loop_rounds 5 ?_
    rw [rounds_succ]
    go_wp2_with fail
    go_ret3
    exact ⟨rfl, by repeat (first | (with_reducible exact bR) | (with_reducible apply bD) | (with_reducible apply bA))⟩
  · have h1' : ((s1.size : Int) != 64) = true := by simp; omega
    clear h1
    go_enter Tryz.func121, Tryz.ntmps121
    go_wp2_with fail
    refine wp_loop_rounds 5 ?_
    rw [rounds_succ]
    go_wp2_with fail
    go_region
    go_wp2_with fail
    rw [rounds_succ]
    go_wp2_with fail
    go_ret3
    exact ⟨rfl, by repeat (first | (with_reducible exact bR) | (with_reducible apply bD) | (with_reducible apply bA))⟩
  · unfold tlSame at t1
    go_enter Tryz.func121, Tryz.ntmps121
    go_wp2_with fail
    refine wp_loop_rounds 5 ?_
    rw [rounds_succ]
    go_wp2_with fail
    go_region
    go_wp2_with fail
    rw [rounds_succ]
    go_wp2_with fail
    go_region
    go_wp2_with fail
    go_ret3
    exact ⟨rfl, by repeat (first | (with_reducible exact bR) | (with_reducible apply bD) | (with_reducible apply bA))⟩
  · have h2' : ((s2.size : Int) != 64) = true := by simp; omega
    clear h2
    unfold tlSame at t1
    go_enter Tryz.func121, Tryz.ntmps121
    go_wp2_with fail
    refine wp_loop_rounds 5 ?_
    rw [rounds_succ]
    go_wp2_with fail
    go_region
    go_wp2_with fail
    rw [rounds_succ]
    go_wp2_with fail
    go_region
    go_wp2_with fail
    rw [rounds_succ]
    go_wp2_with fail
    go_ret3
    exact ⟨rfl, by repeat (first | (with_reducible exact bR) | (with_reducible apply bD) | (with_reducible apply bA))⟩
  · unfold tlSame at t1
    unfold tlSame at t2
    go_enter Tryz.func121, Tryz.ntmps121
    go_wp2_with fail
    refine wp_loop_rounds 5 ?_
    rw [rounds_succ]
    go_wp2_with fail
    go_region
    go_wp2_with fail
    rw [rounds_succ]
    go_wp2_with fail
    go_region
    go_wp2_with fail
    rw [rounds_succ]
    go_wp2_with fail
    go_region
    go_wp2_with fail
    go_ret3
    exact ⟨rfl, by repeat (first | (with_reducible exact bR) | (with_reducible apply bD) | (with_reducible apply bA))⟩
  · have h3' : ((s3.size : Int) != 64) = true := by simp; omega
    clear h3
    unfold tlSame at t1
    unfold tlSame at t2
    go_enter Tryz.func121, Tryz.ntmps121
    go_wp2_with fail
    refine wp_loop_rounds 5 ?_
    rw [rounds_succ]
    go_wp2_with fail
    go_region
    go_wp2_with fail
    rw [rounds_succ]
    go_wp2_with fail
    go_region
    go_wp2_with fail
    rw [rounds_succ]
    go_wp2_with fail
    go_region
    go_wp2_with fail
    rw [rounds_succ]
    go_wp2_with fail
    go_ret3
    exact ⟨rfl, by repeat (first | (with_reducible exact bR) | (with_reducible apply bD) | (with_reducible apply bA))⟩
  · unfold tlSame at t1
    unfold tlSame at t2
    unfold tlSame at t3
    go_enter Tryz.func121, Tryz.ntmps121
    go_wp2_with fail
    refine wp_loop_rounds 5 ?_
    rw [rounds_succ]
    go_wp2_with fail
    go_region
    go_wp2_with fail
    rw [rounds_succ]
    go_wp2_with fail
    go_region
    go_wp2_with fail
    rw [rounds_succ]
    go_wp2_with fail
    go_region
    go_wp2_with fail
    rw [rounds_succ]
    go_wp2_with fail
    go_region
    go_wp2_with fail
    go_ret3
    exact ⟨rfl, by repeat (first | (with_reducible exact bR) | (with_reducible apply bD) | (with_reducible apply bA))⟩
  · have HV := Lib.hid (fun w => oct_val_ok (s0.extract 56 64) (by rw [ByteArray.size_extract]; omega) (by rw [ByteArray.size_extract]; omega) w)
    unfold hd tl
    unfold tlSame at t1
    unfold tlSame at t2
    unfold tlSame at t3
    go_enter Tryz.func121, Tryz.ntmps121
    go_wp2_with fail
    refine wp_loop_rounds 5 ?_
    rw [rounds_succ]
    go_wp2_with fail
    go_region
    go_wp2_with fail
    rw [rounds_succ]
    go_wp2_with fail
    go_region
    go_wp2_with fail
    rw [rounds_succ]
    go_wp2_with fail
    go_region
    go_wp2_with fail
    rw [rounds_succ]
    go_wp2_with fail
    go_region
    go_wp2_with fail
    rw [rounds_succ]
    go_wp2_with fail
    refine (HV.out _).mono ?_
    rintro e w1 ⟨rfl, rfl⟩
    go_wp2_with fail
    go_ret3
    exact ⟨rfl, by repeat (first | (with_reducible exact bR) | (with_reducible apply bD) | (with_reducible apply bA))⟩

set_option maxHeartbeats 1600000 in
theorem rfm_open (s0 s1 s2 s3 : ByteArray) (z0 : s0.size ≤ maxLen) (z1 : s1.size ≤ maxLen) (z2 : s2.size ≤ maxLen) (z3 : s3.size ≤ maxLen) (w : World) :
    Calls Tryz.prog 127 #[.agg #[.string s0, .string s1, .string s2, .string s3]] w fun e w' =>
      e = .returned (.tuple #[.string (frOpen s0 s1 s2 s3).1, .int .u64 (frOpen s0 s1 s2 s3).2.1, .int .i64 (frOpen s0 s1 s2 s3).2.2]) ∧ Below w.heap.size w w' := by
  unfold maxLen at z0 z1 z2 z3
  rcases open_cases s0 s1 s2 s3 with ⟨h0, he⟩ | ⟨h0, h1, he⟩ | ⟨h0, h1, t1, he⟩ | ⟨h0, h1, t1, h2, he⟩ | ⟨h0, h1, t1, h2, t2, he⟩ | ⟨h0, h1, t1, h2, t2, h3, he⟩ | ⟨h0, h1, t1, h2, t2, h3, t3, he⟩ | ⟨h0, h1, t1, h2, t2, h3, t3, he⟩
  all_goals (rw [he]; clear he)
  · have h0' : ((s0.size : Int) != 64) = true := by simp; omega
    clear h0
    go_enter Tryz.func127, Tryz.ntmps127
    go_wp2_with fail
    refine wp_loop_rounds 5 ?_
    rw [rounds_succ]
    go_wp2_with fail
    go_ret3
    exact ⟨rfl, by repeat (first | (with_reducible exact bR) | (with_reducible apply bD) | (with_reducible apply bA))⟩
  · have h1' : ((s1.size : Int) != 64) = true := by simp; omega
    clear h1
    go_enter Tryz.func127, Tryz.ntmps127
    go_wp2_with fail
    refine wp_loop_rounds 5 ?_
    rw [rounds_succ]
    go_wp2_with fail
    go_region
    go_wp2_with fail
    rw [rounds_succ]
    go_wp2_with fail
    go_ret3
    exact ⟨rfl, by repeat (first | (with_reducible exact bR) | (with_reducible apply bD) | (with_reducible apply bA))⟩
  · unfold tlSame at t1
    go_enter Tryz.func127, Tryz.ntmps127
    go_wp2_with fail
    refine wp_loop_rounds 5 ?_
    rw [rounds_succ]
    go_wp2_with fail
    go_region
    go_wp2_with fail
    rw [rounds_succ]
    go_wp2_with fail
    go_region
    go_wp2_with fail
    go_ret3
    exact ⟨rfl, by repeat (first | (with_reducible exact bR) | (with_reducible apply bD) | (with_reducible apply bA))⟩
  · have h2' : ((s2.size : Int) != 64) = true := by simp; omega
    clear h2
    unfold tlSame at t1
    go_enter Tryz.func127, Tryz.ntmps127
    go_wp2_with fail
    refine wp_loop_rounds 5 ?_
    rw [rounds_succ]
    go_wp2_with fail
    go_region
    go_wp2_with fail
    rw [rounds_succ]
    go_wp2_with fail
    go_region
    go_wp2_with fail
    rw [rounds_succ]
    go_wp2_with fail
    go_ret3
    exact ⟨rfl, by repeat (first | (with_reducible exact bR) | (with_reducible apply bD) | (with_reducible apply bA))⟩
  · unfold tlSame at t1
    unfold tlSame at t2
    go_enter Tryz.func127, Tryz.ntmps127
    go_wp2_with fail
    refine wp_loop_rounds 5 ?_
    rw [rounds_succ]
    go_wp2_with fail
    go_region
    go_wp2_with fail
    rw [rounds_succ]
    go_wp2_with fail
    go_region
    go_wp2_with fail
    rw [rounds_succ]
    go_wp2_with fail
    go_region
    go_wp2_with fail
    go_ret3
    exact ⟨rfl, by repeat (first | (with_reducible exact bR) | (with_reducible apply bD) | (with_reducible apply bA))⟩
  · have h3' : ((s3.size : Int) != 64) = true := by simp; omega
    clear h3
    unfold tlSame at t1
    unfold tlSame at t2
    go_enter Tryz.func127, Tryz.ntmps127
    go_wp2_with fail
    refine wp_loop_rounds 5 ?_
    rw [rounds_succ]
    go_wp2_with fail
    go_region
    go_wp2_with fail
    rw [rounds_succ]
    go_wp2_with fail
    go_region
    go_wp2_with fail
    rw [rounds_succ]
    go_wp2_with fail
    go_region
    go_wp2_with fail
    rw [rounds_succ]
    go_wp2_with fail
    go_ret3
    exact ⟨rfl, by repeat (first | (with_reducible exact bR) | (with_reducible apply bD) | (with_reducible apply bA))⟩
  · unfold tlSame at t1
    unfold tlSame at t2
    unfold tlSame at t3
    go_enter Tryz.func127, Tryz.ntmps127
    go_wp2_with fail
    refine wp_loop_rounds 5 ?_
    rw [rounds_succ]
    go_wp2_with fail
    go_region
    go_wp2_with fail
    rw [rounds_succ]
    go_wp2_with fail
    go_region
    go_wp2_with fail
    rw [rounds_succ]
    go_wp2_with fail
    go_region
    go_wp2_with fail
    rw [rounds_succ]
    go_wp2_with fail
    go_region
    go_wp2_with fail
    go_ret3
    exact ⟨rfl, by repeat (first | (with_reducible exact bR) | (with_reducible apply bD) | (with_reducible apply bA))⟩
  · have HV := Lib.hid (fun w => ref_val_ok (s0.extract 56 64) (by rw [ByteArray.size_extract]; omega) (by rw [ByteArray.size_extract]; omega) w)
    unfold hd tl
    unfold tlSame at t1
    unfold tlSame at t2
    unfold tlSame at t3
    go_enter Tryz.func127, Tryz.ntmps127
    go_wp2_with fail
    refine wp_loop_rounds 5 ?_
    rw [rounds_succ]
    go_wp2_with fail
    go_region
    go_wp2_with fail
    rw [rounds_succ]
    go_wp2_with fail
    go_region
    go_wp2_with fail
    rw [rounds_succ]
    go_wp2_with fail
    go_region
    go_wp2_with fail
    rw [rounds_succ]
    go_wp2_with fail
    go_region
    go_wp2_with fail
    rw [rounds_succ]
    go_wp2_with fail
    refine (HV.out _).mono ?_
    rintro e w1 ⟨rfl, rfl⟩
    go_wp2_with fail
    go_ret3
    exact ⟨rfl, by repeat (first | (with_reducible exact bR) | (with_reducible apply bD) | (with_reducible apply bA))⟩
end Go.Proofs.YtimomjheanfbmaaGreatDoor

namespace Go.Proofs.YtimomjheanfbmaaGreatDoor
open Go.RowKit

/-! ### a pool, and where it lies -/
structure Slot where
  id : Int
  P : Pg
  st : Int
  dirty : Bool
  warm : Bool
def slC (s : Slot) : List Value := .int .i64 s.id :: ((pgC s.P).toList ++ [.int .i64 s.st, .bool s.dirty, .bool s.warm])
def slV : List Slot → List Value
  | [] => []
  | s :: l => slC s ++ slV l
def slBlank : Slot := { id := -1, P := pageZ, st := 0, dirty := false, warm := false }
theorem slC_length (s : Slot) : (slC s).length = 20 := rfl
theorem slV_length : ∀ l : List Slot, (slV l).length = l.length * 20
  | [] => rfl
  | s :: l => by rw [slV, List.length_append, slC_length, slV_length l, List.length_cons]; omega
theorem slV_append : ∀ l m : List Slot, slV (l ++ m) = slV l ++ slV m
  | [], m => rfl
  | s :: l, m => by rw [List.cons_append, slV, slV, slV_append l m, List.append_assoc]
theorem slV_get : ∀ (l : List Slot) (i j : Nat), j < 20 → (slV l)[20 * i + j]? = (l[i]?).bind (fun s => (slC s)[j]?)
  | [], i, j, hj => by simp [slV]
  | s :: l, 0, j, hj => by
    rw [slV, List.getElem?_append_left (by rw [slC_length]; omega)]
    simp
  | s :: l, i + 1, j, hj => by
    rw [slV, List.getElem?_append_right (by rw [slC_length]; omega), slC_length, show 20 * (i + 1) + j - 20 = 20 * i + j by omega, slV_get l i j hj]
    simp
theorem slV_set : ∀ (l : List Slot) (i j : Nat) (s s' : Slot) (u : Value), l[i]? = some s → j < 20 → (slC s).set j u = slC s' → (slV l).set (20 * i + j) u = slV (l.set i s')
  | [], i, j, s, s', u, h, _, _ => by simp at h
  | x :: l, 0, j, s, s', u, h, hj, he => by
    simp only [List.getElem?_cons_zero, Option.some.injEq] at h
    subst h
    rw [slV, List.set_append_left _ _ (by rw [slC_length]; omega), show 20 * 0 + j = j by omega, he]
    rfl
  | x :: l, i + 1, j, s, s', u, h, hj, he => by
    rw [slV, List.set_append_right _ _ (by rw [slC_length]; omega), slC_length, show 20 * (i + 1) + j - 20 = 20 * i + j by omega, slV_set l i j s s' u (by simpa using h) hj he]
    rfl
def setL : List Value → Nat → List Value → List Value
  | xs, _, [] => xs
  | xs, o, v :: vs => setL (xs.set o v) (o + 1) vs
theorem setL_eq : ∀ (vs A B C : List Value), B.length = vs.length → setL (A ++ (B ++ C)) A.length vs = A ++ (vs ++ C)
  | [], A, B, C, h => by
    have : B = [] := List.eq_nil_of_length_eq_zero h
    subst this
    rfl
  | v :: vs, A, [], C, h => by simp at h
  | v :: vs, A, b :: B, C, h => by
    have e : (A ++ (b :: B ++ C)).set A.length v = (A ++ [v]) ++ (B ++ C) := by
      rw [List.set_append_right _ _ (Nat.le_refl _), Nat.sub_self]
      simp
    have e2 : A.length + 1 = (A ++ [v]).length := by simp
    rw [setL, e, e2, setL_eq vs (A ++ [v]) B C (by simpa using h)]
    simp
theorem slV_put (l : List Slot) (i : Nat) (s : Slot) (hi : i < l.length) : setL (slV l) (20 * i) (slC s) = slV (l.set i s) := by
  have e1 : l = l.take i ++ (l[i] :: l.drop (i + 1)) := by
    rw [← List.drop_eq_getElem_cons hi, List.take_append_drop]
  have e2 : l.set i s = l.take i ++ (s :: l.drop (i + 1)) := by
    rw [List.set_eq_take_append_cons_drop, if_pos hi]
  have hl : (slV (l.take i)).length = 20 * i := by rw [slV_length, List.length_take]; omega
  rw [e2, slV_append, slV]
  conv => lhs; rw [e1, slV_append, slV, ← hl]
  exact setL_eq (slC s) (slV (l.take i)) (slC l[i]) (slV (l.drop (i + 1))) (by rw [slC_length, slC_length])
theorem OwnS.cells {w : World} {e : TypeId} {size g n c : Nat} {xs : List Value} (h : OwnS w e size (.slice (some ⟨g, 0, none⟩) n c) n xs) : ∀ (vs : List Value) (o : Nat),
    OwnS (w.setCells g o vs) e size (.slice (some ⟨g, 0, none⟩) n c) n (setL xs o vs) := by
  intro vs
  induction vs generalizing w xs with
  | nil => exact fun o => h
  | cons v vs ih => exact fun o => ih (h.set o v) (o + 1)
theorem Keeps.setCells {S : Nat → Prop} {a : World} {b : Nat} (hb : S b ∨ a.heap.size ≤ b) : ∀ (vs : List Value) (o : Nat) {w : World}, Keeps S a w → Keeps S a (w.setCells b o vs)
  | [], o, w, h => h
  | v :: vs, o, w, h => Keeps.setCells hb vs (o + 1) (h.setCell ⟨b, o, none⟩ v hb)
structure Pl where
  base : Nat
  pages : Nat
  room : Nat
  slots : List Slot
  hand : Nat
def plC (dp lp : Nat) (X : Pl) (sv : Value) : Array Value := #[.pointer (some ⟨dp, 0, none⟩), .pointer (some ⟨lp, 0, none⟩), .int .i64 X.base, .int .i64 X.pages, .int .i64 X.room, sv, .int .i64 X.hand]
/-- a slot that is used -/
def SlOk (pages : Nat) (s : Slot) : Prop := 0 ≤ s.id ∧ s.id < pages ∧ PgOk s.P ∧ 0 ≤ s.st ∧ s.st ≤ 1152921504606846976
def PlOk (X : Pl) : Prop := X.base ≤ 16384 ∧ 1 ≤ X.pages ∧ X.pages ≤ 1024 ∧ 4 ≤ X.room ∧ X.room ≤ 256 ∧ X.slots.length ≤ X.room ∧ X.hand < X.room ∧ ∀ s ∈ X.slots, s.dirty = true → SlOk X.pages s
def PoolAt (w : World) (p dp lp : Nat) (X : Pl) (sv : Value) (S : List Nat) : Prop := PlOk X ∧ w.heap[p]? = some (.cells (plC dp lp X sv) 161 (0, 0)) ∧ OwnS w 166 20 sv X.slots.length (slV X.slots) ∧ S = p :: blk sv ∧ S.Nodup
theorem PoolAt.keep {R : Nat → Prop} {w w' : World} {p dp lp : Nat} {X : Pl} {sv : Value} {S : List Nat} (h : PoolAt w p dp lp X sv S) (hk : Keeps R w w') (hS : ∀ k ∈ S, ¬ R k) : PoolAt w' p dp lp X sv S := by
  obtain ⟨hok, h1, h2, rfl, h6⟩ := h
  exact ⟨hok, hk.keep h1 (hS _ (by simp)), h2.keep hk (fun k hkk => hS k (by simp [hkk])), rfl, h6⟩
theorem PoolAt.later {w w' : World} {p dp lp : Nat} {X : Pl} {sv : Value} {S : List Nat} (h : PoolAt w p dp lp X sv S) (hb : Below w.heap.size w w') : PoolAt w' p dp lp X sv S := h.keep (Keeps.of_below (fun _ => False) hb) (fun _ _ => id)
theorem PoolAt.lt {w : World} {p dp lp : Nat} {X : Pl} {sv : Value} {S : List Nat} (h : PoolAt w p dp lp X sv S) : ∀ k ∈ S, k < w.heap.size := by
  obtain ⟨hok, h1, h2, rfl, h6⟩ := h
  intro k hk
  simp only [List.mem_cons] at hk
  rcases hk with rfl | hk
  · exact block_lt h1
  · exact h2.lt hk
end Go.Proofs.YtimomjheanfbmaaGreatDoor

namespace Go.Proofs.YtimomjheanfbmaaGreatDoor
open Go.RowKit

/-! ### plain law: a page goes to a device -/
def Dev.wr (D : Dev) (b : Nat) (P : Pg) (st : Int) : Nat → Dev × Int
  | 0 => (D, 0)
  | i + 1 => if (D.wr b P st i).2 ≠ 0 then D.wr b P st i else (D.wr b P st i).1.write ((b + i : Nat) : Int) (sec (pageS P) st i)
theorem page_sec_size {s : ByteArray} (hs : s.size = 224) (st : Int) {i : Nat} (hi : i < 4) : (sec s st i).size = 64 := by
  unfold sec
  rw [ByteArray.size_append, ByteArray.size_extract, leS_size, hs]; omega
theorem wr_next {D : Dev} {b : Nat} {P : Pg} {st : Int} {i : Nat} (h : (D.wr b P st i).2 = 0) : D.wr b P st (i + 1) = (D.wr b P st i).1.write ((b + i : Nat) : Int) (sec (pageS P) st i) := by
  rw [Dev.wr, if_neg (by rw [h]; decide)]
theorem wr_stuck {D : Dev} {b : Nat} {P : Pg} {st : Int} {i : Nat} (h : (D.wr b P st i).2 ≠ 0) : D.wr b P st (i + 1) = D.wr b P st i := by
  rw [Dev.wr, if_pos h]
/-- what is the same behind it -/
structure WrLaw (D : Dev) (b : Nat) (P : Pg) (st : Int) (k : Nat) (D' : Dev) (c : Int) : Prop where
  ok : DevOk D'
  len : D'.firm.length = D.firm.length
  code : (c = 20 ∧ D'.down = true) ∨ (c = 0 ∧ (0 < k → D'.down = false ∧ D.down = false) ∧ (k = 0 → D' = D))
  on : c = 0 → ∀ p, p < D.firm.length → D'.seen.getD p ⟨#[]⟩ = if b ≤ p ∧ p < b + k then sec (pageS P) st (p - b) else D.seen.getD p ⟨#[]⟩
  all : ∀ Q : Nat → ByteArray → Prop, AllP Q D → (∀ j, j < k → Q (b + j) (sec (pageS P) st j)) → AllP Q D'
  soft : D'.soft.length ≤ D.soft.length + k
  up : D.up → D'.up ∧ c = 0
  dead : D.down = true → D' = D
theorem wr_law {D : Dev} {b : Nat} {P : Pg} (st : Int) (hok : DevOk D) (hP : PgOk P) : ∀ k, k ≤ 4 → b + k ≤ D.firm.length → WrLaw D b P st k (D.wr b P st k).1 (D.wr b P st k).2
  | 0, _, _ => ⟨hok, rfl, .inr ⟨rfl, fun h => absurd h (by omega), fun _ => rfl⟩, fun _ p hp => by rw [if_neg (by omega)]; rfl, fun Q h _ => h, Nat.le_refl _, fun h => ⟨h, rfl⟩, fun _ => rfl⟩
  | k + 1, hk, hb => by
    have ih := wr_law (D := D) (b := b) (P := P) st hok hP k (by omega) (by omega)
    have hsz := page_sec_size (pageS_size hP) st (show k < 4 by omega)
    generalize hE : D.wr b P st k = E at ih
    obtain ⟨E, c⟩ := E
    dsimp only at ih
    rcases ih.code with ⟨hc, hdn⟩ | ⟨hc, hdn, hz⟩
    · rw [wr_stuck (by rw [hE]; show c ≠ 0; omega), hE]
      exact ⟨ih.ok, ih.len, .inl ⟨hc, hdn⟩, fun h => absurd (show (20 : Int) = 0 from hc ▸ h) (by decide), fun Q h1 h2 => ih.all Q h1 (fun j hj => h2 j (by omega)), by have := ih.soft; show E.soft.length ≤ _; omega, fun h => absurd ((ih.up h).2) (by omega), ih.dead⟩
    · subst hc
      rw [wr_next (by rw [hE]), hE]
      have hlt : ((b + k : Nat) : Int) < E.firm.length := by rw [ih.len]; omega
      have hl := write_len E ((b + k : Nat) : Int) (sec (pageS P) st k)
      have hok' := Dev.write_ok ih.ok ((b + k : Nat) : Int) (sec (pageS P) st k)
      have hall : ∀ Q : Nat → ByteArray → Prop, AllP Q D → (∀ j, j < k + 1 → Q (b + j) (sec (pageS P) st j)) → AllP Q (E.write ((b + k : Nat) : Int) (sec (pageS P) st k)).1 := fun Q h1 h2 =>
        (ih.all Q h1 (fun j hj => h2 j (by omega))).write _ _ (by omega) hlt hsz ih.ok.2.2.1 (by rw [Int.toNat_natCast]; exact h2 k (by omega))
      have hdead : D.down = true → (E.write ((b + k : Nat) : Int) (sec (pageS P) st k)).1 = D := fun h => by
        rw [ih.dead h]; unfold Dev.write; rw [if_pos h]
      have hup : D.up → (E.write ((b + k : Nat) : Int) (sec (pageS P) st k)).1.up ∧ (E.write ((b + k : Nat) : Int) (sec (pageS P) st k)).2 = 0 := fun h => by
        have h1 := up_write_up (ih.up h).1 ((b + k : Nat) : Int) (sec (pageS P) st k)
        exact ⟨h1.1, by
          rcases write_cases E ((b + k : Nat) : Int) (sec (pageS P) st k) (by omega) hlt hsz with ⟨_, _, hd⟩ | ⟨_, hc, _⟩
          · exact absurd hd (by rw [h1.1.2]; decide)
          · exact hc⟩
      rcases write_cases E ((b + k : Nat) : Int) (sec (pageS P) st k) (by omega) hlt hsz with ⟨c1, c2, c3⟩ | ⟨c0, c1, c2, c3, c4, c5⟩
      · exact ⟨hok', by rw [hl.1, ih.len], .inl ⟨c1, c3⟩, fun h => absurd (show (20 : Int) = 0 from c1 ▸ h) (by decide), hall, by rw [c2.2.2]; have := ih.soft; omega, hup, hdead⟩
      · refine ⟨hok', by rw [hl.1, ih.len], .inr ⟨c1, fun _ => ⟨c5, ?_⟩, fun h => by omega⟩, fun _ p hp => ?_, hall, by rw [c4, List.length_append]; have := ih.soft; simp only [List.length_singleton]; omega, hup, hdead⟩
        · cases hD : D.down with
          | false => rfl
          | true => rw [← ih.dead hD, c0] at hD; cases hD
        · rw [c3, Int.toNat_natCast, getD_set _ _ _ _ _ (by rw [ih.ok.2.2.1, ih.len]; exact hp), ih.on rfl p hp]
          by_cases h1 : b + k = p
          · subst h1
            rw [if_pos rfl, if_pos (by omega), show b + k - b = k by omega]
          · rw [if_neg h1]
            by_cases h2 : b ≤ p ∧ p < b + k
            · rw [if_pos h2, if_pos (by omega)]
            · rw [if_neg h2, if_neg (by omega)]
end Go.Proofs.YtimomjheanfbmaaGreatDoor
