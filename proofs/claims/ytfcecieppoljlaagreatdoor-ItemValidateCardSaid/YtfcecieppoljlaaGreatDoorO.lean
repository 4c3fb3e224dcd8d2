/- Openers of the laws' parameters. No statement of the seat is proved here. Written by our program gen.py. -/
import Derived.Test.YtfcecieppoljlaaGreatDoorR2
import Derived.Test.YtfcecieppoljlaaGreatDoorTy
set_option maxRecDepth 100000
namespace Go.Proofs.YtfcecieppoljlaaGreatDoor
namespace SX
open Go
theorem op9 {H : Type} {eh : TypeId × Value → H} : Opens eh 9 eS := opens_str rfl
theorem op4 {H : Type} {eh : TypeId × Value → H} : Opens eh 4 eT := opens_bool rfl
theorem op3 {H : Type} {eh : TypeId × Value → H} : Opens eh 3 eI := opens_int rfl
theorem op23 {H : Type} {eh : TypeId × Value → H} : Opens eh 23 TItem.enc := fun W fuel cs x hx hw => by
  obtain ⟨xs, n, rfl, rfl, hl, hlen, hf⟩ := DataW.trod_struct (und_ok (t := 23) rfl) hx
  obtain ⟨x0, x1, x2, x3, x4, x5, x6, x7, rfl⟩ : ∃ x0 x1 x2 x3 x4 x5 x6 x7, xs = [x0, x1, x2, x3, x4, x5, x6, x7] := by
    match xs, hlen with
    | [a0, a1, a2, a3, a4, a5, a6, a7], _ => exact ⟨a0, a1, a2, a3, a4, a5, a6, a7, rfl⟩
  have hw2 : ∀ n ∈ DataW.weightsEach Tryz.prog [9, 9, 4, 3, 3, 3, 3, 3] [x0.1, x1.1, x2.1, x3.1, x4.1, x5.1, x6.1, x7.1], n ≤ reachBytes := fun n hn => hw n (by simp only [DataW.weights, und_ok (t := 23) rfl]; exact hn)
  simp only [DataW.weightsEach, List.mem_append] at hw2
  have g0 : DataW.trod eh Tryz.prog W 0 (fun _ => true) true n 9 ((cs.drop 0).take (Tryz.prog.cellsOf 9)) = some x0 := hf 0 _ rfl
  rw [(cellsOf_eq (t := 9) rfl).1] at g0
  obtain ⟨m0, r0, o0⟩ := op9 W n _ _ g0 (fun n hn => hw2 n (.inl hn))
  have g1 : DataW.trod eh Tryz.prog W 0 (fun _ => true) true n 9 ((cs.drop 1).take (Tryz.prog.cellsOf 9)) = some x1 := hf 1 _ rfl
  rw [(cellsOf_eq (t := 9) rfl).1] at g1
  obtain ⟨m1, r1, o1⟩ := op9 W n _ _ g1 (fun n hn => hw2 n (.inr (.inl hn)))
  have g2 : DataW.trod eh Tryz.prog W 0 (fun _ => true) true n 4 ((cs.drop 2).take (Tryz.prog.cellsOf 4)) = some x2 := hf 2 _ rfl
  rw [(cellsOf_eq (t := 4) rfl).1] at g2
  obtain ⟨m2, r2, o2⟩ := op4 W n _ _ g2 (fun n hn => hw2 n (.inr (.inr (.inl hn))))
  have g3 : DataW.trod eh Tryz.prog W 0 (fun _ => true) true n 3 ((cs.drop 3).take (Tryz.prog.cellsOf 3)) = some x3 := hf 3 _ rfl
  rw [(cellsOf_eq (t := 3) rfl).1] at g3
  obtain ⟨m3, r3, o3⟩ := op3 W n _ _ g3 (fun n hn => hw2 n (.inr (.inr (.inr (.inl hn)))))
  have g4 : DataW.trod eh Tryz.prog W 0 (fun _ => true) true n 3 ((cs.drop 4).take (Tryz.prog.cellsOf 3)) = some x4 := hf 4 _ rfl
  rw [(cellsOf_eq (t := 3) rfl).1] at g4
  obtain ⟨m4, r4, o4⟩ := op3 W n _ _ g4 (fun n hn => hw2 n (.inr (.inr (.inr (.inr (.inl hn))))))
  have g5 : DataW.trod eh Tryz.prog W 0 (fun _ => true) true n 3 ((cs.drop 5).take (Tryz.prog.cellsOf 3)) = some x5 := hf 5 _ rfl
  rw [(cellsOf_eq (t := 3) rfl).1] at g5
  obtain ⟨m5, r5, o5⟩ := op3 W n _ _ g5 (fun n hn => hw2 n (.inr (.inr (.inr (.inr (.inr (.inl hn)))))))
  have g6 : DataW.trod eh Tryz.prog W 0 (fun _ => true) true n 3 ((cs.drop 6).take (Tryz.prog.cellsOf 3)) = some x6 := hf 6 _ rfl
  rw [(cellsOf_eq (t := 3) rfl).1] at g6
  obtain ⟨m6, r6, o6⟩ := op3 W n _ _ g6 (fun n hn => hw2 n (.inr (.inr (.inr (.inr (.inr (.inr (.inl hn))))))))
  have g7 : DataW.trod eh Tryz.prog W 0 (fun _ => true) true n 3 ((cs.drop 7).take (Tryz.prog.cellsOf 3)) = some x7 := hf 7 _ rfl
  rw [(cellsOf_eq (t := 3) rfl).1] at g7
  obtain ⟨m7, r7, o7⟩ := op3 W n _ _ g7 (fun n hn => hw2 n (.inr (.inr (.inr (.inr (.inr (.inr (.inr (.inl hn)))))))))
  have hl2 : cs.length = 8 := hl.trans (cellsOf_eq (t := 23) rfl).1
  exact ⟨(⟨m0, m1, m2, m3, m4, m5, m6, m7⟩ : TItem), (rps_step (off := 0) r0 (rps_step (off := 1) r1 (rps_step (off := 2) r2 (rps_step (off := 3) r3 (rps_step (off := 4) r4 (rps_step (off := 5) r5 (rps_step (off := 6) r6 (rps_step (off := 7) r7 (rps_end hl2))))))))), (one_step (off := 0) o0 (one_step (off := 1) o1 (one_step (off := 2) o2 (one_step (off := 3) o3 (one_step (off := 4) o4 (one_step (off := 5) o5 (one_step (off := 6) o6 (one_step (off := 7) o7 (one_end hl2)))))))))⟩
theorem op24 {H : Type} {eh : TypeId × Value → H} : Opens eh 24 (eL eI) := opens_slice rfl rfl rfl rfl op3
theorem op42 {H : Type} {eh : TypeId × Value → H} : Opens eh 42 (eL eS) := opens_slice rfl rfl rfl rfl op9
theorem op44 {H : Type} {eh : TypeId × Value → H} : Opens eh 44 TDuty.enc := fun W fuel cs x hx hw => by
  obtain ⟨xs, n, rfl, rfl, hl, hlen, hf⟩ := DataW.trod_struct (und_ok (t := 44) rfl) hx
  obtain ⟨x0, x1, x2, x3, x4, x5, x6, rfl⟩ : ∃ x0 x1 x2 x3 x4 x5 x6, xs = [x0, x1, x2, x3, x4, x5, x6] := by
    match xs, hlen with
    | [a0, a1, a2, a3, a4, a5, a6], _ => exact ⟨a0, a1, a2, a3, a4, a5, a6, rfl⟩
  have hw2 : ∀ n ∈ DataW.weightsEach Tryz.prog [3, 3, 3, 4, 3, 4, 3] [x0.1, x1.1, x2.1, x3.1, x4.1, x5.1, x6.1], n ≤ reachBytes := fun n hn => hw n (by simp only [DataW.weights, und_ok (t := 44) rfl]; exact hn)
  simp only [DataW.weightsEach, List.mem_append] at hw2
  have g0 : DataW.trod eh Tryz.prog W 0 (fun _ => true) true n 3 ((cs.drop 0).take (Tryz.prog.cellsOf 3)) = some x0 := hf 0 _ rfl
  rw [(cellsOf_eq (t := 3) rfl).1] at g0
  obtain ⟨m0, r0, o0⟩ := op3 W n _ _ g0 (fun n hn => hw2 n (.inl hn))
  have g1 : DataW.trod eh Tryz.prog W 0 (fun _ => true) true n 3 ((cs.drop 1).take (Tryz.prog.cellsOf 3)) = some x1 := hf 1 _ rfl
  rw [(cellsOf_eq (t := 3) rfl).1] at g1
  obtain ⟨m1, r1, o1⟩ := op3 W n _ _ g1 (fun n hn => hw2 n (.inr (.inl hn)))
  have g2 : DataW.trod eh Tryz.prog W 0 (fun _ => true) true n 3 ((cs.drop 2).take (Tryz.prog.cellsOf 3)) = some x2 := hf 2 _ rfl
  rw [(cellsOf_eq (t := 3) rfl).1] at g2
  obtain ⟨m2, r2, o2⟩ := op3 W n _ _ g2 (fun n hn => hw2 n (.inr (.inr (.inl hn))))
  have g3 : DataW.trod eh Tryz.prog W 0 (fun _ => true) true n 4 ((cs.drop 3).take (Tryz.prog.cellsOf 4)) = some x3 := hf 3 _ rfl
  rw [(cellsOf_eq (t := 4) rfl).1] at g3
  obtain ⟨m3, r3, o3⟩ := op4 W n _ _ g3 (fun n hn => hw2 n (.inr (.inr (.inr (.inl hn)))))
  have g4 : DataW.trod eh Tryz.prog W 0 (fun _ => true) true n 3 ((cs.drop 4).take (Tryz.prog.cellsOf 3)) = some x4 := hf 4 _ rfl
  rw [(cellsOf_eq (t := 3) rfl).1] at g4
  obtain ⟨m4, r4, o4⟩ := op3 W n _ _ g4 (fun n hn => hw2 n (.inr (.inr (.inr (.inr (.inl hn))))))
  have g5 : DataW.trod eh Tryz.prog W 0 (fun _ => true) true n 4 ((cs.drop 5).take (Tryz.prog.cellsOf 4)) = some x5 := hf 5 _ rfl
  rw [(cellsOf_eq (t := 4) rfl).1] at g5
  obtain ⟨m5, r5, o5⟩ := op4 W n _ _ g5 (fun n hn => hw2 n (.inr (.inr (.inr (.inr (.inr (.inl hn)))))))
  have g6 : DataW.trod eh Tryz.prog W 0 (fun _ => true) true n 3 ((cs.drop 6).take (Tryz.prog.cellsOf 3)) = some x6 := hf 6 _ rfl
  rw [(cellsOf_eq (t := 3) rfl).1] at g6
  obtain ⟨m6, r6, o6⟩ := op3 W n _ _ g6 (fun n hn => hw2 n (.inr (.inr (.inr (.inr (.inr (.inr (.inl hn))))))))
  have hl2 : cs.length = 7 := hl.trans (cellsOf_eq (t := 44) rfl).1
  exact ⟨(⟨m0, m1, m2, m3, m4, m5, m6⟩ : TDuty), (rps_step (off := 0) r0 (rps_step (off := 1) r1 (rps_step (off := 2) r2 (rps_step (off := 3) r3 (rps_step (off := 4) r4 (rps_step (off := 5) r5 (rps_step (off := 6) r6 (rps_end hl2)))))))), (one_step (off := 0) o0 (one_step (off := 1) o1 (one_step (off := 2) o2 (one_step (off := 3) o3 (one_step (off := 4) o4 (one_step (off := 5) o5 (one_step (off := 6) o6 (one_end hl2))))))))⟩
theorem op46 {H : Type} {eh : TypeId × Value → H} : Opens eh 46 TMeasure.enc := fun W fuel cs x hx hw => by
  obtain ⟨xs, n, rfl, rfl, hl, hlen, hf⟩ := DataW.trod_struct (und_ok (t := 46) rfl) hx
  obtain ⟨x0, x1, x2, x3, x4, x5, x6, x7, x8, rfl⟩ : ∃ x0 x1 x2 x3 x4 x5 x6 x7 x8, xs = [x0, x1, x2, x3, x4, x5, x6, x7, x8] := by
    match xs, hlen with
    | [a0, a1, a2, a3, a4, a5, a6, a7, a8], _ => exact ⟨a0, a1, a2, a3, a4, a5, a6, a7, a8, rfl⟩
  have hw2 : ∀ n ∈ DataW.weightsEach Tryz.prog [3, 3, 9, 42, 3, 3, 3, 3, 44] [x0.1, x1.1, x2.1, x3.1, x4.1, x5.1, x6.1, x7.1, x8.1], n ≤ reachBytes := fun n hn => hw n (by simp only [DataW.weights, und_ok (t := 46) rfl]; exact hn)
  simp only [DataW.weightsEach, List.mem_append] at hw2
  have g0 : DataW.trod eh Tryz.prog W 0 (fun _ => true) true n 3 ((cs.drop 0).take (Tryz.prog.cellsOf 3)) = some x0 := hf 0 _ rfl
  rw [(cellsOf_eq (t := 3) rfl).1] at g0
  obtain ⟨m0, r0, o0⟩ := op3 W n _ _ g0 (fun n hn => hw2 n (.inl hn))
  have g1 : DataW.trod eh Tryz.prog W 0 (fun _ => true) true n 3 ((cs.drop 1).take (Tryz.prog.cellsOf 3)) = some x1 := hf 1 _ rfl
  rw [(cellsOf_eq (t := 3) rfl).1] at g1
  obtain ⟨m1, r1, o1⟩ := op3 W n _ _ g1 (fun n hn => hw2 n (.inr (.inl hn)))
  have g2 : DataW.trod eh Tryz.prog W 0 (fun _ => true) true n 9 ((cs.drop 2).take (Tryz.prog.cellsOf 9)) = some x2 := hf 2 _ rfl
  rw [(cellsOf_eq (t := 9) rfl).1] at g2
  obtain ⟨m2, r2, o2⟩ := op9 W n _ _ g2 (fun n hn => hw2 n (.inr (.inr (.inl hn))))
  have g3 : DataW.trod eh Tryz.prog W 0 (fun _ => true) true n 42 ((cs.drop 3).take (Tryz.prog.cellsOf 42)) = some x3 := hf 3 _ rfl
  rw [(cellsOf_eq (t := 42) rfl).1] at g3
  obtain ⟨m3, r3, o3⟩ := op42 W n _ _ g3 (fun n hn => hw2 n (.inr (.inr (.inr (.inl hn)))))
  have g4 : DataW.trod eh Tryz.prog W 0 (fun _ => true) true n 3 ((cs.drop 4).take (Tryz.prog.cellsOf 3)) = some x4 := hf 4 _ rfl
  rw [(cellsOf_eq (t := 3) rfl).1] at g4
  obtain ⟨m4, r4, o4⟩ := op3 W n _ _ g4 (fun n hn => hw2 n (.inr (.inr (.inr (.inr (.inl hn))))))
  have g5 : DataW.trod eh Tryz.prog W 0 (fun _ => true) true n 3 ((cs.drop 5).take (Tryz.prog.cellsOf 3)) = some x5 := hf 5 _ rfl
  rw [(cellsOf_eq (t := 3) rfl).1] at g5
  obtain ⟨m5, r5, o5⟩ := op3 W n _ _ g5 (fun n hn => hw2 n (.inr (.inr (.inr (.inr (.inr (.inl hn)))))))
  have g6 : DataW.trod eh Tryz.prog W 0 (fun _ => true) true n 3 ((cs.drop 6).take (Tryz.prog.cellsOf 3)) = some x6 := hf 6 _ rfl
  rw [(cellsOf_eq (t := 3) rfl).1] at g6
  obtain ⟨m6, r6, o6⟩ := op3 W n _ _ g6 (fun n hn => hw2 n (.inr (.inr (.inr (.inr (.inr (.inr (.inl hn))))))))
  have g7 : DataW.trod eh Tryz.prog W 0 (fun _ => true) true n 3 ((cs.drop 7).take (Tryz.prog.cellsOf 3)) = some x7 := hf 7 _ rfl
  rw [(cellsOf_eq (t := 3) rfl).1] at g7
  obtain ⟨m7, r7, o7⟩ := op3 W n _ _ g7 (fun n hn => hw2 n (.inr (.inr (.inr (.inr (.inr (.inr (.inr (.inl hn)))))))))
  have g8 : DataW.trod eh Tryz.prog W 0 (fun _ => true) true n 44 ((cs.drop 8).take (Tryz.prog.cellsOf 44)) = some x8 := hf 8 _ rfl
  rw [(cellsOf_eq (t := 44) rfl).1] at g8
  obtain ⟨m8, r8, o8⟩ := op44 W n _ _ g8 (fun n hn => hw2 n (.inr (.inr (.inr (.inr (.inr (.inr (.inr (.inr (.inl hn))))))))))
  have hl2 : cs.length = 15 := hl.trans (cellsOf_eq (t := 46) rfl).1
  exact ⟨(⟨m0, m1, m2, m3, m4, m5, m6, m7, m8⟩ : TMeasure), (rps_step (off := 0) r0 (rps_step (off := 1) r1 (rps_step (off := 2) r2 (rps_step (off := 3) r3 (rps_step (off := 4) r4 (rps_step (off := 5) r5 (rps_step (off := 6) r6 (rps_step (off := 7) r7 (rps_step (off := 8) r8 (rps_end hl2)))))))))), (one_step (off := 0) o0 (one_step (off := 1) o1 (one_step (off := 2) o2 (one_step (off := 3) o3 (one_step (off := 4) o4 (one_step (off := 5) o5 (one_step (off := 6) o6 (one_step (off := 7) o7 (one_step (off := 8) o8 (one_end hl2))))))))))⟩
theorem op31 {H : Type} {eh : TypeId × Value → H} : Opens eh 31 (eL TMeasure.enc) := opens_slice rfl rfl rfl rfl op46
theorem op49 {H : Type} {eh : TypeId × Value → H} : Opens eh 49 TDebtLine.enc := fun W fuel cs x hx hw => by
  obtain ⟨xs, n, rfl, rfl, hl, hlen, hf⟩ := DataW.trod_struct (und_ok (t := 49) rfl) hx
  obtain ⟨x0, x1, x2, x3, x4, rfl⟩ : ∃ x0 x1 x2 x3 x4, xs = [x0, x1, x2, x3, x4] := by
    match xs, hlen with
    | [a0, a1, a2, a3, a4], _ => exact ⟨a0, a1, a2, a3, a4, rfl⟩
  have hw2 : ∀ n ∈ DataW.weightsEach Tryz.prog [3, 3, 3, 3, 3] [x0.1, x1.1, x2.1, x3.1, x4.1], n ≤ reachBytes := fun n hn => hw n (by simp only [DataW.weights, und_ok (t := 49) rfl]; exact hn)
  simp only [DataW.weightsEach, List.mem_append] at hw2
  have g0 : DataW.trod eh Tryz.prog W 0 (fun _ => true) true n 3 ((cs.drop 0).take (Tryz.prog.cellsOf 3)) = some x0 := hf 0 _ rfl
  rw [(cellsOf_eq (t := 3) rfl).1] at g0
  obtain ⟨m0, r0, o0⟩ := op3 W n _ _ g0 (fun n hn => hw2 n (.inl hn))
  have g1 : DataW.trod eh Tryz.prog W 0 (fun _ => true) true n 3 ((cs.drop 1).take (Tryz.prog.cellsOf 3)) = some x1 := hf 1 _ rfl
  rw [(cellsOf_eq (t := 3) rfl).1] at g1
  obtain ⟨m1, r1, o1⟩ := op3 W n _ _ g1 (fun n hn => hw2 n (.inr (.inl hn)))
  have g2 : DataW.trod eh Tryz.prog W 0 (fun _ => true) true n 3 ((cs.drop 2).take (Tryz.prog.cellsOf 3)) = some x2 := hf 2 _ rfl
  rw [(cellsOf_eq (t := 3) rfl).1] at g2
  obtain ⟨m2, r2, o2⟩ := op3 W n _ _ g2 (fun n hn => hw2 n (.inr (.inr (.inl hn))))
  have g3 : DataW.trod eh Tryz.prog W 0 (fun _ => true) true n 3 ((cs.drop 3).take (Tryz.prog.cellsOf 3)) = some x3 := hf 3 _ rfl
  rw [(cellsOf_eq (t := 3) rfl).1] at g3
  obtain ⟨m3, r3, o3⟩ := op3 W n _ _ g3 (fun n hn => hw2 n (.inr (.inr (.inr (.inl hn)))))
  have g4 : DataW.trod eh Tryz.prog W 0 (fun _ => true) true n 3 ((cs.drop 4).take (Tryz.prog.cellsOf 3)) = some x4 := hf 4 _ rfl
  rw [(cellsOf_eq (t := 3) rfl).1] at g4
  obtain ⟨m4, r4, o4⟩ := op3 W n _ _ g4 (fun n hn => hw2 n (.inr (.inr (.inr (.inr (.inl hn))))))
  have hl2 : cs.length = 5 := hl.trans (cellsOf_eq (t := 49) rfl).1
  exact ⟨(⟨m0, m1, m2, m3, m4⟩ : TDebtLine), (rps_step (off := 0) r0 (rps_step (off := 1) r1 (rps_step (off := 2) r2 (rps_step (off := 3) r3 (rps_step (off := 4) r4 (rps_end hl2)))))), (one_step (off := 0) o0 (one_step (off := 1) o1 (one_step (off := 2) o2 (one_step (off := 3) o3 (one_step (off := 4) o4 (one_end hl2))))))⟩
theorem op33 {H : Type} {eh : TypeId × Value → H} : Opens eh 33 (eL TDebtLine.enc) := opens_slice rfl rfl rfl rfl op49
end SX
end Go.Proofs.YtfcecieppoljlaaGreatDoor
