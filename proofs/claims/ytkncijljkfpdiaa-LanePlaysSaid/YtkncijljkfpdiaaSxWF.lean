import Derived.Test.YtkncijljkfpdiaaSxWE
/-
  awake (8): what the document fixes.
-/
namespace Go.Proofs.Ytkncijljkfpdiaa.Sx
open Go Go.Proofs
set_option maxRecDepth 100000
set_option linter.unusedSimpArgs false
set_option linter.unusedVariables false

abbrev goneL : List Nat → Hp
  | [] => []
  | t :: r => (t, .gone) :: goneL r
abbrev LsOK (n : Nat) (S : Std) (e : Nat → Ent) (cp : Nat → Nat) : Prop := ∀ i, i < n → lstE (e i) (lane S i) (cp i)
abbrev RA : Hp := [(60, .gone), (61, .gone), (62, .gone)]
theorem fit4 : Fit 4 3 [] ∧ Fit 4 3 [(3, 1)] ∧ Fit 4 3 [(3, 1), (3, 2)] ∧ Fit 4 3 [(3, 1), (3, 2), (0, 9)] ∧ Fit 4 3 [(3, 2), (0, 9)] := by
  refine ⟨⟨?_, ?_, ?_, ?_, ?_, ?_⟩, ⟨?_, ?_, ?_, ?_, ?_, ?_⟩, ⟨?_, ?_, ?_, ?_, ?_, ?_⟩, ⟨?_, ?_, ?_, ?_, ?_, ?_⟩, ⟨?_, ?_, ?_, ?_, ?_, ?_⟩⟩ <;> first | decide | simp
def SPA : SpT := [(9, sNew), (10, sPush), (12, sPull), (14, sHd false), (18, sHeads), (16, sInts), (11, sLen)]
theorem spa : ∀ p ∈ SPA, SpecOK Try.prog p.1 p.2 := consSP sNew_ok (consSP sPush_ok (consSP sPull_ok (consSP sHead_ok (consSP sHeads_ok (consSP sInts_ok (consSP sLen_ok noSP))))))
def sAwake : Spec := fun args h nx K => args = [] ∧ K (.ret (.bool true)) h nx
theorem sAwake_ok : SpecOK Try.prog 8 sAwake := by
  refine specOK_read2 (fn := Try.f8) rfl rfl rfl T_ok (SP := SPA) spa 0 _ ?_
  rintro args h nx K ⟨rfl, hk⟩
  refine ⟨[], [], ⟨fun hr hv => ⟨rel_ros trivial hr.qtabs, hv⟩⟩, by simp [Try.f8], fun o => o = .ret (.bool true), ?_, ?_⟩
  · rintro o rfl; exact ⟨trivial, hk⟩
  intro c hc
  show W _ _ _ _ 0
  have hE := mkE' (fn := Try.f8) (R := fun o _ _ => o = .ret (.bool true)) hc spa
  have lowA : Low RA := rfl
  have hmA : Mid (gg RA) := gg.mid lowA
  have wA : ∀ τ h h', wkJ τ h h' RA := fun τ h h' => ⟨wk_gone, wk_gone, wk_gone, trivial⟩
  refine W_seq (nx := 0) ?_
  refine W_to (nx := 0) [] [] 30 ?_ ?_
  · refine vc_sound hE 20 _ _ _ 30 ?_
    exact ⟨tau [], rfl, trivial, trivial⟩
  refine W_seq (nx := 30) ?_
  refine W_ex (nx := 30) (fun (a : Nat × Nat × Nat) => True) (fun a => [(1, .ptr 8 0 0), (2, .int .i64 0)]) (fun a => HLw a.1 a.2.1 a.2.2 4 3 [] (fun _ => nilE) (fun _ => 0) (gg RA)) 30 ?_ ?_
  · refine vc_sound hE 40 _ _ _ 30 ?_
    refine ⟨4, 3, rfl, fun q => absurd q (by decide), fun n room hm hn hr => ?_⟩
    obtain rfl : n = 4 := by omega
    obtain rfl : room = 3 := by omega
    refine ⟨rfl, rfl, rfl, fun i hi => rfl, fun bL bM bR => ?_⟩
    have hτ := Ren1.id
    obtain ⟨k1, k2⟩ := LnQ.back (h := HNew bL bM bR 4 3) (rest := RA) (HNew.q (h := [])) hτ (fun t h1 h2 h3 h4 => by rw [List.append_nil]) lowA rfl (wA _ _ _)
    exact ⟨(bL, bM, bR), trivial, tau [], k1, (by repeat' (first | exact rfl | exact trivial | exact (hτ.low (by decide)).symm | assumption | refine ⟨?_, ?_⟩)), k2⟩
  rintro ⟨bL, bM, bR⟩ -
  refine W_seq (nx := 30) ?_
  refine W_to (nx := 30) [(1, .ptr 8 0 0), (2, .int .i64 0), (4, .int .i64 1)] (HLw bL bM bR 4 3 [] (fun _ => nilE) (fun _ => 0) (gg RA)) 30 ?_ ?_
  · refine vc_sound hE 40 _ _ _ 30 ?_
    refine ⟨0, 3, rfl, fun q => ?_, fun n room hm hn hr => absurd (show mayB 0 3 = true from hm) (by decide)⟩
    have hτ := Ren1.id
    obtain ⟨k1, k2⟩ := LnQ.back (h := HLw bL bM bR 4 3 [] (fun _ => nilE) (fun _ => 0) (gg RA)) (rest := RA) (HLw.q hmA (fun i hi => nilL)) hτ (fun t h1 h2 h3 h4 => rfl) lowA rfl (wA _ _ _)
    exact ⟨tau [], k1, (by repeat' (first | exact rfl | exact trivial | exact (hτ.low (by decide)).symm | assumption | refine ⟨?_, ?_⟩)), k2⟩
  refine W_seq (nx := 30) ?_
  refine W_to (nx := 30) [(1, .ptr 8 0 0)] (HLw bL bM bR 4 3 [] (fun _ => nilE) (fun _ => 0) (gg RA)) 30 ?_ ?_
  · refine vc_sound hE 60 _ _ _ 30 ?_
    have hτ := Ren1.id
    obtain ⟨k1, k2⟩ := LnQ.back (h := HLw bL bM bR 4 3 [] (fun _ => nilE) (fun _ => 0) (gg RA)) (rest := RA) (HLw.q hmA (fun i hi => nilL)) hτ (fun t h1 h2 h3 h4 => rfl) lowA rfl (wA _ _ _)
    exact ⟨tau [], k1, (by repeat' (first | exact rfl | exact trivial | exact (hτ.low (by decide)).symm | assumption | refine ⟨?_, ?_⟩)), k2⟩
  obtain ⟨e0, he0⟩ : ∃ e0 : Nat → Ent, e0 = fun _ => nilE := ⟨_, rfl⟩
  obtain ⟨c0, hc0⟩ : ∃ c0 : Nat → Nat, c0 = fun _ => 0 := ⟨_, rfl⟩
  have l0 : LsOK 4 [] e0 c0 := by subst he0 hc0; exact fun i hi => nilL
  rw [← he0, ← hc0]
  clear he0 hc0

  refine W_seq (nx := 30) ?_
  refine W_ex (nx := 30) (fun (a : (Nat → Ent) × (Nat → Nat)) => LsOK 4 [(3, 1)] a.1 a.2) (fun a => [(1, .ptr 8 0 0), (5, .int .i64 0)]) (fun a => HLw bL bM bR 4 3 [(3, 1)] a.1 a.2 (gg RA)) 30 ?_ ?_
  · refine vc_sound hE 40 _ _ _ 30 ?_
    refine ⟨bL, bM, bR, 4, 3, gR [] c0, [], e0, c0, 3, 1, rfl, HLw.q hmA l0, fit4.1, (gg.gone lowA).1, (gg.gone lowA).2, fun h' g' e' cp' τ kx k1 k2 hτ _ => ?_⟩
    have hS : pushS 4 3 [] 3 1 = [(3, 1)] := by decide
    have hC : pushC 4 3 [] 3 1 = 0 := by decide
    rw [hS] at k2
    rw [hC]
    obtain ⟨q1, q2⟩ := LnQ.back (rest := RA) k2 hτ (fun t h1 h2 h3 h4 => k1 t h2 h3 (.inl h1)) lowA rfl (wA _ _ _)
    exact ⟨(e', cp'), k2.is, τ, q1, (by repeat' (first | exact rfl | exact trivial | exact (hτ.low (by decide)).symm | assumption | refine ⟨?_, ?_⟩)), q2⟩
  rintro ⟨e1, c1⟩ l1
  refine W_seq (nx := 30) ?_
  refine W_ex (nx := 30) (fun (a : (Nat → Ent) × (Nat → Nat)) => LsOK 4 [(3, 1), (3, 2)] a.1 a.2) (fun a => [(1, .ptr 8 0 0), (5, .int .i64 0), (6, .int .i64 0)]) (fun a => HLw bL bM bR 4 3 [(3, 1), (3, 2)] a.1 a.2 (gg RA)) 30 ?_ ?_
  · refine vc_sound hE 40 _ _ _ 30 ?_
    refine ⟨bL, bM, bR, 4, 3, gR [(3, 1)] c1, [(3, 1)], e1, c1, 3, 2, rfl, HLw.q hmA l1, fit4.2.1, (gg.gone lowA).1, (gg.gone lowA).2, fun h' g' e' cp' τ kx k1 k2 hτ _ => ?_⟩
    have hS : pushS 4 3 [(3, 1)] 3 2 = [(3, 1), (3, 2)] := by decide
    have hC : pushC 4 3 [(3, 1)] 3 2 = 0 := by decide
    rw [hS] at k2
    rw [hC]
    obtain ⟨q1, q2⟩ := LnQ.back (rest := RA) k2 hτ (fun t h1 h2 h3 h4 => k1 t h2 h3 (.inl h1)) lowA rfl (wA _ _ _)
    exact ⟨(e', cp'), k2.is, τ, q1, (by repeat' (first | exact rfl | exact trivial | exact (hτ.low (by decide)).symm | assumption | refine ⟨?_, ?_⟩)), q2⟩
  rintro ⟨e2, c2⟩ l2
  refine W_seq (nx := 30) ?_
  refine W_ex (nx := 30) (fun (a : (Nat → Ent) × (Nat → Nat)) => LsOK 4 [(3, 1), (3, 2), (0, 9)] a.1 a.2) (fun a => [(1, .ptr 8 0 0), (5, .int .i64 0), (6, .int .i64 0), (7, .int .i64 0)]) (fun a => HLw bL bM bR 4 3 [(3, 1), (3, 2), (0, 9)] a.1 a.2 (gg RA)) 30 ?_ ?_
  · refine vc_sound hE 40 _ _ _ 30 ?_
    refine ⟨bL, bM, bR, 4, 3, gR [(3, 1), (3, 2)] c2, [(3, 1), (3, 2)], e2, c2, 0, 9, rfl, HLw.q hmA l2, fit4.2.2.1, (gg.gone lowA).1, (gg.gone lowA).2, fun h' g' e' cp' τ kx k1 k2 hτ _ => ?_⟩
    have hS : pushS 4 3 [(3, 1), (3, 2)] 0 9 = [(3, 1), (3, 2), (0, 9)] := by decide
    have hC : pushC 4 3 [(3, 1), (3, 2)] 0 9 = 0 := by decide
    rw [hS] at k2
    rw [hC]
    obtain ⟨q1, q2⟩ := LnQ.back (rest := RA) k2 hτ (fun t h1 h2 h3 h4 => k1 t h2 h3 (.inl h1)) lowA rfl (wA _ _ _)
    exact ⟨(e', cp'), k2.is, τ, q1, (by repeat' (first | exact rfl | exact trivial | exact (hτ.low (by decide)).symm | assumption | refine ⟨?_, ?_⟩)), q2⟩
  rintro ⟨e3, c3⟩ l3
  refine W_seq (nx := 30) ?_
  refine W_ex (nx := 30) (fun (a : (Nat → Ent) × (Nat → Nat)) => LsOK 4 [(3, 1), (3, 2), (0, 9)] a.1 a.2) (fun a => [(1, .ptr 8 0 0), (5, .int .i64 0), (6, .int .i64 0), (7, .int .i64 0), (8, .int .i64 2)]) (fun a => HLw bL bM bR 4 3 [(3, 1), (3, 2), (0, 9)] a.1 a.2 (gg RA)) 30 ?_ ?_
  · refine vc_sound hE 40 _ _ _ 30 ?_
    refine ⟨bL, bM, bR, 4, 3, gR [(3, 1), (3, 2), (0, 9)] c3, [(3, 1), (3, 2), (0, 9)], e3, c3, 1, 7, rfl, HLw.q hmA l3, fit4.2.2.2.1, (gg.gone lowA).1, (gg.gone lowA).2, fun h' g' e' cp' τ kx k1 k2 hτ _ => ?_⟩
    have hS : pushS 4 3 [(3, 1), (3, 2), (0, 9)] 1 7 = [(3, 1), (3, 2), (0, 9)] := by decide
    have hC : pushC 4 3 [(3, 1), (3, 2), (0, 9)] 1 7 = 2 := by decide
    rw [hS] at k2
    rw [hC]
    obtain ⟨q1, q2⟩ := LnQ.back (rest := RA) k2 hτ (fun t h1 h2 h3 h4 => k1 t h2 h3 (.inl h1)) lowA rfl (wA _ _ _)
    exact ⟨(e', cp'), k2.is, τ, q1, (by repeat' (first | exact rfl | exact trivial | exact (hτ.low (by decide)).symm | assumption | refine ⟨?_, ?_⟩)), q2⟩
  rintro ⟨e4, c4⟩ l4
  refine W_seq (nx := 30) ?_
  refine W_to (nx := 30) [(1, .ptr 8 0 0), (5, .int .i64 0), (6, .int .i64 0), (7, .int .i64 0), (8, .int .i64 2), (9, .bool true)] (HLw bL bM bR 4 3 [(3, 1), (3, 2), (0, 9)] e4 c4 (gg RA)) 30 ?_ ?_
  · refine vc_sound hE 60 _ _ _ 60 ?_
    refine ⟨bL, bM, bR, 4, 3, gR [(3, 1), (3, 2), (0, 9)] c4, [(3, 1), (3, 2), (0, 9)], _, c4, rfl, (HLw.q hmA l4).rd Ren1.id, fit4.2.2.2.1, rfl, fun e' cap hl => ?_⟩
    have hH : headsN [(3, 1), (3, 2), (0, 9)] 4 = [9, 1] := by decide
    rw [hH] at hl ⊢
    intro b1
    refine ⟨_, _, [9, 1], [9, 1], rfl, hl.rd rfl, .inr ⟨61, 0, 2, _, 2, _, rfl, rfl, Nat.le_refl _, fun i hi => ?_⟩, by decide, by decide, ?_⟩
    · match i, hi with
      | 0, _ => rfl
      | 1, _ => rfl
    have hτ := Ren1.id
    obtain ⟨q1, q2⟩ := LnQ.back (rest := RA) (((HLw.q hmA l4).cons (t := 60) (x := e') (by decide)).cons (t := 61) (x := _) (by decide)) hτ (fun t h1 h2 h3 h4 => rfl) lowA rfl (wA _ _ _)
    exact ⟨tau [], q1, (by repeat' (first | exact rfl | exact trivial | exact (hτ.low (by decide)).symm | assumption | refine ⟨?_, ?_⟩)), q2⟩
  refine W_seq (nx := 30) ?_
  refine W_ex (nx := 30) (fun (a : (Nat → Ent) × (Nat → Nat)) => LsOK 4 [(3, 2), (0, 9)] a.1 a.2) (fun a => [(1, .ptr 8 0 0), (5, .int .i64 0), (6, .int .i64 0), (7, .int .i64 0), (8, .int .i64 2), (9, .bool true), (10, .int .i64 3), (11, .int .i64 0)]) (fun a => HLw bL bM bR 4 3 [(3, 2), (0, 9)] a.1 a.2 (gg RA)) 30 ?_ ?_
  · refine vc_sound hE 60 _ _ _ 30 ?_
    refine ⟨bL, bM, bR, 4, 3, gR [(3, 1), (3, 2), (0, 9)] c4, [(3, 1), (3, 2), (0, 9)], e4, c4, 1, rfl, HLw.q hmA l4, fit4.2.2.2.1, fun h' g' e' cp' kx k1 k2 => ?_⟩
    have hS : pullS [(3, 1), (3, 2), (0, 9)] 1 = [(3, 2), (0, 9)] := by decide
    have hC : pullC [(3, 1), (3, 2), (0, 9)] 1 = 0 := by decide
    have hB : blkT [(3, 1), (3, 2), (0, 9)] 1 = 3 := by decide
    rw [hS] at k2
    rw [hC, hB]
    have hτ := Ren1.id
    obtain ⟨q1, q2⟩ := LnQ.back (rest := RA) k2 hτ (fun t h1 h2 h3 h4 => k1 t h2 h3 (.inl h1)) lowA rfl (wA _ _ _)
    exact ⟨(e', cp'), k2.is, tau [], q1, (by repeat' (first | exact rfl | exact trivial | exact (hτ.low (by decide)).symm | assumption | refine ⟨?_, ?_⟩)), q2⟩
  rintro ⟨e5, c5⟩ l5
  refine W_seq (nx := 30) ?_
  refine W_ex (nx := 30) (fun (a : (Nat → Ent) × (Nat → Nat)) => LsOK 4 [(3, 2), (0, 9)] a.1 a.2) (fun a => [(1, .ptr 8 0 0), (5, .int .i64 0), (6, .int .i64 0), (7, .int .i64 0), (8, .int .i64 2), (9, .bool true), (10, .int .i64 3), (11, .int .i64 0), (12, .int .i64 0), (13, .int .i64 3)]) (fun a => HLw bL bM bR 4 3 [(3, 2), (0, 9)] a.1 a.2 (gg RA)) 30 ?_ ?_
  · refine vc_sound hE 60 _ _ _ 30 ?_
    refine ⟨bL, bM, bR, 4, 3, gR [(3, 2), (0, 9)] c5, [(3, 2), (0, 9)], e5, c5, 1, rfl, HLw.q hmA l5, fit4.2.2.2.2, fun h' g' e' cp' kx k1 k2 => ?_⟩
    have hS : pullS [(3, 2), (0, 9)] 1 = [(3, 2), (0, 9)] := by decide
    have hC : pullC [(3, 2), (0, 9)] 1 = 3 := by decide
    have hB : blkT [(3, 2), (0, 9)] 1 = 0 := by decide
    rw [hS] at k2
    rw [hC, hB]
    have hτ := Ren1.id
    obtain ⟨q1, q2⟩ := LnQ.back (rest := RA) k2 hτ (fun t h1 h2 h3 h4 => k1 t h2 h3 (.inl h1)) lowA rfl (wA _ _ _)
    exact ⟨(e', cp'), k2.is, tau [], q1, (by repeat' (first | exact rfl | exact trivial | exact (hτ.low (by decide)).symm | assumption | refine ⟨?_, ?_⟩)), q2⟩
  rintro ⟨e6, c6⟩ l6
  refine W_seq (nx := 30) ?_
  refine W_to (nx := 30) [(1, .ptr 8 0 0), (5, .int .i64 0), (6, .int .i64 0), (7, .int .i64 0), (8, .int .i64 2), (9, .bool true), (10, .int .i64 3), (11, .int .i64 0), (12, .int .i64 0), (13, .int .i64 3), (14, .int .i64 2), (15, .bool true)] (HLw bL bM bR 4 3 [(3, 2), (0, 9)] e6 c6 (gg RA)) 30 ?_ ?_
  · refine vc_sound hE 60 _ _ _ 60 ?_
    refine ⟨bL, bM, bR, 4, 3, gR [(3, 2), (0, 9)] c6, [(3, 2), (0, 9)], _, c6, 3, rfl, (HLw.q hmA l6).rd Ren1.id, fit4.2.2.2.2, ?_⟩
    have hH : endL 4 [(3, 2), (0, 9)] 3 false = (2, true) := by decide
    rw [hH]
    have hτ := Ren1.id
    obtain ⟨q1, q2⟩ := LnQ.back (rest := RA) (HLw.q hmA l6) hτ (fun t h1 h2 h3 h4 => rfl) lowA rfl (wA _ _ _)
    exact ⟨tau [], q1, (by repeat' (first | exact rfl | exact trivial | exact (hτ.low (by decide)).symm | assumption | refine ⟨?_, ?_⟩)), q2⟩
  refine vc_sound hE 200 _ _ _ 60 ?_
  refine ⟨4, 3, mpS [(3, 2), (0, 9)], rfl, (HLw.q hmA l6).ro, ?_⟩
  refine ⟨bL, bM, bR, 4, 3, gR [(3, 2), (0, 9)] c6, [(3, 2), (0, 9)], e6, c6, 0, 2, rfl, HLw.q hmA l6, fit4.2.2.2.2, (gg.gone lowA).1, (gg.gone lowA).2, fun h' g' e' cp' τ kx k1 k2 hτ k3 => ?_⟩
  have hC : pushC 4 3 [(3, 2), (0, 9)] 0 2 = 4 := by decide
  have hS : pushS 4 3 [(3, 2), (0, 9)] 0 2 = [(3, 2), (0, 9)] := by decide
  have k3 := k3 (by rw [hC]; decide)
  rw [hC]
  refine ⟨bL, bM, bR, 4, 3, gR [(3, 2), (0, 9)] c6, [(3, 2), (0, 9)], e6, c6, 4, 5, rfl, (HLw.q hmA l6).fdeq k3, fit4.2.2.2.2, (k3 _).trans (gg.gone lowA).1, (k3 _).trans (gg.gone lowA).2, fun h' g' e' cp' τ kx k1 k2 hτ k3 => ?_⟩
  have hC : pushC 4 3 [(3, 2), (0, 9)] 4 5 = 1 := by decide
  rw [hC]
  rfl
end Go.Proofs.Ytkncijljkfpdiaa.Sx
