import Derived.Test.YtdjekplkejkgdaaSxP2
/-
  The plain law of a shelf, third part: a node is taken out of its list, put in front of a list, dropped, held.
-/
namespace Go.Proofs.Ytdjekplkejkgdaa.Sx
open Go Go.Proofs
set_option maxRecDepth 100000
set_option linter.unusedSimpArgs false
set_option linter.unusedVariables false

theorem out_E {s : Sh} {k q c : Nat} (h : c < 3 * q ∨ 3 * q + 2 < c) : (outS s k q).E c = s.E c := by
  have e1 : (out1 s k q).E c = s.E c := updI_ne (by omega)
  have e2 : (out2 s k q).E c = s.E c := by
    unfold out2
    simp only
    split
    · exact (updI_ne (by omega)).trans e1
    · exact e1
  have e3 : (out3 s k q).E c = s.E c := (updI_ne (by omega)).trans e2
  unfold outS
  split
  · exact e1
  · unfold out4
    simp only
    split
    · exact (updI_ne (by omega)).trans ((updI_ne (by omega)).trans e3)
    · exact e3
theorem erase_at {A B : List Nat} {k : Nat} (h : (A ++ k :: B).Nodup) : (A ++ k :: B).erase k = A ++ B := by
  have hk : k ∉ A := fun hk => (List.nodup_append.1 h).2.2 k hk k (by simp) rfl
  rw [List.erase_append_right _ hk, List.erase_cons_head]
theorem snoc_of {P : List Nat} (h : P ≠ []) : ∃ P' p, P = P' ++ [p] := ⟨P.dropLast, P.getLast h, (List.dropLast_concat_getLast h).symm⟩

/-- What the cells of a list's node lead to. -/
theorem Inv.ends {s : Sh} {m : Md} {x : Nat} (h : Inv s m x) {q : Nat} (hq : q < 2) {i : Nat} (hi : i ∈ (m.n + q) :: m.L q) : i < s.N := by
  rw [h.N]
  rcases List.mem_cons.1 hi with rfl | hi
  · omega
  · have := h.lt q hq i hi; omega

structure OutR (s : Sh) (m : Md) (k q : Nat) : Prop where
  ok : outOK s k q
  li : ∃ P Q, (m.L q).erase k = P ++ Q ∧ LI (outS s k q) (m.n + q) m.b q P Q
  lo : ∀ i, i ∉ m.L q → (outS s k q).lo i = s.lo i
  um : (s.u k).toNat ∈ (m.n + q) :: m.L q
  dm : (s.d k).toNat ∈ (m.n + q) :: m.L q

theorem out_r {s : Sh} {m : Md} {k q : Nat} (h : Inv s m m.n) (hq : q < 2) (hk : k ∈ m.L q) : OutR s m k q := by
  obtain ⟨P, Q, hL, hli⟩ := h.li q hq
  have hring := h.ring hq
  have hlq := h.lenq hq
  have hn2 := h.n2
  have hN := h.N
  have hlt := h.lt q hq
  have hring' := hring
  rw [hL] at hk hring hlq
  have hkl : s.l k = q := hli.ls k hk
  have hkN : k < s.N := by have := hlt k (by rw [hL]; exact hk); omega
  obtain ⟨A, B, eAB⟩ := List.append_of_mem hk
  have hseg := hli.seg
  rw [eAB] at hseg
  obtain ⟨e1, e2⟩ := seg_at hseg
  have um : pr (m.n + q) A ∈ (m.n + q) :: m.L q := by
    rw [hL, eAB]
    have := pr_mem (m.n + q) A
    rcases List.mem_cons.1 this with w | w
    · rw [w]; simp
    · simp [w]
  have dm : hd B (m.n + q) ∈ (m.n + q) :: m.L q := by
    rw [hL, eAB]
    have := hd_mem B (m.n + q)
    rcases List.mem_append.1 this with w | w
    · simp [w]
    · have w : hd B (m.n + q) = m.n + q := by simpa using w
      rw [w]; simp
  have ub := h.ends hq um
  have db := h.ends hq dm
  have um' : (s.u k).toNat ∈ (m.n + q) :: m.L q := by rw [e1]; exact um
  have dm' : (s.d k).toNat ∈ (m.n + q) :: m.L q := by rw [e2]; exact dm
  rcases List.mem_append.1 hk with hkP | hkQ
  · obtain ⟨A', B', rfl⟩ := List.append_of_mem hkP
    obtain ⟨h1, h2⟩ := li_out_high hli hring (by omega)
    refine ⟨⟨hq, hkl, hkN, by omega, by omega, fun hlo => ?_⟩, ⟨A' ++ B', Q, ?_, by rw [h1]; exact h2⟩, fun i hi => by rw [h1]; rfl, um', dm'⟩
    · rw [hli.loP k (by simp)] at hlo; cases hlo
    · rw [hL, List.append_assoc, List.cons_append, erase_at (by have := (List.nodup_cons.1 hring).2; simpa using this), List.append_assoc]
  · obtain ⟨Q1, Q2, rfl⟩ := List.append_of_mem hkQ
    obtain ⟨h1, h2, h3⟩ := li_out_low hli hring (by omega)
    obtain ⟨g1, g2, g3, g4, g5, g6⟩ := out3_at hli hring (by omega)
    have her : (m.L q).erase k = P ++ (Q1 ++ Q2) := by
      have e : P ++ (Q1 ++ k :: Q2) = (P ++ Q1) ++ k :: Q2 := (List.append_assoc ..).symm
      rw [hL, e, erase_at (by have := (List.nodup_cons.1 hring).2; rw [e] at this; exact this), List.append_assoc]
    have hm : hd (Q1 ++ Q2) (m.n + q) ∈ (m.n + q) :: m.L q := by
      rw [hL]
      have := hd_mem (Q1 ++ Q2) (m.n + q)
      simp only [List.mem_append, List.mem_singleton] at this
      rcases this with (w | w) | w
      · simp [w]
      · simp [w]
      · rw [w]; simp
    have hmb := h.ends hq hm
    by_cases hP : P = []
    · subst hP
      obtain ⟨h4, h5⟩ := h2 rfl
      refine ⟨⟨hq, hkl, hkN, by omega, by omega, fun _ hcon => ?_⟩, ⟨[], Q1 ++ Q2, her, by rw [h1, h4]; exact h5⟩, fun i hi => by rw [h1, h4, g2], um', dm'⟩
      rw [g4, g5] at hcon
      simp at hcon
    · obtain ⟨P', p, rfl⟩ := snoc_of hP
      obtain ⟨h4, h5, h6, h7⟩ := h3 P' p rfl
      have hpm : p ∈ m.L q := by rw [hL]; simp
      have hpb := hlt p hpm
      refine ⟨⟨hq, hkl, hkN, by omega, by omega, fun _ _ => ⟨by rw [g6]; omega, by rw [h4]; omega⟩⟩, ⟨P', p :: (Q1 ++ Q2), by rw [her]; simp, by rw [h1]; exact h7⟩, fun i hi => ?_, um', dm'⟩
      rw [h1, h6]
      exact updB_ne (by rintro rfl; exact hi hpm)

theorem ring_other {s : Sh} {m : Md} {x : Nat} (h : Inv s m x) {q q' : Nat} (hq : q < 2) (hq' : q' < 2) (hne : q ≠ q') {i j : Nat} (hi : i ∈ (m.n + q) :: m.L q) (hj : j ∈ (m.n + q') :: m.L q') : i ≠ j := by
  rintro rfl
  rcases List.mem_cons.1 hi with rfl | hi <;> rcases List.mem_cons.1 hj with e | hj
  · omega
  · have := h.lt q' hq' _ hj; omega
  · subst e; have := h.lt q hq _ hi; omega
  · exact h.other hq hq' hne hi hj

theorem out_inv {s : Sh} {m : Md} {k q : Nat} (h : Inv s m m.n) (hq : q < 2) (hk : k ∈ m.L q) : Inv (outS s k q) (m.set q ((m.L q).erase k)) k := by
  obtain ⟨ok, li, hlo, um, dm⟩ := out_r h hq hk
  obtain ⟨u1, u2, u3, u4, u5⟩ := out_unl s k q
  have hnq := h.nq hq
  have sub : ∀ i, i ∈ (m.L q).erase k → i ∈ m.L q := fun i hi => List.mem_of_mem_erase hi
  have at_ : ∀ j, j < 2 → ∀ i ∈ (m.set q ((m.L q).erase k)).L j, i ∈ m.L j := by
    intro j hj i hi
    by_cases e : j = q
    · subst e; rw [Md.set_at] at hi; exact sub i hi
    · rw [Md.set_ne e] at hi; exact hi
  have back : ∀ j, j < 2 → ∀ i, i ≠ k → i ∈ m.L j → i ∈ (m.set q ((m.L q).erase k)).L j := by
    intro j hj i hne hi
    by_cases e : j = q
    · subst e; rw [Md.set_at]; exact (List.mem_erase_of_ne hne).2 hi
    · rw [Md.set_ne e]; exact hi
  refine ⟨(outS_N s k q).trans h.N, h.n1, h.n2, u5.trans h.bot, h.b1, h.b2, ?_, fun j hj i hi => h.lt j hj i (at_ j hj i hi), fun j hj hi => ?_, fun j hj => ?_, fun i hi hne h0 h1 => ?_, fun i hi => by rw [u4]; exact h.he i hi, fun j hj => by rw [u4]; exact h.hg j hj, fun i hi hH hne => ?_⟩
  · have hnd := List.nodup_append.1 h.nd
    refine List.nodup_append.2 ⟨?_, ?_, fun a ha b hb => hnd.2.2 a (at_ 0 (by omega) a ha) b (at_ 1 (by omega) b hb)⟩
    · by_cases e : q = 0
      · subst e; rw [Md.set_at]; exact hnd.1.erase k
      · rw [Md.set_ne (Ne.symm e)]; exact hnd.1
    · by_cases e : q = 1
      · subst e; rw [Md.set_at]; exact hnd.2.1.erase k
      · rw [Md.set_ne (Ne.symm e)]; exact hnd.2.1
  · by_cases e : j = q
    · subst e; rw [Md.set_at] at hi; exact (List.Nodup.not_mem_erase hnq) hi
    · rw [Md.set_ne e] at hi; exact h.other hq hj (Ne.symm e) hk hi
  · by_cases e : j = q
    · subst e; rw [Md.set_at]; exact li
    · obtain ⟨P, Q, hL, hli⟩ := h.li j hj
      refine ⟨P, Q, by rw [Md.set_ne e]; exact hL, hli.frame (fun i hi => ?_) (fun i hi => ?_) (fun i hi => hlo i ?_) (fun c hc => out_E (by omega)) (fun i hi => by rw [u3])⟩
      · rw [u2]; exact updI_ne (ring_other h hj hq e (by rw [hL]; exact hi) um)
      · rw [u1]; exact updI_ne (ring_other h hj hq e (by rw [hL]; exact hi) dm)
      · exact h.other hj hq e (by rw [hL]; exact hi)
  · rw [u3]
    have hi : i < m.n := hi
    refine h.no i hi (by omega) (fun w => h0 (back 0 (by omega) i hne w)) (fun w => h1 (back 1 (by omega) i hne w))
  · have hi : i < m.n := hi
    rcases h.hin i hi hH (by omega) with w | w
    · exact .inl (back 0 (by omega) i hne w)
    · exact .inr (back 1 (by omega) i hne w)

theorem in_inv {s : Sh} {m : Md} {k q x : Nat} (h : Inv s m x) (hq : q < 2) (hk : k < m.n) (hx : x = k ∨ x = m.n) (h0 : k ∉ m.L 0) (h1 : k ∉ m.L 1) :
    (0 ≤ s.d (gd s q) ∧ s.d (gd s q) < s.N) ∧ Inv (inS s q k) (m.set q (k :: m.L q)) m.n := by
  obtain ⟨P, Q, hL, hli⟩ := h.li q hq
  have hg : gd s q = m.n + q := by unfold gd; rw [h.N]; omega
  have hkq : ∀ j, j < 2 → k ∉ m.L j := fun j hj => by match j, hj with | 0, _ => exact h0 | 1, _ => exact h1
  have hring := h.ring hq
  have hln := h.len
  have hln' : (m.L q).length < m.n := by
    have := nodup_len (n := m.n) (l := k :: m.L q) (List.nodup_cons.2 ⟨hkq q hq, h.nq hq⟩) fun i hi => by
      rcases List.mem_cons.1 hi with rfl | hi
      · exact hk
      · exact h.lt q hq i hi
    simp only [List.length_cons] at this
    omega
  have hn2 := h.n2
  have he := (seg_ends hli.seg).1
  have hdg : s.d (gd s q) = ((hd (m.L q) (m.n + q) : Nat) : Int) := by rw [hg, he, hL]
  have hhm : hd (m.L q) (m.n + q) ∈ (m.n + q) :: m.L q := by
    have := hd_mem (m.L q) (m.n + q)
    rcases List.mem_append.1 this with w | w
    · simp [w]
    · rw [show hd (m.L q) (m.n + q) = m.n + q by simpa using w]; simp
  have hhb := h.ends hq hhm
  have hu : (inS s q k).u = updI (updI s.u k (m.n + q : Nat)) (hd (m.L q) (m.n + q)) k := by
    show updI (updI s.u k (gd s q)) (s.d (gd s q)).toNat k = _
    rw [hdg, hg, Int.toNat_natCast]
  have hd' : (inS s q k).d = updI (updI s.d k (hd (m.L q) (m.n + q) : Nat)) (m.n + q) k := by
    show updI (updI s.d k (s.d (gd s q))) (gd s q) k = _
    rw [hdg, hg]
  have hl' : (inS s q k).l = updI s.l k q := rfl
  have hlo' : (inS s q k).lo = updB s.lo k (decide (s.E (3 * q + 1) < s.bot)) := rfl
  have hlow : decide (s.E (3 * q + 1) < s.bot) = decide (Q.length < m.b) := by
    rw [hli.e1, h.bot]
    by_cases w : Q.length < m.b
    · rw [decide_eq_true w, decide_eq_true (by omega)]
    · rw [decide_eq_false w, decide_eq_false (by omega)]
  have hPQ : P.length + Q.length = (m.L q).length := by rw [hL]; simp
  have hE : ∀ c, (inS s q k).E c = if c = 3 * q then (((P.length + Q.length) + 1 : Nat) : Int) else if Q.length < m.b ∧ c = 3 * q + 1 then ((Q.length + 1 : Nat) : Int) else if Q.length < m.b ∧ c = 3 * q + 2 then (k : Int) else s.E c := by
    intro c
    show (if decide (s.E (3 * q + 1) < s.bot) = true then updI (updI (updI s.E (3 * q) (IntKind.i64.wrap (s.E (3 * q) + 1))) (3 * q + 1) (IntKind.i64.wrap (updI s.E (3 * q) (IntKind.i64.wrap (s.E (3 * q) + 1)) (3 * q + 1) + 1))) (3 * q + 2) k else updI s.E (3 * q) (IntKind.i64.wrap (s.E (3 * q) + 1))) c = _
    rw [hlow, hli.e0, wrap_succ (by omega), updI_ne (i := 3 * q + 1) (a := 3 * q) (by omega), hli.e1, wrap_succ (by have := hli.len; have := h.b2; omega)]
    by_cases w : Q.length < m.b
    · rw [if_pos (decide_eq_true w)]
      unfold updI
      by_cases c0 : c = 3 * q
      · subst c0
        rw [if_neg (by omega), if_neg (by omega), if_pos rfl, if_pos rfl]
      · by_cases c1 : c = 3 * q + 1
        · subst c1
          rw [if_neg (by omega), if_pos rfl, if_neg (by omega), if_pos ⟨w, rfl⟩]
        · by_cases c2 : c = 3 * q + 2
          · subst c2
            rw [if_pos rfl, if_neg (by omega), if_neg (by omega), if_pos ⟨w, rfl⟩]
          · rw [if_neg c2, if_neg c1, if_neg c0, if_neg c0, if_neg (fun z => c1 z.2), if_neg (fun z => c2 z.2)]
    · rw [if_neg (by rw [decide_eq_false w]; decide)]
      unfold updI
      by_cases c0 : c = 3 * q
      · rw [if_pos c0, if_pos c0]
      · rw [if_neg c0, if_neg c0, if_neg (fun z => w z.1), if_neg (fun z => w z.1)]
  have hkg : k ≠ m.n + q := by omega
  have hseg' : Seg (inS s q k).d (inS s q k).u (m.n + q) (k :: m.L q) (m.n + q) := by
    rw [hu, hd']
    refine seg_in (by rw [hL]; exact hli.seg) ?_ hring
    intro w
    rcases List.mem_cons.1 w with w | w
    · exact hkg w
    · exact hkq q hq w
  refine ⟨by rw [hdg]; omega, h.N, h.n1, h.n2, h.bot, h.b1, h.b2, ?_, fun j hj i hi => ?_, fun j hj hi => ?_, fun j hj => ?_, fun i hi hne g0 g1 => ?_, h.he, h.hg, fun i hi hH hne => ?_⟩
  · have hnd := List.nodup_append.1 h.nd
    refine List.nodup_append.2 ⟨?_, ?_, ?_⟩
    · by_cases e : q = 0
      · subst e; rw [Md.set_at]; exact List.nodup_cons.2 ⟨h0, hnd.1⟩
      · rw [Md.set_ne (Ne.symm e)]; exact hnd.1
    · by_cases e : q = 1
      · subst e; rw [Md.set_at]; exact List.nodup_cons.2 ⟨h1, hnd.2.1⟩
      · rw [Md.set_ne (Ne.symm e)]; exact hnd.2.1
    · obtain rfl | rfl : q = 0 ∨ q = 1 := by omega
      · rw [Md.set_at, Md.set_ne (by decide)]
        intro a ha b hb
        rcases List.mem_cons.1 ha with rfl | ha
        · rintro rfl; exact h1 hb
        · exact hnd.2.2 a ha b hb
      · rw [Md.set_at, Md.set_ne (by decide)]
        intro a ha b hb
        rcases List.mem_cons.1 hb with rfl | hb
        · rintro rfl; exact h0 ha
        · exact hnd.2.2 a ha b hb
  · by_cases e : j = q
    · subst e
      rw [Md.set_at] at hi
      rcases List.mem_cons.1 hi with rfl | hi
      · exact hk
      · exact h.lt j hj i hi
    · rw [Md.set_ne e] at hi; exact h.lt j hj i hi
  · have : m.n < m.n := by
      by_cases e : j = q
      · subst e
        rw [Md.set_at] at hi
        rcases List.mem_cons.1 hi with w | hi
        · omega
        · exact h.lt j hj _ hi
      · rw [Md.set_ne e] at hi; exact h.lt j hj _ hi
    omega
  · by_cases e : j = q
    · subst e
      rw [Md.set_at]
      have hloK : (inS s j k).lo k = decide (Q.length < m.b) := by rw [hlo', hlow]; exact updB_same
      have hloO : ∀ i ∈ m.L j, (inS s j k).lo i = s.lo i := fun i hi => by rw [hlo']; exact updB_ne (by rintro rfl; exact hkq j hj hi)
      have hls : ∀ i ∈ k :: m.L j, (inS s j k).l i = j := fun i hi => by
        rw [hl']
        rcases List.mem_cons.1 hi with rfl | hi
        · exact updI_same
        · rw [updI_ne (show i ≠ k from fun w => hkq j hj (by rw [← w]; exact hi))]; exact hli.ls i (by rw [← hL]; exact hi)
      by_cases w : Q.length < m.b
      · have hP : P = [] := Classical.byContradiction fun z => by have := hli.full z; omega
        subst hP
        have hLQ : m.L j = Q := by rw [hL]; rfl
        refine ⟨[], k :: m.L j, rfl, hseg', fun i hi => by simp at hi, fun i hi => ?_, ?_, fun z => absurd rfl z, ?_, ?_, ?_, hls⟩
        · rcases List.mem_cons.1 hi with rfl | hi
          · rw [hloK, decide_eq_true w]
          · rw [hloO i hi]; exact hli.loQ i (by rw [← hLQ]; exact hi)
        · show (k :: m.L j).length ≤ m.b
          rw [hLQ]; simp only [List.length_cons]; omega
        · rw [hE, if_pos rfl, hLQ]; simp
        · rw [hE, if_neg (by omega), if_pos ⟨w, rfl⟩, hLQ]; simp
        · rw [hE, if_neg (by omega), if_neg (by omega), if_pos ⟨w, rfl⟩]; rfl
      · refine ⟨k :: P, Q, by rw [hL]; rfl, ?_, fun i hi => ?_, fun i hi => ?_, hli.len, fun _ => (by have := hli.len; show Q.length = m.b; omega), ?_, ?_, ?_, fun i hi => hls i (by rw [hL]; exact hi)⟩
        · have := hseg'; rw [hL] at this; exact this
        · rcases List.mem_cons.1 hi with rfl | hi
          · rw [hloK, decide_eq_false w]
          · rw [hloO i (by rw [hL]; simp [hi])]; exact hli.loP i hi
        · rw [hloO i (by rw [hL]; simp [hi])]; exact hli.loQ i hi
        · rw [hE, if_pos rfl]; simp only [List.length_cons]; congr 1; omega
        · rw [hE, if_neg (by omega), if_neg (fun z => w z.1), if_neg (fun z => w z.1)]; exact hli.e1
        · rw [hE, if_neg (by omega), if_neg (fun z => w z.1), if_neg (fun z => w z.1)]; exact hli.e2
    · obtain ⟨P', Q', hL', hli'⟩ := h.li j hj
      refine ⟨P', Q', by rw [Md.set_ne e]; exact hL', hli'.frame (fun i hi => ?_) (fun i hi => ?_) (fun i hi => ?_) (fun c hc => ?_) (fun i hi => ?_)⟩
      · have hi' : i ∈ (m.n + j) :: m.L j := by rw [hL']; exact hi
        have n1 : i ≠ k := by
          rintro rfl
          rcases List.mem_cons.1 hi' with w | w
          · omega
          · exact hkq j hj w
        rw [hd', updI_ne (ring_other h hj hq e hi' (by simp)), updI_ne n1]
      · have hi' : i ∈ (m.n + j) :: m.L j := by rw [hL']; exact hi
        have n1 : i ≠ k := by
          rintro rfl
          rcases List.mem_cons.1 hi' with w | w
          · omega
          · exact hkq j hj w
        rw [hu, updI_ne (ring_other h hj hq e hi' hhm), updI_ne n1]
      · rw [hlo']; exact updB_ne (by rintro rfl; exact hkq j hj (by rw [hL']; exact hi))
      · rw [hE, if_neg (by omega), if_neg (by omega), if_neg (by omega)]
      · rw [hl']; exact updI_ne (by rintro rfl; exact hkq j hj (by rw [hL']; exact hi))
  · have hik : i ≠ k := by
      rintro rfl
      obtain rfl | rfl : q = 0 ∨ q = 1 := by omega
      · exact g0 (by rw [Md.set_at]; simp)
      · exact g1 (by rw [Md.set_at]; simp)
    rw [hl', updI_ne hik]
    refine h.no i hi (by rcases hx with rfl | rfl; exact hik; exact hne) (fun w => g0 ?_) (fun w => g1 ?_)
    · by_cases e : 0 = q
      · subst e; rw [Md.set_at]; simp [w]
      · rw [Md.set_ne e]; exact w
    · by_cases e : 1 = q
      · subst e; rw [Md.set_at]; simp [w]
      · rw [Md.set_ne e]; exact w
  · have up : ∀ j, j < 2 → i ∈ m.L j → i ∈ (m.set q (k :: m.L q)).L j := fun j hj w => by
      by_cases e : j = q
      · subst e; rw [Md.set_at]; simp [w]
      · rw [Md.set_ne e]; exact w
    by_cases hik : i = k
    · subst hik
      obtain rfl | rfl : q = 0 ∨ q = 1 := by omega
      · exact .inl (by rw [Md.set_at]; simp)
      · exact .inr (by rw [Md.set_at]; simp)
    · rcases h.hin i hi hH (by rcases hx with rfl | rfl; exact hik; exact hne) with w | w
      · exact .inl (up 0 (by omega) w)
      · exact .inr (up 1 (by omega) w)
end Go.Proofs.Ytdjekplkejkgdaa.Sx
