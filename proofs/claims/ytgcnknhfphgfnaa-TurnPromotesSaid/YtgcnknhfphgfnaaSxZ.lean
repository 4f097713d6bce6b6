import Derived.Test.YtgcnknhfphgfnaaSxY
set_option linter.unusedVariables false
set_option linter.unusedSimpArgs false
/-
  The engine, twenty-second part: rows that change at one place.
-/
namespace Go.Proofs.Ytgcnknhfphgfnaa.Sx
open Go

theorem putG_one {sz : Nat} {g : Nat → Nat → V} {a c : Nat} {v : V} {i k : Nat} (hc : c < sz) (hk : k < sz) : putG sz g a c [v] i k = if i = a ∧ k = c then v else g i k := by
  unfold putG
  by_cases he : i = a ∧ k = c
  · obtain ⟨rfl, rfl⟩ := he
    rw [if_pos ⟨rfl, rfl⟩, Nat.ble_eq_true_of_le (Nat.le_refl _)]
    simp
  · rw [if_neg he]
    cases hb : Nat.ble (a * sz + c) (i * sz + k) with
    | false => rfl
    | true =>
      have hle : a * sz + c ≤ i * sz + k := Nat.le_of_ble_eq_true hb
      have hne : a * sz + c ≠ i * sz + k := by
        intro q
        apply he
        have h1 : (a * sz + c) / sz = a := by rw [place_div (by omega), Nat.div_eq_of_lt hc]; rfl
        have h2 : (i * sz + k) / sz = i := by rw [place_div (by omega), Nat.div_eq_of_lt hk]; rfl
        have h3 : (a * sz + c) % sz = c := by rw [place_mod, Nat.mod_eq_of_lt hc]
        have h4 : (i * sz + k) % sz = k := by rw [place_mod, Nat.mod_eq_of_lt hk]
        rw [q] at h1 h3
        exact ⟨h2.symm.trans h1, h4.symm.trans h3⟩
      obtain ⟨d, hd⟩ : ∃ d, (i * sz + k) - (a * sz + c) = d + 1 := ⟨(i * sz + k) - (a * sz + c) - 1, by omega⟩
      simp only [hd, List.getElem?_cons_succ, List.getElem?_nil]

def gb (H : Nat → Bool) : Nat → Nat → V := fun i _ => .bool (H i)

theorem g2_rn {τ : Nat → Nat} {h : Hp} {k k' : IntKind} {f f' F F' : Nat → Int} {i c : Nat} (e0 : f i = F i) (e1 : f' i = F' i) : rn τ h (g2 k k' f f' i c) (g2 k k' F F' i c) := by
  unfold g2
  split
  · exact ⟨rfl, e0⟩
  · exact ⟨rfl, e1⟩

/-- One pair behind l others, in a new row. -/
theorem appG_pair {τ : Nat → Nat} {h : Hp} {k k' : IntKind} {l : Nat} {gv : Nat → Nat → V} {F F' : Nat → Int} {x x' y y' : Int} {gu : Nat → Nat → V} {z : Nat → V} (hv : ∀ i c, i < l → c < 2 → gv i c = g2 k k' F F' i c) (hg : gu 0 0 = .int k x) (hg' : gu 0 1 = .int k' x') (hz : z 0 = .int k y) (hz' : z 1 = .int k' y') (i c : Nat) (hc : c < 2) :
    rn τ h (appG l 1 0 0 gv gu z i c) (g2 k k' (fun i => if i < l then F i else if i = l then x else y) (fun i => if i < l then F' i else if i = l then x' else y') i c) := by
  rw [appG_eq]
  by_cases h : i < l
  · rw [if_pos h, Nat.zero_add, hv i c h hc]
    exact g2_rn (by simp only [if_pos h]) (by simp only [if_pos h])
  · rw [if_neg h]
    by_cases h2 : i = l
    · subst h2
      rw [if_pos (by omega), Nat.sub_self, Nat.add_zero]
      match c, hc with
      | 0, _ => rw [hg]; exact ⟨rfl, by simp only [Nat.lt_irrefl, if_false, if_true]⟩
      | 1, _ => rw [hg']; exact ⟨rfl, by simp only [Nat.lt_irrefl, if_false, if_true]⟩
    · rw [if_neg (by omega)]
      match c, hc with
      | 0, _ => rw [hz]; exact ⟨rfl, by simp only [if_neg h, if_neg h2]⟩
      | 1, _ => rw [hz']; exact ⟨rfl, by simp only [if_neg h, if_neg h2]⟩
theorem appR_pair {τ : Nat → Nat} {h : Hp} {k k' : IntKind} {l : Nat} {F F' : Nat → Int} {x x' : Int} {gu : Nat → Nat → V} (hg : gu 0 0 = .int k x) (hg' : gu 0 1 = .int k' x') (i c : Nat) (hc : c < 2) :
    rn τ h (appR (0 + l) 1 0 (g2 k k' F F') gu i c) (g2 k k' (fun i => if i = l then x else F i) (fun i => if i = l then x' else F' i) i c) := by
  rw [appR_eq]
  by_cases h2 : i = l
  · subst h2
    rw [if_pos (by omega), Nat.zero_add, Nat.zero_add, Nat.sub_self]
    match c, hc with
    | 0, _ => rw [hg]; exact ⟨rfl, by simp only [if_true]⟩
    | 1, _ => rw [hg']; exact ⟨rfl, by simp only [if_true]⟩
  · rw [if_neg (by omega)]
    exact g2_rn (by simp only [if_neg h2]) (by simp only [if_neg h2])
/-- The second of a pair, written. -/
theorem put_snd {τ : Nat → Nat} {h : Hp} {k k' : IntKind} {F F' : Nat → Int} {p : Nat} {x : Int} (i c : Nat) (hc : c < 2) :
    rn τ h (putG 2 (g2 k k' F F') p 1 [.int k' x] i c) (g2 k k' F (fun i => if i = p then x else F' i) i c) := by
  rw [putG_one (by omega) hc]
  by_cases h2 : i = p ∧ c = 1
  · rw [if_pos h2]
    obtain ⟨rfl, rfl⟩ := h2
    exact ⟨rfl, by simp only [if_true]⟩
  · rw [if_neg h2]
    match c, hc with
    | 0, _ => exact ⟨rfl, rfl⟩
    | 1, _ => exact ⟨rfl, by simp only [if_neg (fun q : i = p => h2 ⟨q, rfl⟩)]⟩
theorem indexV_arr {T : Tab} {t : Nat} {ti te : TI} {l : List V} {k : IntKind} {n : Nat} {v : V} {K : V → Prop} (h1 : look t T = some ti) (h2 : look ti.el T = some te) (h3 : (Nat.beq ti.kd 5 || Nat.beq ti.kd 6) = true) (h4 : te.agg = false) (h5 : te.n = 1) (h6 : n < ti.len) (hat : l[n]? = some v) (hk : K v) : indexV T t (.agg l) (.int k (n : Int)) K := by
  unfold indexV
  simp only [h1, h2]
  refine chk_ok h3 (chk_ok (by simp; omega) ?_)
  simp only [h4, h5, Int.toNat_natCast, Nat.mul_one, hat]
  rw [force_eq]
  exact hk
theorem chk_idx {te : TI} {l : List V} {n len : Nat} {v : V} {K : V → Prop} (h4 : te.agg = false) (h5 : te.n = 1) (h6 : n < len) (hat : l[n]? = some v) (hk : K v) : chk (decide (0 ≤ (n : Int)) && decide ((n : Int) < (len : Int))) (match te.agg with
      | true => forceL ((l.drop ((n : Int).toNat * te.n)).take te.n) fun l => K (.agg l)
      | false => (match l[(n : Int).toNat * te.n]? with | some v => force v K | none => False)) := by
  refine chk_ok (by simp; omega) ?_
  simp only [h4, h5, Int.toNat_natCast, Nat.mul_one, hat]
  rw [force_eq]
  exact hk
theorem rnL_bools {τ : Nat → Nat} {h : Hp} : ∀ (l : List V), (∀ v ∈ l, ∃ b, v = .bool b) → rnL τ h l l
  | [], _ => trivial
  | v :: l, H => by
    obtain ⟨b, rfl⟩ := H _ (List.mem_cons_self ..)
    exact ⟨rfl, rnL_bools l fun u hu => H u (List.mem_cons_of_mem _ hu)⟩
theorem cells_bools (H : Nat → Bool) : ∀ (m c : Nat), ∀ v ∈ cellsFrom 1 (gb H) 0 c m, ∃ b, v = .bool b
  | 0, c, v, hv => by simp [cellsFrom] at hv
  | m + 1, c, v, hv => by
    rcases List.mem_cons.1 hv with rfl | hv
    · exact ⟨_, rfl⟩
    · exact cells_bools H m (c + 1) v hv

/-- A slice of pairs of integers, wherever it lies. -/
def rdR (h : Hp) (v : V) (n : Nat) (f f' : Nat → Int) : Prop :=
  (v = .nils ∧ n = 0) ∨ ∃ t i c b N g, v = .slice t i n c ∧ fd t (roH h) = .ro b N 2 g ∧ i + n ≤ N ∧ ∃ F F' : Nat → Int, (∀ j, j < N → g j 0 = .int .i64 (F j) ∧ g j 1 = .int .i64 (F' j)) ∧ ∀ j, j < n → f j = F (i + j) ∧ f' j = F' (i + j)
theorem rd_oneR {h : Hp} {v : V} {n : Nat} {f f' : Nat → Int} (hv : rdR h v n f f') (t0 : Nat) : ∃ (b : Option Addr) (N i c : Nat) (F F' : Nat → Int), i + n ≤ N ∧ (∀ j, j < n → f j = F (i + j) ∧ f' j = F' (i + j)) ∧
    ∀ (cx : Cx) (w : World) (x : Value), Rel cx h w → vrel h v x → roOK w [(t0, .ro b N 2 (g2 .i64 .i64 F F'))] ∧ ∀ G : Hp, (fd t0 G).rf = some (.mem b 2) → vrel G (.slice t0 i n c) x := by
  rcases hv with ⟨rfl, rfl⟩ | ⟨t, i, c, b, N, g, rfl, e, hN, F, F', hF, hf⟩
  · refine ⟨none, 0, 0, 0, fun _ => 0, fun _ => 0, by omega, fun j hj => by omega, fun cx w x hr rx => ⟨⟨fun i k hi hk => by omega, trivial⟩, fun G eG => ⟨none, 2, eG, rx, .inr ⟨rfl, rfl⟩⟩⟩⟩
  · refine ⟨b, N, i, c, F, F', hN, hf, fun cx w x hr rx => ⟨⟨fun j k hj hk => ?_, trivial⟩, fun G eG => ?_⟩⟩
    · have H := hr.ro.holds t
      rw [e] at H
      obtain ⟨ad, y, e1, e2, e3, _⟩ := H j k hj hk
      obtain ⟨q0, q1⟩ := hF j hj
      match k, hk with
      | 0, _ => rw [q0] at e3; exact ⟨ad, y, e1, e2, e3⟩
      | 1, _ => rw [q1] at e3; exact ⟨ad, y, e1, e2, e3⟩
    · obtain ⟨base, sz, e1, e2, e3⟩ := rx
      have e4 : (fd t (roH h)).rf = (fd t h).rf := by rw [fd_roH, Ent.toRo_rf]
      rw [e1, e] at e4
      injection e4 with e4
      injection e4 with e4 e5
      subst e4 e5
      exact ⟨_, _, eG, e2, e3⟩
theorem told_twoR {h : Hp} {v v' : V} {n n' : Nat} {f f1 f' f1' : Nat → Int} {rest : List V} (hv : rdR h v n f f1) (hv' : rdR h v' n' f' f1') (hf : flatL rest) : ∃ (b : Option Addr) (N i c : Nat) (F F1 : Nat → Int) (b' : Option Addr) (N' i' c' : Nat) (F' F1' : Nat → Int), i + n ≤ N ∧ (∀ j, j < n → f j = F (i + j) ∧ f1 j = F1 (i + j)) ∧ i' + n' ≤ N' ∧ (∀ j, j < n' → f' j = F' (i' + j) ∧ f1' j = F1' (i' + j)) ∧
    Told h (v :: v' :: rest) [(2000, .ro b N 2 (g2 .i64 .i64 F F1)), (2001, .ro b' N' 2 (g2 .i64 .i64 F' F1'))] (.slice 2000 i n c :: .slice 2001 i' n' c' :: rest) := by
  obtain ⟨b, N, i, c, F, F1, h1, h2, h3⟩ := rd_oneR hv 2000
  obtain ⟨b', N', i', c', F', F1', h1', h2', h3'⟩ := rd_oneR hv' 2001
  refine ⟨b, N, i, c, F, F1, b', N', i', c', F', F1', h1, h2, h1', h2', ⟨fun hr hvv => ?_⟩⟩
  obtain ⟨y, ys, rfl, ry, y', ys', rfl, ry', rys⟩ := hvv
  obtain ⟨k1, k2⟩ := h3 _ _ _ hr ry
  obtain ⟨k1', k2'⟩ := h3' _ _ _ hr ry'
  exact ⟨rel_ros ⟨k1.1, k1'⟩ hr.qtabs, y, _, rfl, k2 _ rfl, y', ys', rfl, k2' _ rfl, flatL_rel _ _ hf rys⟩

end Go.Proofs.Ytgcnknhfphgfnaa.Sx
