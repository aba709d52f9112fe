/- A net's circuit: its nodes' bits, its latches, its properties. -/
import Derived.Test.YtfjdhdmbbfeigaaPnC1
namespace Go.Proofs.Ytfjdhdmbbfeigaa.Am
set_option linter.unusedVariables false
set_option linter.unusedSimpArgs false
/-- What the nodes up to one weigh. -/
def wts (N : List Nd) : Nat → Int
  | 0 => 0
  | j + 1 => wts N j + wtN (Kiiiiiii_at N (j : Int)).1 (Kiiiiiii_at N (j : Int)).2.1 (Kiiiiiii_at N (j : Int)).2.2.2.2.2.2
theorem lo_of {N : List Nd} {j : Nat} (hall : ∀ i : Nat, i < j → NodeP N i) (h : NodeP N j) : 0 ≤ (Kiiiiiii_at N (j : Int)).2.2.2.2.2.2 ∧ (Kiiiiiii_at N (j : Int)).2.2.2.2.2.2 ≤ 16 := by
  have ha := wid_le hall (Kiiiiiii_at N j).2.2.1
  have hb := wid_le hall (Kiiiiiii_at N j).2.2.2.1
  rcases h.fit with ⟨o, f1, f2, f3⟩ | ⟨o, f1, f2⟩ | ⟨o, f1, f2, f3⟩ | ⟨o, f1, f2, f3, f4⟩ | ⟨o, f1, f2, f3, f4⟩ | ⟨o, f1, f2, f3, f4, f5⟩ | ⟨o, f1, f2, f3, f4, f5⟩ | ⟨o, f1, f2, f3, f4, f5⟩ | ⟨o, f1, f2, f3, f4⟩ <;> omega
theorem wt_bnd {op w lo : Int} (hw : 0 ≤ w ∧ w ≤ 16) (hlo : 0 ≤ lo ∧ lo ≤ 16) : 0 ≤ wtN op w lo ∧ wtN op w lo ≤ 5120 := by
  have h1 : w * w ≤ 16 * 16 := Int.mul_le_mul hw.2 hw.2 hw.1 (by omega)
  have h0 : 0 ≤ w * w := Int.mul_nonneg hw.1 hw.1
  have e : 20 * w * w = 20 * (w * w) := Int.mul_assoc _ _ _
  unfold wtN
  split
  · omega
  · split
    · omega
    · split <;> omega
theorem wts_bnd {N : List Nd} (hall : ∀ i : Nat, i < N.length → NodeP N i) : ∀ j : Nat, j ≤ N.length → 0 ≤ wts N j ∧ wts N j ≤ 5120 * j
  | 0, _ => by simp [wts]
  | j + 1, h => by
    have ih := wts_bnd hall j (by omega)
    have hj := hall j (by omega)
    have := wt_bnd (op := (Kiiiiiii_at N (j : Int)).1) (w := (Kiiiiiii_at N (j : Int)).2.1) (lo := (Kiiiiiii_at N (j : Int)).2.2.2.2.2.2) ⟨by have := hj.w1; omega, hj.w16⟩ (lo_of (fun i hi => hall i (by omega)) hj)
    simp only [wts]
    omega
theorem wts_mono {N : List Nd} (hall : ∀ i : Nat, i < N.length → NodeP N i) {j k : Nat} (hk : k ≤ N.length) (hjk : j ≤ k) : wts N j ≤ wts N k := by
  induction k with
  | zero => have : j = 0 := by omega
            subst this; exact Int.le_refl _
  | succ k ih =>
    rcases Nat.lt_or_ge j (k + 1) with h | h
    · have h1 := ih (by omega) (by omega)
      have hj := hall k (by omega)
      have := wt_bnd (op := (Kiiiiiii_at N (k : Int)).1) (w := (Kiiiiiii_at N (k : Int)).2.1) (lo := (Kiiiiiii_at N (k : Int)).2.2.2.2.2.2) ⟨by have := hj.w1; omega, hj.w16⟩ (lo_of (fun i hi => hall i (by omega)) hj)
      simp only [wts]
      omega
    · have : j = k + 1 := by omega
      subst this; exact Int.le_refl _
section
variable {n : Nat} {N : List Nd} {I : List Pn} {C : List Cl} {P : List Pw} {Q : List Pn}
theorem weight15_f (s : Small N I C P Q) (r : RightP N I C P Q) (hn : 30000 < n) : ref15_Weight n N I C P Q = some (wts N N.length, ()) := by
  have hN := s.n
  have l1 := iter_up (F := ref15_Weight_l1b n N) (fun j => (wts N j, (j : Int), ())) (wts N N.length, ()) (len := N.length) (m := n)
    (fun self j hj => by
      have hb := wts_bnd r.nodes (j + 1) hj
      have hj' := r.nodes j hj
      unfold ref15_Weight_l1b
      simp only [cond_dec]
      rw [if_pos (by omega), ask_of (by omega), wtN_f ⟨by have := hj'.w1; omega, hj'.w16⟩ (lo_of (fun i hi => r.nodes i (by omega)) hj'), bindS, succ64 (by omega)]
      simp only
      rw [w64 (by simp only [wts] at hb; omega) (by simp only [wts] at hb; omega)]
      rfl)
    (fun self => by
      unfold ref15_Weight_l1b
      simp only [cond_dec]
      rw [if_neg (by omega)]) (by omega)
  unfold ref15_Weight
  rw [show ref15_Weight_l1 n N (0, 0, ()) = _ from l1, bindS]
/-- The nodes of inputs and cells. -/
def LLof (I : List Pn) (C : List Cl) : List Int := pinN I ++ celN C
theorem frm_in {N : List Nd} {op : Int} : ∀ (d i j : Nat), i ≤ j → j < i + d → (Kiiiiiii_at N (j : Int)).1 = op → (j : Int) ∈ frm N op i d
  | 0, i, j, h1, h2, _ => by omega
  | d + 1, i, j, h1, h2, h3 => by
    unfold frm
    by_cases c : i = j
    · subst c; rw [if_pos h3]; exact List.mem_cons_self
    · have := frm_in d (i + 1) j (by omega) (by omega) h3
      split
      · exact List.mem_cons_of_mem _ this
      · exact this
theorem LL_mem (r : RightP N I C P Q) {x : Int} : x ∈ LLof I C ↔ 0 ≤ x ∧ x < N.length ∧ ((Kiiiiiii_at N x).1 = 21 ∨ (Kiiiiiii_at N x).1 = 22) := by
  unfold LLof pinN celN
  rw [r.ins, r.cells, List.mem_append]
  constructor
  · rintro (h | h)
    · have := frm_mem _ _ _ h; exact ⟨by omega, by omega, .inl this.2.2⟩
    · have := frm_mem _ _ _ h; exact ⟨by omega, by omega, .inr this.2.2⟩
  · rintro ⟨h0, h1, h2⟩
    obtain ⟨j, rfl⟩ := Int.eq_ofNat_of_zero_le h0
    rcases h2 with h | h
    · exact .inl (frm_in _ _ _ (by omega) (by omega) h)
    · exact .inr (frm_in _ _ _ (by omega) (by omega) h)
theorem LL_there (r : RightP N I C P Q) : There N (LLof I C) := by
  have h1 := r.i
  have h2 := r.c
  refine ⟨by simp [LLof, pinN, celN]; omega, fun x hx => ?_⟩
  obtain ⟨a, b, -⟩ := (LL_mem r).1 hx
  have := node_at r.nodes a b
  exact ⟨a, b, by have := this.w1; omega, this.w16⟩
theorem LL_nodup (r : RightP N I C P Q) : (LLof I C).Nodup := by
  unfold LLof pinN celN
  rw [r.ins, r.cells]
  refine List.nodup_append.2 ⟨frm_nodup _ _, frm_nodup _ _, fun a ha b hb e => ?_⟩
  have h1 := (frm_mem _ _ _ ha).2.2
  have h2 := (frm_mem _ _ _ hb).2.2
  rw [e, h2] at h1
  omega
theorem pins_there (r : RightP N I C P Q) : There N (pinN I) := by
  have h := LL_there r
  exact ⟨by have := h.1; simp [LLof] at this; omega, fun x hx => h.2 x (List.mem_append_left _ hx)⟩
theorem cells_there (r : RightP N I C P Q) : There N (celN C) := by
  have h := LL_there r
  exact ⟨by have := h.1; simp [LLof] at this; omega, fun x hx => h.2 x (List.mem_append_right _ hx)⟩
theorem doN_dep {op w u lo : Int} {wa wb wc W K : Nat} (h : NodeOK op w u lo wa wb wc W K) {x y z v x' y' z' v' : Int} (ha : 0 < wa → x = x') (hb : 0 < wb → y = y') (hc : 0 < wc → z = z') (hv : op = 17 → v = v') : doN op w u lo x y z v = doN op w u lo x' y' z' v' := by
  unfold doN
  cases h with
  | lit k N h1 h2 h3 => simp only [Int.reduceEq, ↓reduceIte]
  | inv k h1 h2 => rw [ha (by omega)]; simp only [Int.reduceEq, ↓reduceIte]
  | red op k h0 h1 h2 => rw [ha (by omega)]; rcases h0 with rfl | rfl <;> simp only [Int.reduceEq, ↓reduceIte]
  | two op k h0 h1 h2 => rw [ha (by omega), hb (by omega)]; rcases h0 with rfl | rfl | rfl | rfl | rfl <;> simp only [Int.reduceEq, ↓reduceIte]
  | mul k h1 h2 => rw [ha (by omega), hb (by omega)]; simp only [Int.reduceEq, ↓reduceIte]
  | ord op k h0 h1 h2 => rw [ha (by omega), hb (by omega)]; rcases h0 with rfl | rfl | rfl | rfl <;> simp only [Int.reduceEq, ↓reduceIte]
  | mux k h1 h2 => rw [ha (by omega), hb (by omega), hc (by omega)]; simp only [Int.reduceEq, ↓reduceIte]
  | cat a b h1 h2 h3 => rw [ha (by omega), hb (by omega), hv rfl]; simp only [Int.reduceEq, ↓reduceIte]
  | slice k N L h1 h2 h3 => rw [ha (by omega)]; simp only [Int.reduceEq, ↓reduceIte]
theorem NodeOK.cat_pos {op w u lo : Int} {wa wb wc W K : Nat} (h : NodeOK op w u lo wa wb wc W K) (ho : op = 17) : 0 < wb := by
  cases h <;> omega
/-- What a node's bits mean, by its operands'. -/
def MeanAt (N : List Nd) (V : List Bool) (M : List (Int × List Int)) (i : Nat) : Prop := ∀ x y z v : Int, (0 < wid N (Kiiiiiii_at N i).2.2.1 i → x = (nb (bv V (Mi_Li_get M (Kiiiiiii_at N i).2.2.1 [])) : Nat)) → (0 < wid N (Kiiiiiii_at N i).2.2.2.1 i → y = (nb (bv V (Mi_Li_get M (Kiiiiiii_at N i).2.2.2.1 [])) : Nat)) → (0 < wid N (Kiiiiiii_at N i).2.2.2.2.1 i → z = (nb (bv V (Mi_Li_get M (Kiiiiiii_at N i).2.2.2.2.1 [])) : Nat)) → ((Kiiiiiii_at N i).1 = 17 → v = wid N (Kiiiiiii_at N i).2.2.2.1 i) → ((nb (bv V (Mi_Li_get M (i : Int) [])) : Nat) : Int) = doN (Kiiiiiii_at N i).1 (Kiiiiiii_at N i).2.1 (Kiiiiiii_at N i).2.2.2.2.2.1 (Kiiiiiii_at N i).2.2.2.2.2.2 x y z v
theorem MeanAt.put {N : List Nd} {V : List Bool} {M : List (Int × List Int)} {i j : Nat} {l : List Int} (h : MeanAt N V M i) (hij : i < j) : MeanAt N V (Mi_Li_put M (j : Int) l) i := by
  have old : ∀ x : Int, x ≠ (j : Int) → Mi_Li_get (Mi_Li_put M (j : Int) l) x [] = Mi_Li_get M x [] := fun x hx => by rw [li_get, if_neg hx]
  have op : ∀ {a : Int}, 0 < wid N a i → Mi_Li_get (Mi_Li_put M (j : Int) l) a [] = Mi_Li_get M a [] := fun {a} q => old a fun e => by
    have := (wid_pos q).2.1
    omega
  intro x y z v hx hy hz hv
  rw [old _ (by omega)]
  exact h x y z v (fun q => by rw [hx q, op q]) (fun q => by rw [hy q, op q]) (fun q => by rw [hz q, op q]) hv
/-- The bits of the nodes up to one, in a graph. -/
structure BitsOK (N : List Nd) (LL : List Int) (ins : Int) (G : List Kii) (M : List (Int × List Int)) (j : Nat) : Prop where
  r : RG ins G
  pre : ∀ i : Nat, i < LL.length → Mi_Li_get M (Ki_at LL (i : Int)) [] = varB (1 + wl N (LL.take i)) (wN N (Ki_at LL (i : Int)))
  has : ∀ x, Mi_Li_has M x = true ↔ (x ∈ LL ∨ 0 ≤ x ∧ x < (j : Int))
  ok : ∀ x : Int, (x ∈ LL ∨ 0 ≤ x ∧ x < (j : Int)) → Lits ins G (Mi_Li_get M x []) ∧ (Mi_Li_get M x []).length = wN N x
  mean : ∀ V, Mod ins G V → ∀ i : Nat, i < j → ¬ ((Kiiiiiii_at N i).1 = 21 ∨ (Kiiiiiii_at N i).1 = 22) → MeanAt N V M i
theorem varB_lits {ins : Int} {G : List Kii} {first w : Nat} (r : RG ins G) (h : (first + w : Int) ≤ ins + 1) : Lits ins G (varB first w) := fun x hx => by
  obtain ⟨k, hk, rfl⟩ := List.mem_map.1 hx
  have := List.mem_range.1 hk
  have := r.i0
  simp [LitG]
  omega
theorem wl_sum {N : List Nd} : ∀ (l : List Cl), (∀ c ∈ l, 0 ≤ (Kiiiiiii_at N c.2.1).2.1) → ((wl N (l.map (·.2.1)) : Nat) : Int) = wsum N l
  | [], _ => rfl
  | c :: l, h => by
    have ih := wl_sum l fun c hc => h c (by simp [hc])
    have hc := h c (by simp)
    simp only [List.map_cons, wl, wsum, List.sum_cons] at ih ⊢
    unfold wN
    omega
theorem wl_cells (r : RightP N I C P Q) : wl N (celN C) ≤ 256 := by
  have := wl_sum (N := N) C fun c hc => ((cells_there r).2 _ (List.mem_map.2 ⟨c, hc, rfl⟩)).2.2.1
  have hb := r.bits
  unfold celN
  omega
theorem bits_start (r : RightP N I C P Q) {M : List (Int × List Int)} (hM : VarsOK N (LLof I C) M (LLof I C).length) : BitsOK N (LLof I C) (wl N (LLof I C)) [] M 0 := by
  have ht := LL_there r
  have hw := ht.w (LLof I C).length
  rw [List.take_length] at hw
  have hw2 : wl N (LLof I C) ≤ 5000 := by
    have h1 : wl N (pinN I) ≤ 16 * 64 := by
      have := wl_le (N := N) (l := pinN I) fun x hx => by
        have := (pins_there r).2 x hx
        unfold wN; omega
      have h2 := r.i
      simp [pinN] at this
      unfold pinN
      omega
    have h2 := wl_cells r
    rw [LLof, wl_app]
    omega
  have r0 : RG (wl N (LLof I C)) [] := ⟨by omega, by omega, by simp, fun j hj => by simp at hj, fun i j _ hj => by simp at hj⟩
  obtain ⟨h1, h2⟩ := hM
  refine ⟨r0, fun i hi => h1 i hi, fun x => ?_, fun x hx => ?_, fun V hV i hi => absurd hi (Nat.not_lt_zero _)⟩
  · rw [h2, List.take_length]
    constructor
    · exact .inl
    · rintro (h | h)
      · exact h
      · omega
  · have hx : x ∈ LLof I C := hx.elim id fun h => by omega
    obtain ⟨i, hi, rfl⟩ := List.mem_iff_getElem.1 hx
    have e : Ki_at (LLof I C) (i : Int) = (LLof I C)[i] := at_nat (t := i_) hi
    rw [← e, h1 i hi]
    refine ⟨varB_lits r0 ?_, by simp [varB]⟩
    have := wl_take (N := N) (l := LLof I C) hi
    have h3 : wl N (LLof I C) = wl N ((LLof I C).take (i + 1)) + wl N ((LLof I C).drop (i + 1)) := by rw [← wl_app, List.take_append_drop]
    omega
theorem nodes_f {ins : Int} {M0 : List (Int × List Int)} {L : List Kiii} (s : Small N I C P Q) (r : RightP N I C P Q) (hw : wts N N.length ≤ 6000) (h0 : BitsOK N (LLof I C) ins [] M0 0) (hn : 30000 < n) : ∃ G M, circ_compiler_nodes_i2 n ins N I C P Q L M0 = some (ins, G, N, I, C, P, Q, L, M, ()) ∧ BitsOK N (LLof I C) ins G M N.length ∧ (G.length : Int) ≤ 6000 := by
  have hN := s.n
  obtain ⟨R, e, G, M, hR, hM, hG⟩ := iter_ex (F := circ_compiler_nodes_i2_l1b n N) (len := N.length) (m := n) (d := (0, ins, [], N, I, C, P, Q, M0, ()))
    (fun j d => ∃ G M, d = ((j : Int), ins, G, N, I, C, P, Q, M, ()) ∧ BitsOK N (LLof I C) ins G M j ∧ (G.length : Int) ≤ wts N j)
    (fun R => ∃ G M, R = (ins, G, N, I, C, P, Q, M, ()) ∧ BitsOK N (LLof I C) ins G M N.length ∧ (G.length : Int) ≤ wts N N.length)
    (fun self j d hj ⟨G, M, hd, hB, hG⟩ => by
      subst hd
      have hm := wts_mono r.nodes (Nat.le_refl _) hj
      have hm0 := wts_mono r.nodes (Nat.le_refl _) (Nat.le_of_lt hj)
      have hnode := r.nodes j hj
      have hall : ∀ i : Nat, i < j → NodeP N i := fun i hi => r.nodes i (by omega)
      have hwt := wt_bnd (op := (Kiiiiiii_at N (j : Int)).1) (w := (Kiiiiiii_at N (j : Int)).2.1) (lo := (Kiiiiiii_at N (j : Int)).2.2.2.2.2.2) ⟨by have := hnode.w1; omega, hnode.w16⟩ (lo_of hall hnode)
      unfold circ_compiler_nodes_i2_l1b
      simp only [cond_dec, cond_if, decide_eq_true_eq]
      rw [if_pos (by omega), ask_of (by omega), ask_of trivial, succ64 (by omega)]
      by_cases ho : (Kiiiiiii_at N (j : Int)).1 = 21 ∨ (Kiiiiiii_at N (j : Int)).1 = 22
      · have hin : (j : Int) ∈ LLof I C := (LL_mem r).2 ⟨by omega, by omega, ho⟩
        rw [if_pos ((hB.has _).2 (.inl hin))]
        refine ⟨_, rfl, G, M, rfl, ⟨hB.r, hB.pre, fun x => ?_, fun x hx => ?_, fun V hV i hi ho' => hB.mean V hV i (by
            rcases Nat.lt_or_ge i j with q | q
            · exact q
            · have : i = j := by omega
              subst this
              exact absurd ho ho') ho'⟩, by simp only [wts]; omega⟩
        · rw [hB.has]
          constructor
          · rintro (h | h)
            · exact .inl h
            · exact .inr (by omega)
          · rintro (h | h)
            · exact .inl h
            · by_cases c : x = (j : Int)
              · subst c; exact .inl hin
              · exact .inr (by omega)
        · refine hB.ok x ?_
          rcases hx with h | h
          · exact .inl h
          · by_cases c : x = (j : Int)
            · subst c; exact .inl hin
            · exact .inr (by omega)
      · have hno : ¬ Mi_Li_has M (j : Int) = true := fun h => by
          rcases (hB.has _).1 h with h | h
          · exact ho ((LL_mem r).1 h).2.2
          · omega
        obtain ⟨wa, wb, wc, W, K, hok, hW, hK, qa, qb, qc⟩ := node_ok hall hnode ho
        have opn : ∀ {a : Int} {k : Nat}, wid N a j = (k : Int) → 0 < k → Lits ins G (Mi_Li_get M a []) ∧ (Mi_Li_get M a []).length = k := fun {a k} h hk => by
          obtain ⟨b0, b1, b2⟩ := wid_pos (N := N) (a := a) (i := j) (by omega)
          obtain ⟨c1, c2⟩ := hB.ok a (.inr ⟨b0, b1⟩)
          exact ⟨c1, by rw [c2]; unfold wN; omega⟩
        have hg2 : G.length ≤ 6000 := by omega
        obtain ⟨t, l, e, ht, hr, hl, hls, hv⟩ := Do_all2 (n := n) (k0 := 0) (p := (Kiiiiiii_at N (j : Int)).2.2.1) (q := (Kiiiiiii_at N (j : Int)).2.2.2.1) (s := (Kiiiiiii_at N (j : Int)).2.2.2.2.1) (A := Mi_Li_get M (Kiiiiiii_at N (j : Int)).2.2.1 []) (B := Mi_Li_get M (Kiiiiiii_at N (j : Int)).2.2.2.1 []) (C := Mi_Li_get M (Kiiiiiii_at N (j : Int)).2.2.2.2.1 []) hB.r (by omega) hok (fun h => opn (qa h) h) (fun h => opn (qb h) h) (fun h => opn (qc h) h) hn
        rw [if_neg hno, ask_of trivial, ask_of trivial, ask_of trivial, e, bindS]
        have hjn : (j : Int) ∉ LLof I C := fun h => ho ((LL_mem r).1 h).2.2
        have old : ∀ x : Int, x ≠ (j : Int) → Mi_Li_get (Mi_Li_put M (j : Int) l) x [] = Mi_Li_get M x [] := fun x hx => by rw [li_get, if_neg hx]
        refine ⟨_, rfl, G ++ t, Mi_Li_put M (j : Int) l, rfl, ⟨hr, fun i hi => ?_, fun x => ?_, fun x hx => ?_, fun V hV i hi ho' => ?_⟩, by simp only [wts]; simp; omega⟩
        · have hmem : Ki_at (LLof I C) (i : Int) ∈ LLof I C := at_mem (t := i_) hi
          rw [old _ fun h => hjn (h ▸ hmem)]
          exact hB.pre i hi
        · rw [li_has, hB.has]
          constructor
          · rintro (h | h | h)
            · exact .inr (by omega)
            · exact .inl h
            · exact .inr (by omega)
          · rintro (h | h)
            · exact .inr (.inl h)
            · by_cases c : x = (j : Int)
              · exact .inl c
              · exact .inr (.inr (by omega))
        · by_cases c : x = (j : Int)
          · subst c
            rw [li_get, if_pos rfl]
            exact ⟨hls, by rw [hl]; unfold wN; omega⟩
          · rw [old x c]
            obtain ⟨c1, c2⟩ := hB.ok x (hx.imp id fun h => by omega)
            exact ⟨c1.more, c2⟩
        · by_cases c : i = j
          · subst c
            have hv' := hv V hV 0
            unfold vd at hv'
            simp only [Option.some.injEq, Prod.mk.injEq, and_true] at hv'
            intro x y z v hx hy hz hv2
            have op : ∀ {a : Int}, 0 < wid N a i → Mi_Li_get (Mi_Li_put M (i : Int) l) a [] = Mi_Li_get M a [] := fun {a} q => old a fun e => by
              have := (wid_pos q).2.1
              omega
            rw [li_get, if_pos rfl, ← hv']
            exact doN_dep hok (fun q => by
              have e := qa q
              rw [hx (by omega), op (by omega)]) (fun q => by
              have e := qb q
              rw [hy (by omega), op (by omega)]) (fun q => by
              have e := qc q
              rw [hz (by omega), op (by omega)]) (fun q => by
              have e := hv2 q
              have hb := hok.cat_pos q
              rw [e, qb hb])
          · exact (hB.mean V hV.pre i (by omega) ho').put (by omega))
    (fun self d ⟨G, M, hd, hB, hG⟩ => by
      subst hd
      unfold circ_compiler_nodes_i2_l1b
      simp only [cond_dec]
      rw [if_neg (by omega)]
      exact ⟨_, rfl, G, M, rfl, hB, hG⟩) (by omega) ⟨[], M0, rfl, h0, by simp [wts]⟩
  subst hR
  unfold circ_compiler_nodes_i2
  rw [show circ_compiler_nodes_i2_l1 n N (0, ins, [], N, I, C, P, Q, M0, ()) = _ from e, bindS]
  exact ⟨G, M, rfl, hM, by omega⟩
end
end Go.Proofs.Ytfjdhdmbbfeigaa.Am
