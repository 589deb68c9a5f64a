/-
  The law CheckFirst, what it hangs on: a list of events behind another one; what is told of a beginning.
-/
import Derived.Test.YtiefkpfjmbifcaaL4
import Derived.Laws.OwnMore
namespace Go.Proofs.Ytiefkpfjmbifcaa
open Go.RowKit Go.Maps

/-- 'append' onto what is owned, whatever the shape of what is appended. -/
theorem wpList_append_ev {ops : Array Oper} {rest : List Oper} {o : Oper} {a : Act} {Q : Exit → Act → World → Prop} (w : World) (hg : o.guard = none) (s x : Operand)
    (ho : o.op = .call { callee := .builtin .append, args := #[s, x], argTypes := #[22, 22] })
    (base : Nat) (i : TypeInfo) (z : Value) (hi : Try.prog.info? 38 = some i) (hz : i.zero = some z) (hsize : i.size = 14) (hby : i.bytes = 152) (hzs : z.cells.size = 14)
    (v : Value) (n : Nat) (xs : List Value) (hs : a.eval s = v) (hown : w.ownsRow base 38 14 v n xs)
    (ao : Option Addr) (m c : Nat) (news : List Value) (hx : a.eval x = .slice ao m c) (hl : news.length = m * 14) (hnone : ao = none → m = 0 ∧ c = 0)
    (hnews : ∀ ad, ao = some ad → ∀ j u, news[j]? = some u → w.cell? (ad.add j) = some u) (h1 : ∀ u ∈ news, u.oneCell' = true)
    (hlen : n + m ≤ 2097152) (hbase : base ≤ w.heap.size)
    (h : ∀ v' w', w'.ownsRow base 38 14 v' (n + m) (xs ++ news) → w.grownBy w' v.ownBlock → wpList Try.prog ops Q rest (a.put o.dst v') w') : wpList Try.prog ops Q (o :: rest) a w := by
  cases ao with
  | some ad => exact wpList_append_own w hg s x 22 ho base 38 i z 14 152 Try.underlying22 hi hz hsize hby hzs (by omega) v n xs hs hown ad m c news hx hl (hnews ad rfl) h1 (by unfold maxLen; omega) (by omega) hbase (fun v' w' h2 h3 _ => h v' w' h2 h3)
  | none =>
    obtain ⟨rfl, rfl⟩ := hnone rfl
    have hnews : news = [] := List.eq_nil_of_length_eq_zero (by simpa using hl)
    subst hnews
    refine wpList_plain hg fun K hK' => ?_
    have hrun := run_append_owned_none (P := Try.prog) w base 22 o.type 38 i 14 Try.underlying22 hi v n xs hown
    unfold Oper.wp
    simp [execOp, ho, resolve, invoke, builtin, hs, hx, hrun, Result.andThen]
    exact hK' _ _ (by simpa using h v w (by simpa using hown) (World.grownBy.refl _ _))

/-- A list of events behind another one. -/
def catF (ev : Nat → Ev) (n : Nat) (more : Nat → Ev) : Nat → Ev := fun k => if k < n then ev k else more (k - n)
theorem row_congr {ev ev' : Nat → Ev} : ∀ {n : Nat}, (∀ k, k < n → ev k = ev' k) → rowOf ev n = rowOf ev' n
  | 0, _ => rfl
  | n + 1, h => by rw [rowOf, rowOf, row_congr (fun k hk => h k (by omega)), h n (by omega)]
theorem row_cat (ev : Nat → Ev) (n : Nat) (more : Nat → Ev) : ∀ m, rowOf (catF ev n more) (n + m) = rowOf ev n ++ rowOf more m
  | 0 => by
    rw [Nat.add_zero, rowOf, List.append_nil]
    exact row_congr (fun k hk => if_pos hk)
  | m + 1 => by
    rw [← Nat.add_assoc, rowOf, row_cat ev n more m, rowOf, List.append_assoc]
    congr 2
    unfold catF
    rw [if_neg (by omega)]
    congr 2
    omega
theorem evL_one (e : Ev) : ∀ u ∈ evL e, u.oneCell' = true := fun u hu => by
  simp [evL] at hu
  rcases hu with rfl | rfl | rfl | rfl | rfl | rfl | rfl | rfl | rfl | rfl | rfl | rfl | rfl | rfl <;> rfl
theorem row_one (ev : Nat → Ev) : ∀ n, ∀ u ∈ rowOf ev n, u.oneCell' = true
  | 0, u, hu => by simp [rowOf] at hu
  | n + 1, u, hu => by
    rw [rowOf] at hu
    rcases List.mem_append.1 hu with h | h
    · exact row_one ev n u h
    · exact evL_one _ u h
/-- The cells of a list of events, one behind the other. -/
theorem evs_cells {w : World} {B0 : Nat} {ao : Option Addr} {n : Nat} {ev : Nat → Ev} (h : Evs w B0 ao n ev) : ∀ ad, ao = some ad → ∀ j u, (rowOf ev n)[j]? = some u → w.cell? (ad.add j) = some u := fun ad ha j u hj => by
  have hjl : j < n * 14 := by
    have := (List.getElem?_eq_some_iff.1 hj).1
    rwa [row_len] at this
  obtain ⟨b, off, e, -, ⟨a0, a1, a2, a3, a4, a5, a6, a7, a8, a9, a10, a11, a12, a13⟩, -, -⟩ := h (j / 14) (by omega)
  rw [ha] at e
  injection e with e
  subst e
  have hadd : (⟨b, off, none⟩ : Addr).add j = ⟨b, off + j, none⟩ := by unfold Addr.add; split <;> simp_all
  rw [hadd]
  have hr := row_at ev n (j / 14) (by omega) (j % 14) (by omega)
  rw [show j / 14 * 14 + j % 14 = j from by omega, hj] at hr
  have key : ∀ i, i < 14 → j % 14 = i → w.cell? ⟨b, off + j, none⟩ = w.cell? ⟨b, off + j / 14 * 14 + i, none⟩ := fun i _ hi => by
    congr 2
    omega
  rcases (show j % 14 = 0 ∨ j % 14 = 1 ∨ j % 14 = 2 ∨ j % 14 = 3 ∨ j % 14 = 4 ∨ j % 14 = 5 ∨ j % 14 = 6 ∨ j % 14 = 7 ∨ j % 14 = 8 ∨ j % 14 = 9 ∨ j % 14 = 10 ∨ j % 14 = 11 ∨ j % 14 = 12 ∨ j % 14 = 13 from by omega) with e | e | e | e | e | e | e | e | e | e | e | e | e | e
  · rw [key 0 (by omega) e]; rw [e] at hr; simp [evL] at hr; rw [hr]; exact a0
  · rw [key 1 (by omega) e]; rw [e] at hr; simp [evL] at hr; rw [hr]; exact a1
  · rw [key 2 (by omega) e]; rw [e] at hr; simp [evL] at hr; rw [hr]; exact a2
  · rw [key 3 (by omega) e]; rw [e] at hr; simp [evL] at hr; rw [hr]; exact a3
  · rw [key 4 (by omega) e]; rw [e] at hr; simp [evL] at hr; rw [hr]; exact a4
  · rw [key 5 (by omega) e]; rw [e] at hr; simp [evL] at hr; rw [hr]; exact a5
  · rw [key 6 (by omega) e]; rw [e] at hr; simp [evL] at hr; rw [hr]; exact a6
  · rw [key 7 (by omega) e]; rw [e] at hr; simp [evL] at hr; rw [hr]; exact a7
  · rw [key 8 (by omega) e]; rw [e] at hr; simp [evL] at hr; rw [hr]; exact a8
  · rw [key 9 (by omega) e]; rw [e] at hr; simp [evL] at hr; rw [hr]; exact a9
  · rw [key 10 (by omega) e]; rw [e] at hr; simp [evL] at hr; rw [hr]; exact a10
  · rw [key 11 (by omega) e]; rw [e] at hr; simp [evL] at hr; rw [hr]; exact a11
  · rw [key 12 (by omega) e]; rw [e] at hr; simp [evL] at hr; rw [hr]; exact a12
  · rw [key 13 (by omega) e]; rw [e] at hr; simp [evL] at hr; rw [hr]; exact a13
/-- Events out of a row of cells. -/
theorem evs_block {w : World} {B : Nat} {b : Nat} {cur : Array Value} {t : TypeId} {n : Nat} {ev : Nat → Ev} (hbB : b < B) (hb : w.heap[b]? = some (.cells cur t (0, 0))) (hL : ∀ k, k < n → ∀ i, i < 14 → cur[k * 14 + i]? = (evL (ev k))[i]?) (hok : ∀ k, k < n → (ev k).Ok) (hr : ∀ k, k < n → Rng w B (ev k).f.la (ev k).f.ln (ev k).f.rs) :
    Evs w B (some ⟨b, 0, none⟩) n ev := fun k hk => by
  have hc : ∀ j, w.cell? ⟨b, j, none⟩ = cur[j]? := fun j => cell_of_row w b j cur t (0, 0) hb
  refine ⟨b, 0, rfl, hbB, ⟨?_, ?_, ?_, ?_, ?_, ?_, ?_, ?_, ?_, ?_, ?_, ?_, ?_, ?_⟩, hok k hk, hr k hk⟩
  · have := hL k hk 0 (by omega); rw [hc, Nat.zero_add]; exact this
  · have := hL k hk 1 (by omega); rw [hc, Nat.zero_add]; exact this
  · have := hL k hk 2 (by omega); rw [hc, Nat.zero_add]; exact this
  · have := hL k hk 3 (by omega); rw [hc, Nat.zero_add]; exact this
  · have := hL k hk 4 (by omega); rw [hc, Nat.zero_add]; exact this
  · have := hL k hk 5 (by omega); rw [hc, Nat.zero_add]; exact this
  · have := hL k hk 6 (by omega); rw [hc, Nat.zero_add]; exact this
  · have := hL k hk 7 (by omega); rw [hc, Nat.zero_add]; exact this
  · have := hL k hk 8 (by omega); rw [hc, Nat.zero_add]; exact this
  · have := hL k hk 9 (by omega); rw [hc, Nat.zero_add]; exact this
  · have := hL k hk 10 (by omega); rw [hc, Nat.zero_add]; exact this
  · have := hL k hk 11 (by omega); rw [hc, Nat.zero_add]; exact this
  · have := hL k hk 12 (by omega); rw [hc, Nat.zero_add]; exact this
  · have := hL k hk 13 (by omega); rw [hc, Nat.zero_add]; exact this
/-- What was appended is a list of events. -/
theorem evs_cat {w : World} {base : Nat} {v : Value} {n m B0 : Nat} {ev more : Nat → Ev} {A A' : Option Addr} (h : w.ownsRow base 38 14 v (n + m) (rowOf ev n ++ rowOf more m)) (h1 : Evs w B0 A n ev) (h2 : Evs w B0 A' m more) (hB : B0 ≤ w.heap.size) :
    ∃ ao cap, v = .slice ao (n + m) cap ∧ Evs w w.heap.size ao (n + m) (catF ev n more) ∧ n + m ≤ cap := by
  obtain ⟨-, ⟨rfl, h0⟩ | ⟨g, cap, cur, rfl, -, hg, hcap, -, -, ht⟩⟩ := h
  · exact ⟨none, 0, by rw [h0], fun k hk => by omega, by omega⟩
  · refine ⟨_, cap, rfl, evs_block (Array.getElem?_eq_some_iff.1 hg).1 hg (fun k hk i hi => ?_) (fun k hk => ?_) (fun k hk => ?_), hcap⟩
    · have e : cur[k * 14 + i]? = (rowOf ev n ++ rowOf more m)[k * 14 + i]? := by
        rw [← ht, List.getElem?_take, if_pos (by omega)]
        simp
      rw [e, ← row_cat]
      exact row_at _ _ k hk i hi
    · unfold catF
      split
      · rename_i hk1
        obtain ⟨_, _, _, _, _, ho, _⟩ := h1 k hk1
        exact ho
      · obtain ⟨_, _, _, _, _, ho, _⟩ := h2 (k - n) (by omega)
        exact ho
    · unfold catF
      split
      · rename_i hk1
        obtain ⟨_, _, _, _, _, _, hr⟩ := h1 k hk1
        exact hr.up hB
      · obtain ⟨_, _, _, _, _, _, hr⟩ := h2 (k - n) (by omega)
        exact hr.up hB

/-! ### what is told of a beginning -/
theorem run_congr (N : ByteArray → Nat → Int) (side : Int) {ev ev' : Nat → Ev} : ∀ {j : Nat}, (∀ k, k < j → ev k = ev' k) → runF N side ev j = runF N side ev' j
  | 0, _ => rfl
  | j + 1, h => by rw [runF, runF, run_congr N side (fun k hk => h k (by omega)), h j (by omega)]
theorem bad_congr (N : ByteArray → Nat → Int) (side : Int) {ev ev' : Nat → Ev} {j : Nat} (h : ∀ k, k ≤ j → ev k = ev' k) : badF N side ev j = badF N side ev' j := by
  unfold badF
  rw [run_congr N side (fun k hk => h k (by omega)), h j (by omega)]
theorem verd_congr {N : ByteArray → Nat → Int} {side : Int} {ev ev' : Nat → Ev} {n : Nat} {ok : Bool} {r a : Int} (h : Verd N side ev n ok r a) (he : ∀ k, k < n → ev k = ev' k) : Verd N side ev' n ok r a := by
  rcases h with ⟨h1, h2, h3, h4⟩ | ⟨j, hj, h1, h2, h3, h4, h5⟩
  · exact .inl ⟨h1, h2, h3, fun j hj => by rw [← bad_congr N side (fun k hk => he k (by omega))]; exact h4 j hj⟩
  · have e : ∀ i, i ≤ j → badF N side ev i = badF N side ev' i := fun i hi => bad_congr N side (fun k hk => he k (by omega))
    exact .inr ⟨j, hj, h1, h2, by rw [← e j (Nat.le_refl _)]; exact h3, by rw [← e j (Nat.le_refl _)]; exact h4, fun i hi => by rw [← e i (by omega)]; exact h5 i hi⟩
theorem bytes_le (s : St) (f : Frm) : bytesF s f ≤ 13 := by
  unfold bytesF
  repeat' split
  all_goals omega
theorem frame_le (s : St) (e : Ev) : frameF s e ≤ 13 := by
  unfold frameF
  repeat' split
  all_goals first | omega | exact bytes_le _ _
theorem broken_le (s : St) (e : Ev) : brokenF s e ≤ 13 := by
  unfold brokenF
  repeat' split
  all_goals first | omega | exact frame_le _ _
/-- A trace that is wrong: by which rule, and where; and so is every longer one, in the same way; and what is ahead of it is right. -/
theorem verd_wrong {N : ByteArray → Nat → Int} {side : Int} {ev : Nat → Ev} {n : Nat} {r a : Int} (h : Verd N side ev n false r a) :
    ∃ j : Nat, j < n ∧ a = j ∧ 1 ≤ r ∧ r ≤ 13 ∧ (∀ k ok' r' a', Verd N side ev k ok' r' a' → (j < k → ok' = false ∧ r' = r ∧ a' = a) ∧ (k ≤ j → ok' = true)) := by
  rcases h with ⟨h1, -⟩ | ⟨j, hj, -, rfl, rfl, hb, hl⟩
  · cases h1
  · refine ⟨j, hj, rfl, hb, broken_le _ _, fun k ok' r' a' h' => ?_⟩
    rcases h' with ⟨rfl, -, -, h'⟩ | ⟨i, hi, rfl, rfl, rfl, hb', hl'⟩
    · exact ⟨fun hk => absurd hb (h' j hk), fun _ => rfl⟩
    · have hij : j < k → i = j := fun hk => by
        by_cases h1 : i < j
        · exact absurd hb' (hl i h1)
        · by_cases h2 : j < i
          · exact absurd hb (hl' j h2)
          · omega
      exact ⟨fun hk => by rw [hij hk]; exact ⟨rfl, rfl, rfl⟩, fun hk => absurd hb' (hl i (by omega))⟩
/-- A trace that is right: a longer one is right, or wrong behind it. -/
theorem verd_right {N : ByteArray → Nat → Int} {side : Int} {ev : Nat → Ev} {n : Nat} {r a : Int} (h : Verd N side ev n true r a) :
    r = 0 ∧ a = 0 ∧ ∀ k ok' r' a', Verd N side ev k ok' r' a' → ok' = true ∨ (ok' = false ∧ (n : Int) ≤ a') := by
  rcases h with ⟨-, h1, h2, h3⟩ | ⟨j, -, h1, -⟩
  · refine ⟨h1, h2, fun k ok' r' a' h' => ?_⟩
    rcases h' with ⟨rfl, -⟩ | ⟨i, hi, rfl, rfl, -, hb', -⟩
    · exact .inl rfl
    · have : ¬ i < n := fun hin => h3 i hin hb'
      exact .inr ⟨rfl, by omega⟩
  · cases h1
end Go.Proofs.Ytiefkpfjmbifcaa
