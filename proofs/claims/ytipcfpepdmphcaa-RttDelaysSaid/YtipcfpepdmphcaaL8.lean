/-
  The law RttDelays: the walk.
-/
import Derived.Test.YtipcfpepdmphcaaW6
import Derived.Test.YtipcfpepdmphcaaPure
import Derived.Test.YtipcfpepdmphcaaL4
import Derived.Deep.RegionWith
import Derived.Deep.DeepCutAuto
namespace Go.Proofs.Ytipcfpepdmphcaa
open Go.RowKit
def Nums (w : World) (B : Nat) (A : Option Addr) (n : Nat) (x : Nat → Int) : Prop :=
  ∀ k, k < n → ∃ b off, A = some ⟨b, off, none⟩ ∧ b < B ∧ w.cell? ⟨b, off + k, none⟩ = some (.int .u64 (x k)) ∧ Word (x k)
theorem Nums.below {w w' : World} {B : Nat} {A : Option Addr} {n : Nat} {x : Nat → Int} (h : Nums w B A n x) (hb : Below B w w') : Nums w' B A n x := fun k hk => by
  obtain ⟨b, off, e, hB, h0, h1⟩ := h k hk
  exact ⟨b, off, e, hB, (hb.cell hB).trans h0, h1⟩
theorem bcell {W x : World} (hp : Below W.heap.size W x) : ∀ b i, b < W.heap.size → x.cell? ⟨b, i, none⟩ = W.cell? ⟨b, i, none⟩ := fun _ _ h => hp.cell h
theorem bfrz {W x : World} (hp : Below W.heap.size W x) : ∀ b i, b < W.heap.size → x.frozen? ⟨b, i, none⟩ = W.frozen? ⟨b, i, none⟩ := fun _ _ h => hp.frozen h
def dlyE (x : Nat → Int) : Nat → Est
  | 0 => ⟨0, 0, 333, 166, false⟩
  | j + 1 => sampleE (dlyE x j) (x j % 1099511627777) 0
theorem dly_ok (x : Nat → Int) (j : Nat) : (dlyE x j).Ok ∧ (dlyE x j).Low := by
  induction j with
  | zero => exact ⟨first_ok, first_low⟩
  | succ j ih =>
    have h := sample_low ih.1 ih.2 (t := x j % 1099511627777) (d := 0) (by omega) (by omega) (by omega)
    exact ⟨h.1, h.2.1⟩

theorem next2 {a w w' : World} (hb : Below w.heap.size w w') (h : Below a.heap.size a w) : Below a.heap.size a w' := next h hb h.size
theorem A1 (w : World) {v0 v1 v2 v3 : Int} {vb : Bool} {t : TypeId} : EB (w.alloc (.cells #[.int .u64 v0, .int .u64 v1, .int .u64 v2, .int .u64 v3, .bool vb] t)) w.heap.size ⟨v0, v1, v2, v3, vb⟩ := EB.newAt rfl ⟨v0, v1, v2, v3, vb⟩ t
theorem A2 (w : World) (o : Obj) {v0 v1 v2 v3 : Int} {vb : Bool} {t : TypeId} : EB ((w.alloc (.cells #[.int .u64 v0, .int .u64 v1, .int .u64 v2, .int .u64 v3, .bool vb] t)).alloc o) w.heap.size ⟨v0, v1, v2, v3, vb⟩ := (A1 w).alloc o
theorem A3 (w : World) (o : Obj) {v0 v1 v2 v3 : Int} {vb : Bool} {t : TypeId} : EB ((w.alloc o).alloc (.cells #[.int .u64 v0, .int .u64 v1, .int .u64 v2, .int .u64 v3, .bool vb] t)) (w.heap.size + 1) ⟨v0, v1, v2, v3, vb⟩ := EB.newAt (by simp) ⟨v0, v1, v2, v3, vb⟩ t
theorem A1d (w : World) {v0 v1 v2 v3 : Int} {vb : Bool} {t : TypeId} : EB (w.alloc (.cells #[.int .u64 v0, .int .u64 v1, .int .u64 v2, .int .u64 v3, .bool vb] t)).drew w.heap.size ⟨v0, v1, v2, v3, vb⟩ := A1 w
theorem A2d (w : World) (o : Obj) {v0 v1 v2 v3 : Int} {vb : Bool} {t : TypeId} : EB ((w.alloc (.cells #[.int .u64 v0, .int .u64 v1, .int .u64 v2, .int .u64 v3, .bool vb] t)).alloc o).drew w.heap.size ⟨v0, v1, v2, v3, vb⟩ := A2 w o
theorem A3d (w : World) (o : Obj) {v0 v1 v2 v3 : Int} {vb : Bool} {t : TypeId} : EB ((w.alloc o).alloc (.cells #[.int .u64 v0, .int .u64 v1, .int .u64 v2, .int .u64 v3, .bool vb] t)).drew (w.heap.size + 1) ⟨v0, v1, v2, v3, vb⟩ := A3 w o
theorem S_of {wr w' : World} {b : Nat} {e : Est} (h : EB wr b e) (hb : Below wr.heap.size wr w') :
    Below wr.heap.size wr w' ∧ w'.cell? ⟨b, 0, none⟩ = some (.int .u64 e.la) ∧ w'.cell? ⟨b, 1, none⟩ = some (.int .u64 e.le) ∧ w'.cell? ⟨b, 2, none⟩ = some (.int .u64 e.sm) ∧ w'.cell? ⟨b, 3, none⟩ = some (.int .u64 e.va) ∧ w'.cell? ⟨b, 4, none⟩ = some (.bool e.kn) := ⟨hb, (h.below hb).2.1⟩
set_option maxRecDepth 100000 in
set_option maxHeartbeats 16000000 in
theorem delays_any (A : Option Addr) (n cap : Nat) (x : Nat → Int) (t d : Int) (w : World) (hx : Nums w w.heap.size A n x) (hn : n ≤ 9223372036854775807) (ht : Word t) (hd : Word d) :
    Calls Try.prog 8 #[.slice A n cap, .int .u64 t, .int .u64 d] w fun r w' => r = .returned (.bool true) ∧ Below w.heap.size w w' := by
  go_enter Try.func8, Try.ntmps8
  go_wp2_with (first | (go_at_call 10; refine (awake_any _).mono ?_; rintro r w1 ⟨rfl, hb⟩) | (go_at_call 17; refine (first_any _).mono ?_; rintro r w' ⟨rfl, c1, rfl⟩))
  have hs1 : w.heap.size ≤ w1.heap.size := hb.size
  go_loopw [8] (fun v wr => ∃ j : Nat, j ≤ n ∧ j ≤ 100 ∧ v = .int .i64 j ∧ EB wr (w1.heap.size + 1) (dlyE x j) ∧ Below w.heap.size w wr) (fun v _ => n - (intOf v).toNat)
  case atStart => exact ⟨0, by omega, by omega, by simp, EB.newAt (by simp) ⟨0, 0, 333, 166, false⟩ 24, by go_grown⟩
  case round =>
    obtain ⟨j, hj, hj2, rfl, hk, hB⟩ := hrel
    have hx2 := hx.below hB
    obtain ⟨hok, hlow⟩ := dly_ok x j
    have hs2 : w.heap.size ≤ wr.heap.size := hB.size
    have hk0 := Lib.hid hk
    by_cases hlt : j < n ∧ j < 100
    · obtain ⟨hlt, h100⟩ := hlt
      obtain ⟨b, off, rfl, hbB, a0, wx⟩ := hx2 j hlt
      have hx0 : 0 ≤ x j := wx.1
      have hx1 : x j < 18446744073709551616 := wx.2
      obtain ⟨-, ⟨k0, k1, k2, k3, k4⟩, ⟨f0, f1, f2, f3, f4⟩⟩ := hk
      have htm : (x j).tmod 1099511627777 = x j % 1099511627777 := Int.tmod_eq_emod_of_nonneg hx0
      have hw : Word ((x j).tmod 1099511627777) := by rw [htm]; exact ⟨by omega, by omega⟩
      have hE : Hid (dlyE x (j + 1) = sampleE (dlyE x j) (x j % 1099511627777) 0) := rfl
      have h0 : Word 0 := ⟨by omega, by omega⟩
      clear hx2 htm
      go_upto_region 7 with fail
      go_region_with (go_at_call 11; refine (sample_any (dlyE x j) ((x j).tmod 1099511627777) 0 hok hw h0 _).mono ?_; rintro r w' ⟨rfl, hp⟩; have hp1 := below_drew hp; have hq := Lib.hid (hk0.out.below hp1); have hBB := next hB hp1 hs2; obtain ⟨-, ⟨m0, m1, m2, m3, m4⟩, ⟨g0, g1, g2, g3, g4⟩⟩ := hq.out; clear hp)
      all_goals
        go_wp2_with fail
        go_roundw
        case rel => exact ⟨j + 1, by omega, by omega, by go_num, by rw [hE.out]; exact hq.out.store, below_set5 hBB (by omega) _ _ _ _ _⟩
        case measure => simp [intOf]; omega
    · have hex : n ≤ j ∨ (j < n ∧ (100 : Int) ≤ (j : Int)) := by omega
      have ht0 := ht.1
      have ht1 := ht.2
      have hd0 := hd.1
      have hd1 := hd.2
      obtain ⟨-, ⟨k0, k1, k2, k3, k4⟩, -⟩ := hk
      clear hlt hx2
      have hT : Word (t % 1099511627777) := ⟨by omega, by omega⟩
      have h0 : Word 0 := ⟨by omega, by omega⟩
      have Z0 : Below wr.heap.size wr wr.drew := (Below.refl _ wr).drew
      have hz : w1.heap.size + 1 < wr.heap.size := hk0.out.1
      generalize dlyE x j = e at *
      rcases hex with hex | ⟨hex, hex2⟩
      all_goals
        go_upto_region 9 with fail
        go_cut [9, 10] (fun s9 s10 wx => ∃ p q : Nat, s9 = .pointer (some ⟨p, 0, none⟩) ∧ s10 = .pointer (some ⟨q, 0, none⟩) ∧ EB wx p (sampleE e (t % 1099511627777) d) ∧ EB wx q (sampleE e (t % 1099511627777) 0) ∧ Below wr.heap.size wr wx)
        case rest =>
          obtain ⟨p, q, rfl, rfl, hP, hQ, hB2⟩ := hcut
          have hke := hk0.out.below hB2
          have hBB := next hB hB2 hs2
          have D := delays hlow (t := t % 1099511627777) (d := d) (by omega) hd0
          obtain ⟨-, ⟨p0, p1, p2, p3, p4⟩, -⟩ := hP
          obtain ⟨-, ⟨q0, q1, q2, q3, q4⟩, -⟩ := hQ
          clear k0 k1 k2 k3 k4 hk0 hB2 hx hok hlow ht hd hT h0
          obtain ⟨-, ⟨k0, k1, k2, k3, k4⟩, -⟩ := hke
          have q24 := eql24
          have es := eqE_self
          have t0 : 0 ≤ t % 1099511627777 := by omega
          have t1 : t % 1099511627777 ≤ 1099511627776 := by omega
          generalize sampleE e (t % 1099511627777) d = a at *
          generalize sampleE e (t % 1099511627777) 0 = b at *
          obtain ⟨D0, D1, D2, D3, D4⟩ := D
          rw [← D1] at q1
          rw [← D2] at q0
          have H : (e.kn = false ∧ a = b) ∨ (e.kn = true ∧ d = 0) ∨ (e.kn = true ∧ d ≠ 0 ∧ d ≤ t % 1099511627777 ∧ a.le ≤ t % 1099511627777 - d) ∨ (e.kn = true ∧ d ≠ 0 ∧ d ≤ t % 1099511627777 ∧ t % 1099511627777 - d < a.le ∧ a = b) ∨ (e.kn = true ∧ d ≠ 0 ∧ t % 1099511627777 < d ∧ a = b) := by
            cases hkn : e.kn
            · exact .inl ⟨rfl, D3 hkn⟩
            · rcases Int.lt_trichotomy d 0 with g | g | g
              · omega
              · exact .inr (.inl ⟨rfl, g⟩)
              · by_cases g2 : d ≤ t % 1099511627777
                · by_cases g3 : a.le ≤ t % 1099511627777 - d
                  · exact .inr (.inr (.inl ⟨rfl, by omega, g2, g3⟩))
                  · exact .inr (.inr (.inr (.inl ⟨rfl, by omega, g2, by omega, D4 hkn (by omega) (fun h => g3 h.2)⟩)))
                · exact .inr (.inr (.inr (.inr ⟨rfl, by omega, by omega, D4 hkn (by omega) (fun h => g2 h.1)⟩)))
          clear D1 D2 D3 D4
          rcases H with ⟨g0, rfl⟩ | ⟨g0, rfl⟩ | ⟨g0, g1, g2, g3⟩ | ⟨g0, g1, g2, g3, rfl⟩ | ⟨g0, g1, g2, rfl⟩
          all_goals
            rw [g0] at k4
            go_wp2_with fail
            go_ret
            exact ⟨rfl, hBB⟩
        go_region_held3 (fun w' => Below wr.heap.size wr w' ∧ w'.cell? ⟨w1.heap.size + 1, 0, none⟩ = some (.int .u64 e.la) ∧ w'.cell? ⟨w1.heap.size + 1, 1, none⟩ = some (.int .u64 e.le) ∧ w'.cell? ⟨w1.heap.size + 1, 2, none⟩ = some (.int .u64 e.sm) ∧ w'.cell? ⟨w1.heap.size + 1, 3, none⟩ = some (.int .u64 e.va) ∧ w'.cell? ⟨w1.heap.size + 1, 4, none⟩ = some (.bool e.kn))
          (refine S_of hk0.out ?_ <;> (repeat' (with_reducible refine below_set5 ?_ ?_ _ _ _ _ _)) <;> (first | with_reducible assumption | go_grown | omega))
          (first
            | (go_at_call 11; (with_reducible refine (sample_any e (t % 1099511627777) d hok hT hd _).mono ?_); rintro r x1 ⟨rfl, hp⟩; have S1 : Below wr.heap.size wr x1 := next2 hp (by first | with_reducible assumption | go_grown); have s1 := S1.size;
                (try (with_reducible have E0 := Lib.hid (EB.below (A1d wr) hp)));
                (try (with_reducible have E0 := Lib.hid (EB.below (A2d wr _) hp)));
                (try (with_reducible have E1 := Lib.hid (EB.below (A3d wr _) hp)));
                (try have n01 := Nat.ne_of_lt E0.out.1);
                (try have n10 := Nat.ne_of_gt E0.out.1))
            | (go_at_call 11; (with_reducible refine (sample_any e (t % 1099511627777) 0 hok hT h0 _).mono ?_); rintro r x2 ⟨rfl, hp⟩; have S2 : Below wr.heap.size wr x2 := next2 hp (by first | with_reducible assumption | go_grown); have s2 := S2.size; have s12 : x1.heap.size ≤ x2.heap.size := (next2 hp (show Below x1.heap.size x1 _ from by go_grown)).size; have T1 : Below x1.heap.size x1 x2 := next2 hp (by go_grown);
                (try have F0 := Lib.hid (EB.below E0.out T1));
                (try have F1 := Lib.hid (EB.below E1.out T1));
                (try (with_reducible have F2 := Lib.hid (EB.below (A1 x1) hp)));
                (try (with_reducible have F2 := Lib.hid (EB.below (A2 x1 _) hp)));
                (try (with_reducible have F3 := Lib.hid (EB.below (A3 x1 _) hp)));
                (try have n02 := Nat.ne_of_lt F0.out.1); (try have n20 := Nat.ne_of_gt F0.out.1); (try have n12 := Nat.ne_of_lt F2.out.1); (try have n21 := Nat.ne_of_gt F2.out.1);
                (try obtain ⟨l0, ⟨_, _, _, _, _⟩, ⟨_, _, _, _, _⟩⟩ := F0.out);
                (try obtain ⟨l1, ⟨_, _, _, _, _⟩, ⟨_, _, _, _, _⟩⟩ := F1.out);
                (try obtain ⟨l2, ⟨_, _, _, _, _⟩, ⟨_, _, _, _, _⟩⟩ := F2.out);
                (try obtain ⟨l3, ⟨_, _, _, _, _⟩, ⟨_, _, _, _, _⟩⟩ := F3.out)))
        all_goals
          go_wp2_with fail
          go_meet
          have hB2 := S2
          refine ⟨_, _, rfl, rfl, ?_, ?_, ?_⟩
          · first
              | (with_reducible refine EB.newAt ?_ (sampleE e (t % 1099511627777) d) 24; simp; done)
              | (with_reducible refine EB.alloc ?_ _; with_reducible refine EB.newAt ?_ (sampleE e (t % 1099511627777) d) 24; simp; done)
              | (with_reducible refine EB.alloc ?_ _; (first | exact EB.store F0.out | exact EB.store F1.out | exact EB.store F2.out | exact EB.store F3.out))
              | (with_reducible refine EB.far5 ?_ ?_ _ _ _ _ _; (first | exact EB.store F0.out | exact EB.store F1.out | exact EB.store F2.out | exact EB.store F3.out); omega; done)
              | (with_reducible refine EB.store (e := ⟨0, 0, 0, 0, false⟩) ?_; with_reducible refine EB.far5 ?_ ?_ _ _ _ _ _; (first | exact F0.out | exact F1.out | exact F2.out | exact F3.out); omega; done)
          · first
              | (with_reducible refine EB.newAt ?_ (sampleE e (t % 1099511627777) 0) 24; simp; done)
              | (with_reducible refine EB.alloc ?_ _; with_reducible refine EB.newAt ?_ (sampleE e (t % 1099511627777) 0) 24; simp; done)
              | (with_reducible refine EB.alloc ?_ _; (first | exact EB.store F0.out | exact EB.store F1.out | exact EB.store F2.out | exact EB.store F3.out))
              | (with_reducible refine EB.far5 ?_ ?_ _ _ _ _ _; (first | exact EB.store F0.out | exact EB.store F1.out | exact EB.store F2.out | exact EB.store F3.out); omega; done)
              | (with_reducible refine EB.store (e := ⟨0, 0, 0, 0, false⟩) ?_; with_reducible refine EB.far5 ?_ ?_ _ _ _ _ _; (first | exact F0.out | exact F1.out | exact F2.out | exact F3.out); omega; done)
          · (first | go_grown | (repeat' (first | (with_reducible exact hB2) | (with_reducible refine below_set5 ?_ ?_ _ _ _ _ _) | omega | go_grown)))
end Go.Proofs.Ytipcfpepdmphcaa
