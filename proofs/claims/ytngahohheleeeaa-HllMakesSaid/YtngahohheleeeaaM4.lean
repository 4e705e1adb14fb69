/- The law HllMakes' walk. -/
import Derived.Test.YtngahohheleeeaaM3
import Derived.Test.YtngahohheleeeaaL3
namespace Go.Proofs.Ytngahohheleeeaa
open Go.RowKit

def fewS (s : ByteArray) : ByteArray := s.extract 0 (min (s.size : Int) 260).toNat
theorem Few_any (b : Int) (s : ByteArray) (w : World) :
    Calls Try.prog 9 #[.agg #[.int .i64 b, .string s]] w fun e w' => e = .returned (.agg #[.int .i64 b, .string (fewS s)]) ∧ Below w.heap.size w w' := by
  unfold fewS
  go_enter Try.func9, Try.ntmps9
  go_wp2
  refine wp_region_gr_tail 10 (by kernel_rfl) (by kernel_rfl) ?_
  simp only [List.take_succ_cons, List.take_zero, List.drop_succ_cons, List.drop_zero]
  repeat (go_big_quiet_step (first | fail))
  refine wpQuiet_nil ?_
  intro g
  go_wp2
  have hgl := g.le
  simp only [World.size_alloc] at hgl
  generalize s.extract 0 (min (s.size : Int) 260).toNat = S
  exact bodyPost_ret (v := .agg #[.int .i64 b, .string S]) (by simp [results, Try.results9, go_sem]) rfl ⟨rfl, (by repeat (first | exact Below.refl _ _ | assumption | (refine Below.setCell ?_ (by (first | omega | (simp; done) | (simp; omega) | (simp at *; omega))) _) | (refine Below.alloc ?_ (by (first | omega | (simp; done) | (simp; omega) | (simp at *; omega))) _) | (refine Below.drew ?_) | (refine Gr.into _ ?_ (by (first | omega | (simp; done) | (simp; omega) | (simp at *; omega))))))⟩

theorem of_both (b : Int) (zs : List Nat) : ∃ (B : Int) (S : ByteArray) (E : Int), (∀ u W, U64s W.heap.size W u zs → Calls Try.prog 10 #[.int .i64 b, u] W fun e w' => e = hllRes B S E ∧ Below W.heap.size W w') ∧
    (∀ u W, U64s W.heap.size W u zs → Calls Try.prog 12 #[.int .i64 b, u] W fun e w' => e = hllRes B S E ∧ Below W.heap.size W w') := by
  cases h : isBitsB b
  · exact ⟨0, ⟨#[]⟩, 70, fun u W _ => of_no b u W h, fun u W hu => rof_no b u zs W h hu⟩
  · obtain ⟨h1, h2⟩ := isBits_bd h
    obtain ⟨m, rfl⟩ := Int.eq_ofNat_of_zero_le (a := b) (by omega)
    exact ⟨m, _, 0, fun u W hu => of_yes m u zs W h hu, fun u W hu => rof_yes m u zs W h hu⟩
theorem add_both (b : Int) (s : ByteArray) (n : Nat) (hn : n < 2 ^ 64) : ∃ (B : Int) (S : ByteArray) (E : Int), (∀ W, Calls Try.prog 13 #[.agg #[.int .i64 b, .string s], .int .u64 n] W fun e w' => e = hllRes B S E ∧ Below W.heap.size W w') ∧
    (∀ W, Calls Try.prog 14 #[.agg #[.int .i64 b, .string s], .int .u64 n] W fun e w' => e = hllRes B S E ∧ Below W.heap.size W w') := by
  cases h : rightB b s.data.toList
  · exact ⟨0, ⟨#[]⟩, 70, fun W => add_no b n s W h, fun W => radd_no b n s W h⟩
  · obtain ⟨h1, h2⟩ := isBits_bd (rightB_bits h)
    obtain ⟨m, rfl⟩ := Int.eq_ofNat_of_zero_le (a := b) (by omega)
    exact ⟨m, _, 0, fun W => add_yes m n s W h hn, fun W => radd_yes m n s W h hn⟩
theorem place_both (b : Int) (n : Nat) (hn : n < 2 ^ 64) : ∃ (A R : Int), (∀ W, Calls Try.prog 15 #[.int .i64 b, .int .u64 n] W fun e w' => e = .returned (.tuple #[.int .i64 A, .int .i64 R]) ∧ Below W.heap.size W w') ∧
    (∀ W, Calls Try.prog 16 #[.int .i64 b, .int .u64 n] W fun e w' => e = .returned (.tuple #[.int .i64 A, .int .i64 R]) ∧ Below W.heap.size W w') := by
  cases h : isBitsB b
  · exact ⟨0, 0, fun W => place_no b n W h, fun W => rplace_no b n W h⟩
  · obtain ⟨h1, h2⟩ := isBits_bd h
    obtain ⟨m, rfl⟩ := Int.eq_ofNat_of_zero_le (a := b) (by omega)
    exact ⟨_, _, fun W => place_nat m n W h hn, fun W => rplace_yes m n W h hn⟩
theorem new_both (b : Int) : ∃ (B : Int) (S : ByteArray) (E : Int), (∀ W, Calls Try.prog 17 #[.int .i64 b] W fun e w' => e = hllRes B S E ∧ Below W.heap.size W w') ∧
    (∀ W, Calls Try.prog 18 #[.int .i64 b] W fun e w' => e = hllRes B S E ∧ Below W.heap.size W w') := by
  cases h : isBitsB b
  · exact ⟨0, ⟨#[]⟩, 70, fun W => new_no b W h, fun W => rnew_no b W h⟩
  · obtain ⟨h1, h2⟩ := isBits_bd h
    obtain ⟨m, rfl⟩ := Int.eq_ofNat_of_zero_le (a := b) (by omega)
    exact ⟨m, _, 0, fun W => new_yes m W h, fun W => rnew_yes m W h⟩
theorem right_both (b : Int) (s : ByteArray) : ∃ R : Bool, (∀ W, Calls Try.prog 19 #[.agg #[.int .i64 b, .string s]] W fun e w' => e = .returned (.bool R) ∧ Below W.heap.size W w') ∧
    (∀ W, Calls Try.prog 20 #[.agg #[.int .i64 b, .string s]] W fun e w' => e = .returned (.bool R) ∧ Below W.heap.size W w') :=
  ⟨_, right_any b s, rright_any b s⟩

set_option maxRecDepth 100000 in
set_option maxHeartbeats 2000000 in
theorem makes_all (xb : Int) (xs : ByteArray) (b : Int) (v : Value) (zs : List Nat) (n : Nat) (w : World) (hn : n < 2 ^ 64) (hz : U64s w.heap.size w v zs) :
    Calls Try.prog 3 #[.agg #[.int .i64 xb, .string xs], .int .i64 b, v, .int .u64 n] w fun e w' => e = .returned (.bool true) ∧ Below w.heap.size w w' := by
  obtain ⟨B1, S1, E1, of1, of2⟩ := of_both b (zs.take 100)
  obtain ⟨B2, S2, E2, ad1, ad2⟩ := add_both xb (fewS xs) n hn
  obtain ⟨P1, P2, pl1, pl2⟩ := place_both b n hn
  obtain ⟨B3, S3, E3, nw1, nw2⟩ := new_both b
  obtain ⟨R, ri1, ri2⟩ := right_both xb (fewS xs)
  go_enter Try.func3, Try.ntmps3
  go_wp2_with fail
  with_reducible refine Calls.mono (Calls.gr0 (shown_any _)) ?_
  rintro e w' ⟨rfl, g, rfl⟩
  have hgl := g.le
  go_wp2_with fail
  with_reducible refine Calls.mono (Calls.gr (Few_any _ _ _)) ?_
  rintro e w' ⟨rfl, g, rfl⟩
  have hgl := g.le
  go_wp2_with fail
  refine Calls.named (fun W hW => ?_)
  have hBW : Below w.heap.size w W := by rw [hW]; exact (by repeat (first | exact Below.refl _ _ | assumption | (refine Below.setCell ?_ (by (first | omega | (simp; done) | (simp; omega) | (simp at *; omega))) _) | (refine Below.alloc ?_ (by (first | omega | (simp; done) | (simp; omega) | (simp at *; omega))) _) | (refine Below.drew ?_) | (refine Gr.into _ ?_ (by (first | omega | (simp; done) | (simp; omega) | (simp at *; omega))))))
  have x : RowAt W w.heap.size 23 [.int .i64 xb, .string (fewS xs)] := by rw [hW]; exact (((RowAt.new_at w #[.int .i64 xb, .string xs] 23 w.heap.size rfl).gr g).set 0 (.int .i64 xb)).set 1 (.string (fewS xs))
  clear hW
  obtain ⟨xc0, xc1, xf0, xf1, xl⟩ := x.two
  refine Calls.mono (few_any _ _ _ _ (hz.at_ hBW)) ?_
  rintro e w' ⟨⟨u, rfl, hu⟩, rfl⟩
  go_wp2_with fail
  with_reducible refine Calls.mono (Calls.gr0 (of1 _ _ hu)) ?_
  rintro e w' ⟨rfl, g, rfl⟩
  have hgl := g.le
  go_wp2_with fail
  refine Calls.named (fun W hW => ?_)
  have hBW : Below w.heap.size w W := by rw [hW]; exact (by repeat (first | exact Below.refl _ _ | assumption | (refine Below.setCell ?_ (by (first | omega | (simp; done) | (simp; omega) | (simp at *; omega))) _) | (refine Below.alloc ?_ (by (first | omega | (simp; done) | (simp; omega) | (simp at *; omega))) _) | (refine Below.drew ?_) | (refine Gr.into _ ?_ (by (first | omega | (simp; done) | (simp; omega) | (simp at *; omega))))))
  have x : RowAt W (w.heap.size) 23 [.int .i64 xb, .string (fewS xs)] := by rw [hW]; exact (by repeat (first | assumption | exact RowAt.new_at _ _ _ _ (by (first | omega | (simp; done) | (simp; omega) | (simp at *; omega))) | (refine RowAt.alloc ?_ _) | (refine RowAt.gr ?_ _) | (refine RowAt.setOther ?_ _ _ (by (first | omega | (simp; done) | (simp; omega) | (simp at *; omega)))) | (refine RowAt.drew ?_)))
  have a : RowAt W (g.world.heap.size) 23 [.int .i64 B1, .string S1] := by rw [hW]; exact (by repeat (first | assumption | exact RowAt.new_at _ _ _ _ (by (first | omega | (simp; done) | (simp; omega) | (simp at *; omega))) | (refine RowAt.alloc ?_ _) | (refine RowAt.gr ?_ _) | (refine RowAt.setOther ?_ _ _ (by (first | omega | (simp; done) | (simp; omega) | (simp at *; omega)))) | (refine RowAt.drew ?_)))
  clear hW
  obtain ⟨xc0, xc1, xf0, xf1, xl⟩ := x.two
  obtain ⟨ac0, ac1, af0, af1, al⟩ := a.two
  generalize g.world.heap.size = ka at *
  clear g
  refine Calls.mono (few_any _ _ _ _ (hz.at_ hBW)) ?_
  rintro e w' ⟨⟨u, rfl, hu⟩, rfl⟩
  go_wp2_with fail
  with_reducible refine Calls.mono (Calls.gr0 (of2 _ _ hu)) ?_
  rintro e w' ⟨rfl, g, rfl⟩
  have hgl := g.le
  go_wp2_with fail
  refine Calls.named (fun W hW => ?_)
  have hBW : Below w.heap.size w W := by rw [hW]; exact (by repeat (first | exact Below.refl _ _ | assumption | (refine Below.setCell ?_ (by (first | omega | (simp; done) | (simp; omega) | (simp at *; omega))) _) | (refine Below.alloc ?_ (by (first | omega | (simp; done) | (simp; omega) | (simp at *; omega))) _) | (refine Below.drew ?_) | (refine Gr.into _ ?_ (by (first | omega | (simp; done) | (simp; omega) | (simp at *; omega))))))
  have x : RowAt W (w.heap.size) 23 [.int .i64 xb, .string (fewS xs)] := by rw [hW]; exact (by repeat (first | assumption | exact RowAt.new_at _ _ _ _ (by (first | omega | (simp; done) | (simp; omega) | (simp at *; omega))) | (refine RowAt.alloc ?_ _) | (refine RowAt.gr ?_ _) | (refine RowAt.setOther ?_ _ _ (by (first | omega | (simp; done) | (simp; omega) | (simp at *; omega)))) | (refine RowAt.drew ?_)))
  have a : RowAt W (ka) 23 [.int .i64 B1, .string S1] := by rw [hW]; exact (by repeat (first | assumption | exact RowAt.new_at _ _ _ _ (by (first | omega | (simp; done) | (simp; omega) | (simp at *; omega))) | (refine RowAt.alloc ?_ _) | (refine RowAt.gr ?_ _) | (refine RowAt.setOther ?_ _ _ (by (first | omega | (simp; done) | (simp; omega) | (simp at *; omega)))) | (refine RowAt.drew ?_)))
  have b2 : RowAt W (g.world.heap.size) 23 [.int .i64 B1, .string S1] := by rw [hW]; exact (by repeat (first | assumption | exact RowAt.new_at _ _ _ _ (by (first | omega | (simp; done) | (simp; omega) | (simp at *; omega))) | (refine RowAt.alloc ?_ _) | (refine RowAt.gr ?_ _) | (refine RowAt.setOther ?_ _ _ (by (first | omega | (simp; done) | (simp; omega) | (simp at *; omega)))) | (refine RowAt.drew ?_)))
  clear hW
  obtain ⟨xc0, xc1, xf0, xf1, xl⟩ := x.two
  obtain ⟨ac0, ac1, af0, af1, al⟩ := a.two
  obtain ⟨b2c0, b2c1, b2f0, b2f1, b2l⟩ := b2.two
  generalize g.world.heap.size = kb2 at *
  clear g
  with_reducible refine Calls.mono (Calls.gr0 (ad1 _)) ?_
  rintro e w' ⟨rfl, g, rfl⟩
  have hgl := g.le
  go_wp2_with fail
  refine Calls.named (fun W hW => ?_)
  have hBW : Below w.heap.size w W := by rw [hW]; exact (by repeat (first | exact Below.refl _ _ | assumption | (refine Below.setCell ?_ (by (first | omega | (simp; done) | (simp; omega) | (simp at *; omega))) _) | (refine Below.alloc ?_ (by (first | omega | (simp; done) | (simp; omega) | (simp at *; omega))) _) | (refine Below.drew ?_) | (refine Gr.into _ ?_ (by (first | omega | (simp; done) | (simp; omega) | (simp at *; omega))))))
  have x : RowAt W (w.heap.size) 23 [.int .i64 xb, .string (fewS xs)] := by rw [hW]; exact (by repeat (first | assumption | exact RowAt.new_at _ _ _ _ (by (first | omega | (simp; done) | (simp; omega) | (simp at *; omega))) | (refine RowAt.alloc ?_ _) | (refine RowAt.gr ?_ _) | (refine RowAt.setOther ?_ _ _ (by (first | omega | (simp; done) | (simp; omega) | (simp at *; omega)))) | (refine RowAt.drew ?_)))
  have a : RowAt W (ka) 23 [.int .i64 B1, .string S1] := by rw [hW]; exact (by repeat (first | assumption | exact RowAt.new_at _ _ _ _ (by (first | omega | (simp; done) | (simp; omega) | (simp at *; omega))) | (refine RowAt.alloc ?_ _) | (refine RowAt.gr ?_ _) | (refine RowAt.setOther ?_ _ _ (by (first | omega | (simp; done) | (simp; omega) | (simp at *; omega)))) | (refine RowAt.drew ?_)))
  have b2 : RowAt W (kb2) 23 [.int .i64 B1, .string S1] := by rw [hW]; exact (by repeat (first | assumption | exact RowAt.new_at _ _ _ _ (by (first | omega | (simp; done) | (simp; omega) | (simp at *; omega))) | (refine RowAt.alloc ?_ _) | (refine RowAt.gr ?_ _) | (refine RowAt.setOther ?_ _ _ (by (first | omega | (simp; done) | (simp; omega) | (simp at *; omega)))) | (refine RowAt.drew ?_)))
  have c : RowAt W (g.world.heap.size) 23 [.int .i64 B2, .string S2] := by rw [hW]; exact (by repeat (first | assumption | exact RowAt.new_at _ _ _ _ (by (first | omega | (simp; done) | (simp; omega) | (simp at *; omega))) | (refine RowAt.alloc ?_ _) | (refine RowAt.gr ?_ _) | (refine RowAt.setOther ?_ _ _ (by (first | omega | (simp; done) | (simp; omega) | (simp at *; omega)))) | (refine RowAt.drew ?_)))
  clear hW
  obtain ⟨xc0, xc1, xf0, xf1, xl⟩ := x.two
  obtain ⟨ac0, ac1, af0, af1, al⟩ := a.two
  obtain ⟨b2c0, b2c1, b2f0, b2f1, b2l⟩ := b2.two
  obtain ⟨cc0, cc1, cf0, cf1, cl⟩ := c.two
  generalize g.world.heap.size = kc at *
  clear g
  with_reducible refine Calls.mono (Calls.gr0 (ad2 _)) ?_
  rintro e w' ⟨rfl, g, rfl⟩
  have hgl := g.le
  go_wp2_with fail
  refine Calls.named (fun W hW => ?_)
  have hBW : Below w.heap.size w W := by rw [hW]; exact (by repeat (first | exact Below.refl _ _ | assumption | (refine Below.setCell ?_ (by (first | omega | (simp; done) | (simp; omega) | (simp at *; omega))) _) | (refine Below.alloc ?_ (by (first | omega | (simp; done) | (simp; omega) | (simp at *; omega))) _) | (refine Below.drew ?_) | (refine Gr.into _ ?_ (by (first | omega | (simp; done) | (simp; omega) | (simp at *; omega))))))
  have x : RowAt W (w.heap.size) 23 [.int .i64 xb, .string (fewS xs)] := by rw [hW]; exact (by repeat (first | assumption | exact RowAt.new_at _ _ _ _ (by (first | omega | (simp; done) | (simp; omega) | (simp at *; omega))) | (refine RowAt.alloc ?_ _) | (refine RowAt.gr ?_ _) | (refine RowAt.setOther ?_ _ _ (by (first | omega | (simp; done) | (simp; omega) | (simp at *; omega)))) | (refine RowAt.drew ?_)))
  have a : RowAt W (ka) 23 [.int .i64 B1, .string S1] := by rw [hW]; exact (by repeat (first | assumption | exact RowAt.new_at _ _ _ _ (by (first | omega | (simp; done) | (simp; omega) | (simp at *; omega))) | (refine RowAt.alloc ?_ _) | (refine RowAt.gr ?_ _) | (refine RowAt.setOther ?_ _ _ (by (first | omega | (simp; done) | (simp; omega) | (simp at *; omega)))) | (refine RowAt.drew ?_)))
  have b2 : RowAt W (kb2) 23 [.int .i64 B1, .string S1] := by rw [hW]; exact (by repeat (first | assumption | exact RowAt.new_at _ _ _ _ (by (first | omega | (simp; done) | (simp; omega) | (simp at *; omega))) | (refine RowAt.alloc ?_ _) | (refine RowAt.gr ?_ _) | (refine RowAt.setOther ?_ _ _ (by (first | omega | (simp; done) | (simp; omega) | (simp at *; omega)))) | (refine RowAt.drew ?_)))
  have c : RowAt W (kc) 23 [.int .i64 B2, .string S2] := by rw [hW]; exact (by repeat (first | assumption | exact RowAt.new_at _ _ _ _ (by (first | omega | (simp; done) | (simp; omega) | (simp at *; omega))) | (refine RowAt.alloc ?_ _) | (refine RowAt.gr ?_ _) | (refine RowAt.setOther ?_ _ _ (by (first | omega | (simp; done) | (simp; omega) | (simp at *; omega)))) | (refine RowAt.drew ?_)))
  have d : RowAt W (g.world.heap.size) 23 [.int .i64 B2, .string S2] := by rw [hW]; exact (by repeat (first | assumption | exact RowAt.new_at _ _ _ _ (by (first | omega | (simp; done) | (simp; omega) | (simp at *; omega))) | (refine RowAt.alloc ?_ _) | (refine RowAt.gr ?_ _) | (refine RowAt.setOther ?_ _ _ (by (first | omega | (simp; done) | (simp; omega) | (simp at *; omega)))) | (refine RowAt.drew ?_)))
  clear hW
  obtain ⟨xc0, xc1, xf0, xf1, xl⟩ := x.two
  obtain ⟨ac0, ac1, af0, af1, al⟩ := a.two
  obtain ⟨b2c0, b2c1, b2f0, b2f1, b2l⟩ := b2.two
  obtain ⟨cc0, cc1, cf0, cf1, cl⟩ := c.two
  obtain ⟨dc0, dc1, df0, df1, dl⟩ := d.two
  generalize g.world.heap.size = kd at *
  clear g
  with_reducible refine Calls.mono (Calls.gr0 (pl1 _)) ?_
  rintro e w' ⟨rfl, g, rfl⟩
  have hgl := g.le
  go_wp2_with fail
  with_reducible refine Calls.mono (Calls.gr (pl2 _)) ?_
  rintro e w' ⟨rfl, g, rfl⟩
  have hgl := g.le
  go_wp2_with fail
  with_reducible refine Calls.mono (Calls.gr (nw1 _)) ?_
  rintro e w' ⟨rfl, g, rfl⟩
  have hgl := g.le
  go_wp2_with fail
  refine Calls.named (fun W hW => ?_)
  have hBW : Below w.heap.size w W := by rw [hW]; exact (by repeat (first | exact Below.refl _ _ | assumption | (refine Below.setCell ?_ (by (first | omega | (simp; done) | (simp; omega) | (simp at *; omega))) _) | (refine Below.alloc ?_ (by (first | omega | (simp; done) | (simp; omega) | (simp at *; omega))) _) | (refine Below.drew ?_) | (refine Gr.into _ ?_ (by (first | omega | (simp; done) | (simp; omega) | (simp at *; omega))))))
  have x : RowAt W (w.heap.size) 23 [.int .i64 xb, .string (fewS xs)] := by rw [hW]; exact (by repeat (first | assumption | exact RowAt.new_at _ _ _ _ (by (first | omega | (simp; done) | (simp; omega) | (simp at *; omega))) | (refine RowAt.alloc ?_ _) | (refine RowAt.gr ?_ _) | (refine RowAt.setOther ?_ _ _ (by (first | omega | (simp; done) | (simp; omega) | (simp at *; omega)))) | (refine RowAt.drew ?_)))
  have a : RowAt W (ka) 23 [.int .i64 B1, .string S1] := by rw [hW]; exact (by repeat (first | assumption | exact RowAt.new_at _ _ _ _ (by (first | omega | (simp; done) | (simp; omega) | (simp at *; omega))) | (refine RowAt.alloc ?_ _) | (refine RowAt.gr ?_ _) | (refine RowAt.setOther ?_ _ _ (by (first | omega | (simp; done) | (simp; omega) | (simp at *; omega)))) | (refine RowAt.drew ?_)))
  have b2 : RowAt W (kb2) 23 [.int .i64 B1, .string S1] := by rw [hW]; exact (by repeat (first | assumption | exact RowAt.new_at _ _ _ _ (by (first | omega | (simp; done) | (simp; omega) | (simp at *; omega))) | (refine RowAt.alloc ?_ _) | (refine RowAt.gr ?_ _) | (refine RowAt.setOther ?_ _ _ (by (first | omega | (simp; done) | (simp; omega) | (simp at *; omega)))) | (refine RowAt.drew ?_)))
  have c : RowAt W (kc) 23 [.int .i64 B2, .string S2] := by rw [hW]; exact (by repeat (first | assumption | exact RowAt.new_at _ _ _ _ (by (first | omega | (simp; done) | (simp; omega) | (simp at *; omega))) | (refine RowAt.alloc ?_ _) | (refine RowAt.gr ?_ _) | (refine RowAt.setOther ?_ _ _ (by (first | omega | (simp; done) | (simp; omega) | (simp at *; omega)))) | (refine RowAt.drew ?_)))
  have d : RowAt W (kd) 23 [.int .i64 B2, .string S2] := by rw [hW]; exact (by repeat (first | assumption | exact RowAt.new_at _ _ _ _ (by (first | omega | (simp; done) | (simp; omega) | (simp at *; omega))) | (refine RowAt.alloc ?_ _) | (refine RowAt.gr ?_ _) | (refine RowAt.setOther ?_ _ _ (by (first | omega | (simp; done) | (simp; omega) | (simp at *; omega)))) | (refine RowAt.drew ?_)))
  have p : RowAt W (g.world.heap.size) 23 [.int .i64 B3, .string S3] := by rw [hW]; exact (by repeat (first | assumption | exact RowAt.new_at _ _ _ _ (by (first | omega | (simp; done) | (simp; omega) | (simp at *; omega))) | (refine RowAt.alloc ?_ _) | (refine RowAt.gr ?_ _) | (refine RowAt.setOther ?_ _ _ (by (first | omega | (simp; done) | (simp; omega) | (simp at *; omega)))) | (refine RowAt.drew ?_)))
  clear hW
  obtain ⟨xc0, xc1, xf0, xf1, xl⟩ := x.two
  obtain ⟨ac0, ac1, af0, af1, al⟩ := a.two
  obtain ⟨b2c0, b2c1, b2f0, b2f1, b2l⟩ := b2.two
  obtain ⟨cc0, cc1, cf0, cf1, cl⟩ := c.two
  obtain ⟨dc0, dc1, df0, df1, dl⟩ := d.two
  obtain ⟨pc0, pc1, pf0, pf1, pl⟩ := p.two
  generalize g.world.heap.size = kp at *
  clear g
  with_reducible refine Calls.mono (Calls.gr0 (nw2 _)) ?_
  rintro e w' ⟨rfl, g, rfl⟩
  have hgl := g.le
  go_wp2_with fail
  refine wp_named (fun W hW => ?_)
  have hBW : Below w.heap.size w W := by rw [hW]; exact (by repeat (first | exact Below.refl _ _ | assumption | (refine Below.setCell ?_ (by (first | omega | (simp; done) | (simp; omega) | (simp at *; omega))) _) | (refine Below.alloc ?_ (by (first | omega | (simp; done) | (simp; omega) | (simp at *; omega))) _) | (refine Below.drew ?_) | (refine Gr.into _ ?_ (by (first | omega | (simp; done) | (simp; omega) | (simp at *; omega))))))
  have x : RowAt W (w.heap.size) 23 [.int .i64 xb, .string (fewS xs)] := by rw [hW]; exact (by repeat (first | assumption | exact RowAt.new_at _ _ _ _ (by (first | omega | (simp; done) | (simp; omega) | (simp at *; omega))) | (refine RowAt.alloc ?_ _) | (refine RowAt.gr ?_ _) | (refine RowAt.setOther ?_ _ _ (by (first | omega | (simp; done) | (simp; omega) | (simp at *; omega)))) | (refine RowAt.drew ?_)))
  have a : RowAt W (ka) 23 [.int .i64 B1, .string S1] := by rw [hW]; exact (by repeat (first | assumption | exact RowAt.new_at _ _ _ _ (by (first | omega | (simp; done) | (simp; omega) | (simp at *; omega))) | (refine RowAt.alloc ?_ _) | (refine RowAt.gr ?_ _) | (refine RowAt.setOther ?_ _ _ (by (first | omega | (simp; done) | (simp; omega) | (simp at *; omega)))) | (refine RowAt.drew ?_)))
  have b2 : RowAt W (kb2) 23 [.int .i64 B1, .string S1] := by rw [hW]; exact (by repeat (first | assumption | exact RowAt.new_at _ _ _ _ (by (first | omega | (simp; done) | (simp; omega) | (simp at *; omega))) | (refine RowAt.alloc ?_ _) | (refine RowAt.gr ?_ _) | (refine RowAt.setOther ?_ _ _ (by (first | omega | (simp; done) | (simp; omega) | (simp at *; omega)))) | (refine RowAt.drew ?_)))
  have c : RowAt W (kc) 23 [.int .i64 B2, .string S2] := by rw [hW]; exact (by repeat (first | assumption | exact RowAt.new_at _ _ _ _ (by (first | omega | (simp; done) | (simp; omega) | (simp at *; omega))) | (refine RowAt.alloc ?_ _) | (refine RowAt.gr ?_ _) | (refine RowAt.setOther ?_ _ _ (by (first | omega | (simp; done) | (simp; omega) | (simp at *; omega)))) | (refine RowAt.drew ?_)))
  have d : RowAt W (kd) 23 [.int .i64 B2, .string S2] := by rw [hW]; exact (by repeat (first | assumption | exact RowAt.new_at _ _ _ _ (by (first | omega | (simp; done) | (simp; omega) | (simp at *; omega))) | (refine RowAt.alloc ?_ _) | (refine RowAt.gr ?_ _) | (refine RowAt.setOther ?_ _ _ (by (first | omega | (simp; done) | (simp; omega) | (simp at *; omega)))) | (refine RowAt.drew ?_)))
  have p : RowAt W (kp) 23 [.int .i64 B3, .string S3] := by rw [hW]; exact (by repeat (first | assumption | exact RowAt.new_at _ _ _ _ (by (first | omega | (simp; done) | (simp; omega) | (simp at *; omega))) | (refine RowAt.alloc ?_ _) | (refine RowAt.gr ?_ _) | (refine RowAt.setOther ?_ _ _ (by (first | omega | (simp; done) | (simp; omega) | (simp at *; omega)))) | (refine RowAt.drew ?_)))
  have q : RowAt W (g.world.heap.size) 23 [.int .i64 B3, .string S3] := by rw [hW]; exact (by repeat (first | assumption | exact RowAt.new_at _ _ _ _ (by (first | omega | (simp; done) | (simp; omega) | (simp at *; omega))) | (refine RowAt.alloc ?_ _) | (refine RowAt.gr ?_ _) | (refine RowAt.setOther ?_ _ _ (by (first | omega | (simp; done) | (simp; omega) | (simp at *; omega)))) | (refine RowAt.drew ?_)))
  clear hW
  obtain ⟨xc0, xc1, xf0, xf1, xl⟩ := x.two
  obtain ⟨ac0, ac1, af0, af1, al⟩ := a.two
  obtain ⟨b2c0, b2c1, b2f0, b2f1, b2l⟩ := b2.two
  obtain ⟨cc0, cc1, cf0, cf1, cl⟩ := c.two
  obtain ⟨dc0, dc1, df0, df1, dl⟩ := d.two
  obtain ⟨pc0, pc1, pf0, pf1, pl⟩ := p.two
  obtain ⟨qc0, qc1, qf0, qf1, ql⟩ := q.two
  generalize g.world.heap.size = kq at *
  clear g
  refine wp_region_gr (by kernel_rfl) (by kernel_rfl) ?_
  repeat (go_big_quiet_step (first | (go_at_call 19; exact Calls.gr (ri1 _)) | (go_at_call 20; exact Calls.gr (ri2 _))))
  refine wpQuiet_nil ?_
  intro g
  go_wp2
  go_ret
  exact ⟨by simp, (by repeat (first | exact Below.refl _ _ | assumption | (refine Below.setCell ?_ (by (first | omega | (simp; done) | (simp; omega) | (simp at *; omega))) _) | (refine Below.alloc ?_ (by (first | omega | (simp; done) | (simp; omega) | (simp at *; omega))) _) | (refine Below.drew ?_) | (refine Gr.into _ ?_ (by (first | omega | (simp; done) | (simp; omega) | (simp at *; omega))))))⟩
end Go.Proofs.Ytngahohheleeeaa
