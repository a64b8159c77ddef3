/- coppicelaw5.BranchKinds. -/
import Derived.Test.YthboanaogfmefaaPt
namespace Go.Proofs.Ythboanaogfmefaa
open Go.RowKit

theorem dec_len {b : List UInt8} (h : b.length ≠ 4092) : okDec b = false := decide_eq_false (fun q => h q.1)
theorem dec_kind {b : List UInt8} (h : b.head? ≠ some 2) : okDec b = false := by
  cases e : okDec b with
  | false => rfl
  | true =>
    have h1 := (dec_body e).2
    have h2 := body_head (levD b) (restS b).1 (kidsD b)
    rw [h1] at h2
    exact absurd h2 h
theorem few_few {l : List (List UInt8)} {m n : Nat} (h : fewS l m = true) (hl : l.length = n) : Few n l := by
  obtain ⟨h1, _, h3⟩ := few_of h
  exact ⟨by omega, fun x hx => by have := h3 x hx; omega⟩

set_option maxRecDepth 100000 in
set_option maxHeartbeats 2000000 in
theorem BranchKinds_walk (level : Int) (A : Option Addr) (n c : Nat) (vs : List Value) (l : List (List UInt8)) (B : Option Addr) (m d : Nat) (ks : List (Int × Int)) (k : UInt8) (w : World) (_hz : -9223372036854775808 ≤ level ∧ level ≤ 9223372036854775807) (h : RM w A n c vs l) (hk : RK w B m d ks) :
    Calls Try.prog 9 #[.int .i64 level, .slice A n c, .slice B m d, .int .u8 (k.toNat : Int)] w fun e w' => e = .returned (.bool true) ∧ Below w.heap.size w w' := by
  have FW := fun W q => few_calls A n c vs l B m d W q
  obtain ⟨f, hf⟩ : ∃ f, fewS l m = f := ⟨_, rfl⟩
  rw [hf] at FW
  have HF := hideIt hf
  clear hf
  go_enter Try.func9, Try.ntmps9
  go_upto_region 2 with (go_at_call 12; refine (first_calls _).mono ?_; rintro en w1 ⟨rfl, b1⟩)
  have h1 := h.below b1
  have hk1 := hk.below b1
  cases f
  · go_wp2_with (go_at_call 13; refine (FW _ h1).mono ?_; rintro en wx ⟨rfl, rfl⟩)
    go_ret
    exact ⟨rfl, b1⟩
  · have ff := hideIt (few_few HF.out h.len)
    by_cases h2 : k = 2
    · subst h2
      go_wp2_with (go_at_call 13; refine (FW _ h1).mono ?_; rintro en wx ⟨rfl, rfl⟩)
      go_ret
      exact ⟨rfl, b1⟩
    · have t2 : ((k.toNat : Int) == 2) = false := beq_eq_false_iff_ne.2 (fun q => h2 (UInt8.toNat_inj.1 (by show k.toNat = 2; omega)))
      have HK := hideIt h2
      clear h2
      go_upto_region 4 with (go_at_call 13; refine (FW _ h1).mono ?_; rintro en wx ⟨rfl, rfl⟩)
      clear FW
      by_cases hw : wrongS level l ks = 0
      · have BL := hideIt (bodyB_length (ok_of hw))
        have EN := Encode_ok level _ _ _ _ _ _ _ _ _ _ h1 hk1 hw
        generalize bodyB level l ks = body at EN BL
        go_upto_region 5 with (go_at_call 21; refine EN.mono ?_; rintro en w2 ⟨g2, rfl, s2, o2, x2⟩)
        have b2 := blw_step b1 x2
        clear EN h1 hk1 hw h hk b1 x2 s2
        go_upto_region 10 with (first
          | (go_at_call 25; refine (num_calls _ _).mono ?_; rintro en wx ⟨rfl, rfl⟩)
          | (go_at_call 33; refine (Bytes_calls _ _ _ _ _ o2.read (by omega)).mono ?_; rintro en w3 ⟨g3, c3, rfl, s3, o3, x3⟩))
        have b3 := blw_step b2 x3
        have ws3 := Nat.le_trans b2.size s3
        have c0 := o3.cell 0 (by rw [BL.out]; decide)
        have f0 := o3.free 0
        have hc := OC.le o3
        have o4 := o3.set 0 k
        have b4 := blw_own b3 (grownBy_set w3 g3 0 (.int .u8 (k.toNat : Int))) b3.size ws3
        have n1 : okDec (body.set 0 k) = false := dec_kind (by
          cases body with
          | nil => have := BL.out; simp at this
          | cons y t => simp; exact HK.out)
        have n2 : okDec ((body.set 0 k).take 4091) = false := dec_len (by rw [List.length_take, List.length_set, BL.out]; decide)
        have n3 : okDec (body.set 0 k ++ [0]) = false := dec_len (by rw [List.length_append, List.length_set, BL.out]; decide)
        generalize body.set 0 k = B4 at o4 n1 n2 n3
        go_upto_region 11 with fail
        generalize hw4 : w3.setCell ⟨g3, 0, none⟩ (.int .u8 (k.toNat : Int)) = w4 at o4 b4 ⊢
        clear hw4 c0 f0 b3 b2 x3 s3 o3 o2 w3
        go_upto_region 12 with (go_at_call 29; refine (Decode_calls _ _ _ _ _ o4.read).mono ?_; intro en w5 qd; obtain ⟨A1, n1', c1, ps, A2, n2', c2, rfl, om, gk, x5⟩ := qd.not n1)
        have o5 := o4.below x5
        have b5 := blw_step b4 x5
        clear o4 b4 x5 om gk qd n1
        have i1 : (4091 : Int) ≤ (c3 : Int) := by omega
        go_upto_region 13 with (go_at_call 29; refine (Decode_calls _ _ _ _ _ (o5.read.take 4091 (by omega))).mono ?_; intro en w6 qd; obtain ⟨A3, n3', c3', ps3, A4, n4', c4, rfl, om, gk, x6⟩ := qd.not n2)
        have o6 := o5.below x6
        have b6 := blw_step b5 x6
        have ba := below1 w6 (.cells #[.int .u8 0] 5)
        have z6 : RB (w6.alloc (.cells #[.int .u8 0] 5)) (some ⟨w6.heap.size, 0, none⟩) 1 1 [0] := u8_one w6 0
        have o7 := o6.below ba
        have b7 := blw_step b6 ba
        clear o5 b5 x6 om gk qd n2 o6 ba
        go_upto_region 14 with (first
          | (with_reducible refine wpB_app rfl (.tmp 76) (.tmp 77) rfl _ _ _ _ rfl o7 _ _ _ [0] rfl z6 4093 (by omega) (by omega) ?_; intro g8 c8 w8 q8 p8 o8 k8; have b8 := blw_own b7 k8 b7.size ws3)
          | (go_at_call 29; refine (Decode_calls _ _ _ _ _ o8.read).mono ?_; intro en w9 qd; obtain ⟨A5, n5', c5, ps5, A6, n6', c6, rfl, om, gk, x9⟩ := qd.not n3; have b9 := blw_step b8 x9))
        clear o7 z6 b7 o8 k8 b8 q8 p8 om gk qd n3 x9
        go_wp2_with (go_at_call 25; refine (num_calls _ _).mono ?_; rintro en wx ⟨rfl, rfl⟩)
        go_ret
        exact ⟨rfl, b9⟩
      · have EN := Encode_no level _ _ _ _ _ _ _ _ _ _ h1 ff.out hk1 hw
        generalize wrongS level l ks = z at EN hw
        have z0 : (z != 0) = true := by rw [bne_iff_ne]; exact hw
        clear hw
        go_wp2_with (first
          | (go_at_call 25; refine (num_calls _ _).mono ?_; rintro en wx ⟨rfl, rfl⟩)
          | (go_at_call 21; refine EN.mono ?_; rintro en w2 ⟨rfl, x2⟩; have b2 := blw_step b1 x2))
        go_ret
        exact ⟨rfl, b2⟩
end Go.Proofs.Ythboanaogfmefaa
