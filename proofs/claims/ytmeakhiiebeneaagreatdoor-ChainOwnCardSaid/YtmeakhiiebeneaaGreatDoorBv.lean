/- coppicekept.Book: words for what stays when lists are kept, with no items in sight. -/
import Derived.Test.YtmeakhiiebeneaaGreatDoorJk
namespace Go.Proofs.YtmeakhiiebeneaaGreatDoor
open Go.RowKit

/-- from world w0 on some lists of bytes were kept. -/
structure Bv (w0 w : World) (gk base m : Nat) (r s r' s' : Row) (bs : List Value) (xss : List (List UInt8)) (add : List Slot) : Prop where
  bk : Bk w gk ((bs.set 2 (r'.v m)).set 3 (s'.v m))
  kp : Kp w base 5 1 40 m r' s' (xss.map u8s) (xss.map u8s)
  ps : r'.ps = r.ps ++ add
  n1 : ∀ g, AtB r'.A g → AtB r.A g ∨ w0.heap.size ≤ g
  n2 : ∀ g, AtB s'.A g → AtB s.A g ∨ w0.heap.size ≤ g
  ou : Out (Rws gk r.A s.A) w0 w
theorem Bv.start {w : World} {gk base m : Nat} {r s : Row} {bs : List Value} {xss : List (List UInt8)} (hk : Bk w gk bs) (e2 : bs[2]? = some (r.v m)) (e3 : bs[3]? = some (s.v m)) (h : Kp w base 5 1 40 m r s (xss.map u8s) (xss.map u8s)) : Bv w w gk base m r s r s bs xss [] :=
  ⟨by rw [set_self e2, set_self e3]; exact hk, h, by simp, fun _ q => Or.inl q, fun _ q => Or.inl q, Out.refl _ _⟩
theorem Bv.step {w0 w w' : World} {gk base m n c : Nat} {r s r1 s1 : Row} {bs bs1 : List Value} {xss : List (List UInt8)} {add : List Slot} {A : Option Addr} {xs : List UInt8} (h : Bv w0 w gk base m r s r1 s1 bs xss add) (hb : bs1 = (bs.set 2 (r1.v m)).set 3 (s1.v m)) (k : KeptV gk base 5 1 40 m 2 r1 s1 (xss.map u8s) (xss.map u8s) A n c (u8s xs) (u8s xs) bs1 w w') :
    ∃ r2 s2, Bv w0 w' gk base (m + 1) r s r2 s2 bs (xss ++ [xs]) (add ++ [(A, n, c)]) := by
  obtain ⟨r2, s2, p, bk, kp, e1, e2, _, k1, k2, ou⟩ := k
  refine ⟨r2, s2, ?_, ?_, ?_, ?_, ?_, ?_⟩
  · rw [hb] at bk
    have : ((((bs.set 2 (r1.v m)).set 3 (s1.v m)).set 2 (r2.v (m + 1))).set (2 + 1) (s2.v (m + 1))) = (bs.set 2 (r2.v (m + 1))).set 3 (s2.v (m + 1)) := by
      rw [List.set_comm _ _ (show 3 ≠ 2 by decide), List.set_set, List.set_set]
    rw [this] at bk
    exact bk
  · have e : ∀ {l : List (List UInt8)}, l.map u8s ++ [u8s xs] = (l ++ [xs]).map u8s := fun {l} => by rw [List.map_append]; rfl
    rw [e] at kp
    exact kp
  · rw [e1, h.ps, List.append_assoc]
  · intro g q
    rcases k1 g q with z | z
    · exact h.n1 g z
    · exact Or.inr (Nat.le_trans h.ou.size z)
  · intro g q
    rcases k2 g q with z | z
    · exact h.n2 g z
    · exact Or.inr (Nat.le_trans h.ou.size z)
  · exact h.ou.trans ou fun g q => by
      rcases q with q | q | q
      · exact Or.inl (Or.inl q)
      · exact (h.n1 g q).imp (fun z => Or.inr (Or.inl z)) id
      · exact (h.n2 g q).imp (fun z => Or.inr (Or.inr z)) id
theorem KeptV.out {gk base e sz rt m F : Nat} {r s : Row} {css dss : List (List Value)} {A : Option Addr} {n c : Nat} {cs ds bs : List Value} {w w' : World} (k : KeptV gk base e sz rt m F r s css dss A n c cs ds bs w w') : Out (Rws gk r.A s.A) w w' := by
  obtain ⟨_, _, _, _, _, _, _, _, _, _, ou⟩ := k
  exact ou
theorem Bv.e2 {w0 w : World} {gk base m : Nat} {r s r' s' : Row} {bs : List Value} {xss : List (List UInt8)} {add : List Slot} (_h : Bv w0 w gk base m r s r' s' bs xss add) (h2 : 2 < bs.length) : ((bs.set 2 (r'.v m)).set 3 (s'.v m))[2]? = some (r'.v m) := by
  rw [List.getElem?_set_ne (by decide), List.getElem?_set_self h2]
theorem Bv.e3 {w0 w : World} {gk base m : Nat} {r s r' s' : Row} {bs : List Value} {xss : List (List UInt8)} {add : List Slot} (_h : Bv w0 w gk base m r s r' s' bs xss add) (h3 : 3 < bs.length) : ((bs.set 2 (r'.v m)).set 3 (s'.v m))[3]? = some (s'.v m) := by
  rw [List.getElem?_set_self (by rw [List.length_set]; exact h3)]
theorem Bv.eN {w0 w : World} {gk base m : Nat} {r s r' s' : Row} {bs : List Value} {xss : List (List UInt8)} {add : List Slot} (_h : Bv w0 w gk base m r s r' s' bs xss add) (F : Nat) (v : Value) (hF : bs[F]? = some v) (h2 : 2 ≠ F) (h3 : 3 ≠ F) : ((bs.set 2 (r'.v m)).set 3 (s'.v m))[F]? = some v := by
  rw [List.getElem?_set_ne h3, List.getElem?_set_ne h2, hF]
theorem GC.apart1 {w w' : World} {gk base e sz rt n c b e' sz' n' c' : Nat} {A A' : Option Addr} {ps : List Slot} {css : List (List Value)} {bs cs : List Value} (o : GC w b e' sz' A' n' c' cs) (k : LS w base e sz rt A n c ps css) (bk : Bk w gk bs) (ou : Out (fun g => g = gk ∨ AtB A g) w w') (n1 : 39 ≠ e') (n2 : rt ≠ e') : GC w' b e' sz' A' n' c' cs :=
  o.out ou fun g q => by
    rintro (rfl | z)
    · exact n1 (ty_ne ⟨_, _, _, bk⟩ (o.atb q))
    · exact n2 (ty_ne (k.row.atb z) (o.atb q))
theorem Kp.apart1 {w w' : World} {gk base base' e sz rt m n c e' sz' rt' : Nat} {r s : Row} {A : Option Addr} {ps : List Slot} {css dss xss : List (List Value)} {bs : List Value} (h : Kp w base e sz rt m r s css dss) (k : LS w base' e' sz' rt' A n c ps xss) (bk : Bk w gk bs) (n1 : 39 ≠ e) (n2 : 39 ≠ rt) (d1 : rt' ≠ e) (d2 : rt' ≠ rt) (ou : Out (fun g => g = gk ∨ AtB A g) w w') : Kp w' base e sz rt m r s css dss := by
  have key : ∀ {n c : Nat} {A : Option Addr} {ps : List Slot} {xss : List (List Value)}, LS w base e sz rt A n c ps xss → LS w' base e sz rt A n c ps xss := fun l =>
    ⟨l.row.apart1 k bk ou n2 d2, l.len, fun j p cs h1 h2 => (l.each j p cs h1 h2).apart1 k bk ou n1 d1, l.inc⟩
  exact ⟨key h.ls, key h.lw, h.ap⟩
theorem Out.mono {D D' : Nat → Prop} {w w' : World} (h : Out D w w') (hd : ∀ g, D g → D' g) : Out D' w w' := ⟨h.os, h.tape, h.output, h.size, fun k hk hn => h.block k hk fun q => hn (hd k q)⟩
def nilV : Value := .slice none 0 0
/-- no block of the one is a block of the other. -/
def Dj (F G : Nat → Prop) : Prop := ∀ g, F g → ¬ G g
theorem LS.blkDj {w : World} {base base' e e' sz sz' rt rt' n c n' c' : Nat} {A A' : Option Addr} {ps ps' : List Slot} {css css' : List (List Value)} (h : LS w base e sz rt A n c ps css) (k : LS w base' e' sz' rt' A' n' c' ps' css') (n1 : e ≠ e') (n2 : e ≠ rt') (n3 : rt ≠ e') (n4 : rt ≠ rt') : Dj (Blk A ps) (Blk A' ps') := by
  rintro g (q | q) (z | z)
  · exact n1 (ty_ne (h.inb q) (k.inb z))
  · exact n2 (ty_ne (h.inb q) (k.row.atb z))
  · exact n3 (ty_ne (h.row.atb q) (k.inb z))
  · exact n4 (ty_ne (h.row.atb q) (k.row.atb z))
theorem LS.outDj {w w' : World} {base e sz rt n c : Nat} {A : Option Addr} {ps : List Slot} {css : List (List Value)} {D : Nat → Prop} (h : LS w base e sz rt A n c ps css) (ou : Out D w w') (d : Dj (Blk A ps) D) : LS w' base e sz rt A n c ps css :=
  h.out ou (fun g q => d g (Or.inr q)) (fun g q => d g (Or.inl q))
end Go.Proofs.YtmeakhiiebeneaaGreatDoor
