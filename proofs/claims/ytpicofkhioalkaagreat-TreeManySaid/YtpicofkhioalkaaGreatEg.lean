
/- What Get, Seek, Last, Put and Take answer to one that is no tree, or to a key that is too long. -/
import Derived.Test.YtpicofkhioalkaaGreatEf
set_option maxRecDepth 100000
namespace Go.Proofs.YtpicofkhioalkaaGreat
open Go Go.Lw Go.Wd Go.Am Go.Tb Go.Hm Go.Kd Go.Td
section
variable {H : Hp} {v : Value} {b : Nat} {F : List HP} {w : World}
theorem tget_no (hs : Sat (HeapH H v b :: F) w) {t : Nat} (ht : t < 18446744073709551616) (kp : Option Addr) (kl kc : Nat) (hE : ofE H t kl ≠ 0) :
    Calls Tryz.prog 15 #[.pointer (some ⟨b, 0, none⟩), .int .u64 (t : Int), .slice kp kl kc] w (Ret (.tuple #[.int .u64 0, .bool false, .int .i64 (ofE H t kl : Nat)]) (Sat (HeapH H v b :: F))) := by
  refine S_tree_Get_ok _ _ _ _ _ _ _  ?_
  unfold S_tree_Get
  refine NewC.ofRow hs fun b0 w1 h1 => NewC.ofRow h1 fun b1 w2 h2 => NewC.ofRow h2 fun b2 w3 h3 => ?_
  refine (treeof_no (h3.pull 3 rfl) ht _ _ _ hE).mono ?_
  rintro e w5 ⟨rfl, h5⟩
  refine ⟨_, _, _, rfl, ?_⟩
  refine NewC.ofRow h5 fun b9 w6 h6 => ?_
  refine StC.of h6 0 rfl (off := 0) rfl rfl fun w7 h7 => StC.of h7 0 rfl (off := 1) rfl (add_mk _ _ _) fun w8 h8 => ?_
  refine StC.of h8 2 rfl (off := 0) rfl rfl fun w9 h9 => ?_
  refine LdI.of h9 2 rfl (off := 0) rfl rfl (cond_t (by simpa using hE) ?_)
  refine ⟨fun w' => ∃ T, Sat (Row b2 [.int .i64 (ofE H t kl : Nat)] 31 :: T) w', ⟨_, Sat.pull h9.drew 2 rfl⟩, ?_⟩
  refine LdIQ.row (cs := [.int .i64 (ofE H t kl : Nat)]) (fun w ⟨T, h⟩ => ⟨_, h⟩) (off := 0) rfl rfl ?_
  refine StC.of h9.drew 4 rfl (off := 0) rfl rfl fun u0 g0 => ⟨⟨_, Sat.pull g0 2 rfl⟩, ?_⟩
  refine StC.of g0 3 rfl (off := 0) rfl rfl fun u1 g1 => ⟨⟨_, Sat.pull g1 2 rfl⟩, ?_⟩
  refine StC.of g1 2 rfl (off := 0) rfl rfl fun u9 g9 => ?_
  refine LdI.of g9 4 rfl (off := 0) rfl rfl (LdB.of g9 3 rfl (off := 0) rfl rfl (LdI.of g9 2 rfl (off := 0) rfl rfl ⟨rfl, ?_⟩))
  exact (((g9.drop).del 1 rfl).del 1 rfl).del 1 rfl
theorem ttake_no (hs : Sat (HeapH H v b :: F) w) {t : Nat} (ht : t < 18446744073709551616) (kp : Option Addr) (kl kc : Nat) (hE : ofE H t kl ≠ 0) :
    Calls Tryz.prog 10 #[.pointer (some ⟨b, 0, none⟩), .int .u64 (t : Int), .slice kp kl kc] w (Ret (.tuple #[.int .u64 0, .bool false, .int .i64 (ofE H t kl : Nat)]) (Sat (HeapH H v b :: F))) := by
  refine S_tree_Take_ok _ _ _ _ _ _ _  ?_
  unfold S_tree_Take
  refine NewC.ofRow hs fun b0 w1 h1 => NewC.ofRow h1 fun b1 w2 h2 => NewC.ofRow h2 fun b2 w3 h3 => ?_
  refine (treeof_no (h3.pull 3 rfl) ht _ _ _ hE).mono ?_
  rintro e w5 ⟨rfl, h5⟩
  refine ⟨_, _, _, rfl, ?_⟩
  refine NewC.ofRow h5 fun b9 w6 h6 => ?_
  refine StC.of h6 0 rfl (off := 0) rfl rfl fun w7 h7 => StC.of h7 0 rfl (off := 1) rfl (add_mk _ _ _) fun w8 h8 => ?_
  refine StC.of h8 2 rfl (off := 0) rfl rfl fun w9 h9 => ?_
  refine LdI.of h9 2 rfl (off := 0) rfl rfl (cond_t (by simpa using hE) ?_)
  refine ⟨fun w' => ∃ T, Sat (Row b2 [.int .i64 (ofE H t kl : Nat)] 31 :: T) w', ⟨_, Sat.pull h9.drew 2 rfl⟩, ?_⟩
  refine LdIQ.row (cs := [.int .i64 (ofE H t kl : Nat)]) (fun w ⟨T, h⟩ => ⟨_, h⟩) (off := 0) rfl rfl ?_
  refine StC.of h9.drew 4 rfl (off := 0) rfl rfl fun u0 g0 => ⟨⟨_, Sat.pull g0 2 rfl⟩, ?_⟩
  refine StC.of g0 3 rfl (off := 0) rfl rfl fun u1 g1 => ⟨⟨_, Sat.pull g1 2 rfl⟩, ?_⟩
  refine StC.of g1 2 rfl (off := 0) rfl rfl fun u9 g9 => ?_
  refine LdI.of g9 4 rfl (off := 0) rfl rfl (LdB.of g9 3 rfl (off := 0) rfl rfl (LdI.of g9 2 rfl (off := 0) rfl rfl ⟨rfl, ?_⟩))
  exact (((g9.drop).del 1 rfl).del 1 rfl).del 1 rfl
theorem tput_no (hs : Sat (HeapH H v b :: F) w) {t : Nat} (ht : t < 18446744073709551616) (kp : Option Addr) (kl kc : Nat) (x : Int) (hE : ofE H t kl ≠ 0) :
    Calls Tryz.prog 11 #[.pointer (some ⟨b, 0, none⟩), .int .u64 (t : Int), .slice kp kl kc, .int .u64 x] w (Ret (.tuple #[.int .u64 0, .bool false, .int .i64 (ofE H t kl : Nat)]) (Sat (HeapH H v b :: F))) := by
  refine S_tree_Put_ok _ _ _ _ _ _ _ _  ?_
  unfold S_tree_Put
  refine NewC.ofRow hs fun b0 w1 h1 => NewC.ofRow h1 fun b1 w2 h2 => NewC.ofRow h2 fun b2 w3 h3 => ?_
  refine (treeof_no (h3.pull 3 rfl) ht _ _ _ hE).mono ?_
  rintro e w5 ⟨rfl, h5⟩
  refine ⟨_, _, _, rfl, ?_⟩
  refine NewC.ofRow h5 fun b9 w6 h6 => ?_
  refine StC.of h6 0 rfl (off := 0) rfl rfl fun w7 h7 => StC.of h7 0 rfl (off := 1) rfl (add_mk _ _ _) fun w8 h8 => ?_
  refine StC.of h8 2 rfl (off := 0) rfl rfl fun w9 h9 => ?_
  refine LdI.of h9 2 rfl (off := 0) rfl rfl (cond_t (by simpa using hE) ?_)
  refine ⟨fun w' => ∃ T, Sat (Row b2 [.int .i64 (ofE H t kl : Nat)] 31 :: T) w', ⟨_, Sat.pull h9.drew 2 rfl⟩, ?_⟩
  refine LdIQ.row (cs := [.int .i64 (ofE H t kl : Nat)]) (fun w ⟨T, h⟩ => ⟨_, h⟩) (off := 0) rfl rfl ?_
  refine StC.of h9.drew 4 rfl (off := 0) rfl rfl fun u0 g0 => ⟨⟨_, Sat.pull g0 2 rfl⟩, ?_⟩
  refine StC.of g0 3 rfl (off := 0) rfl rfl fun u1 g1 => ⟨⟨_, Sat.pull g1 2 rfl⟩, ?_⟩
  refine StC.of g1 2 rfl (off := 0) rfl rfl fun u9 g9 => ?_
  refine LdI.of g9 4 rfl (off := 0) rfl rfl (LdB.of g9 3 rfl (off := 0) rfl rfl (LdI.of g9 2 rfl (off := 0) rfl rfl ⟨rfl, ?_⟩))
  exact (((g9.drop).del 1 rfl).del 1 rfl).del 1 rfl
theorem tseek_no (hs : Sat (HeapH H v b :: F) w) {t : Nat} (ht : t < 18446744073709551616) (kp : Option Addr) (kl kc : Nat) (hE : ofE H t kl ≠ 0) :
    Calls Tryz.prog 13 #[.pointer (some ⟨b, 0, none⟩), .int .u64 (t : Int), .slice kp kl kc] w (Ret (.tuple #[.slice none 0 0, .int .u64 0, .bool false, .int .i64 (ofE H t kl : Nat)]) (Sat (HeapH H v b :: F))) := by
  refine S_tree_Seek_ok _ _ _ _ _ _ _  ?_
  unfold S_tree_Seek
  refine NewC.ofRow hs fun b0 w1 h1 => NewC.ofRow h1 fun b1 w2 h2 => NewC.ofRow h2 fun b2 w3 h3 => NewC.ofRow h3 fun b3 w4 h4 => ?_
  refine (treeof_no (h4.pull 4 rfl) ht _ _ _ hE).mono ?_
  rintro e w5 ⟨rfl, h5⟩
  refine ⟨_, _, _, rfl, ?_⟩
  refine NewC.ofRow h5 fun b9 w6 h6 => ?_
  refine StC.of h6 0 rfl (off := 0) rfl rfl fun w7 h7 => StC.of h7 0 rfl (off := 1) rfl (add_mk _ _ _) fun w8 h8 => ?_
  refine StC.of h8 2 rfl (off := 0) rfl rfl fun w9 h9 => ?_
  refine LdI.of h9 2 rfl (off := 0) rfl rfl (cond_t (by simpa using hE) ?_)
  refine ⟨fun w' => ∃ T, Sat (Row b3 [.int .i64 (ofE H t kl : Nat)] 31 :: T) w', ⟨_, Sat.pull h9.drew 2 rfl⟩, ?_⟩
  refine LdIQ.row (cs := [.int .i64 (ofE H t kl : Nat)]) (fun w ⟨T, h⟩ => ⟨_, h⟩) (off := 0) rfl rfl ?_
  refine StC.of h9.drew 5 rfl (off := 0) rfl rfl fun u0 g0 => ⟨⟨_, Sat.pull g0 2 rfl⟩, ?_⟩
  refine StC.of g0 4 rfl (off := 0) rfl rfl fun u1 g1 => ⟨⟨_, Sat.pull g1 2 rfl⟩, ?_⟩
  refine StC.of g1 3 rfl (off := 0) rfl rfl fun u2 g2 => ⟨⟨_, Sat.pull g2 2 rfl⟩, ?_⟩
  refine StC.of g2 2 rfl (off := 0) rfl rfl fun u9 g9 => ?_
  refine LdS.of g9 5 rfl (off := 0) rfl rfl (LdI.of g9 4 rfl (off := 0) rfl rfl (LdB.of g9 3 rfl (off := 0) rfl rfl (LdI.of g9 2 rfl (off := 0) rfl rfl ⟨rfl, ?_⟩)))
  exact ((((g9.drop).del 1 rfl).del 1 rfl).del 1 rfl).del 1 rfl
theorem tlast_no (hs : Sat (HeapH H v b :: F) w) {t : Nat} (ht : t < 18446744073709551616) (kp : Option Addr) (kl kc : Nat) (hE : ofE H t kl ≠ 0) :
    Calls Tryz.prog 14 #[.pointer (some ⟨b, 0, none⟩), .int .u64 (t : Int), .slice kp kl kc] w (Ret (.tuple #[.slice none 0 0, .int .u64 0, .bool false, .int .i64 (ofE H t kl : Nat)]) (Sat (HeapH H v b :: F))) := by
  refine S_tree_Last_ok _ _ _ _ _ _ _  ?_
  unfold S_tree_Last
  refine NewC.ofRow hs fun b0 w1 h1 => NewC.ofRow h1 fun b1 w2 h2 => NewC.ofRow h2 fun b2 w3 h3 => NewC.ofRow h3 fun b3 w4 h4 => ?_
  refine (treeof_no (h4.pull 4 rfl) ht _ _ _ hE).mono ?_
  rintro e w5 ⟨rfl, h5⟩
  refine ⟨_, _, _, rfl, ?_⟩
  refine NewC.ofRow h5 fun b9 w6 h6 => ?_
  refine StC.of h6 0 rfl (off := 0) rfl rfl fun w7 h7 => StC.of h7 0 rfl (off := 1) rfl (add_mk _ _ _) fun w8 h8 => ?_
  refine StC.of h8 2 rfl (off := 0) rfl rfl fun w9 h9 => ?_
  refine LdI.of h9 2 rfl (off := 0) rfl rfl (cond_t (by simpa using hE) ?_)
  refine ⟨fun w' => ∃ T, Sat (Row b3 [.int .i64 (ofE H t kl : Nat)] 31 :: T) w', ⟨_, Sat.pull h9.drew 2 rfl⟩, ?_⟩
  refine LdIQ.row (cs := [.int .i64 (ofE H t kl : Nat)]) (fun w ⟨T, h⟩ => ⟨_, h⟩) (off := 0) rfl rfl ?_
  refine StC.of h9.drew 5 rfl (off := 0) rfl rfl fun u0 g0 => ⟨⟨_, Sat.pull g0 2 rfl⟩, ?_⟩
  refine StC.of g0 4 rfl (off := 0) rfl rfl fun u1 g1 => ⟨⟨_, Sat.pull g1 2 rfl⟩, ?_⟩
  refine StC.of g1 3 rfl (off := 0) rfl rfl fun u2 g2 => ⟨⟨_, Sat.pull g2 2 rfl⟩, ?_⟩
  refine StC.of g2 2 rfl (off := 0) rfl rfl fun u9 g9 => ?_
  refine LdS.of g9 5 rfl (off := 0) rfl rfl (LdI.of g9 4 rfl (off := 0) rfl rfl (LdB.of g9 3 rfl (off := 0) rfl rfl (LdI.of g9 2 rfl (off := 0) rfl rfl ⟨rfl, ?_⟩)))
  exact ((((g9.drop).del 1 rfl).del 1 rfl).del 1 rfl).del 1 rfl
end
end Go.Proofs.YtpicofkhioalkaaGreat
